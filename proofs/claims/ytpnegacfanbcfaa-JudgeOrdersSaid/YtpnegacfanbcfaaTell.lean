/- (*history).tells: the contract for every part. The events are at most 1024; sizes are at most 3000. -/
import Derived.Test.YtpnegacfanbcfaaTellP
import Derived.Test.YtpnegacfanbcfaaPub
namespace Go.Proofs.Ytpnegacfanbcfaa
open Go.RowKit Go.Maps

def SRel (start : List (Int × Int)) (w : World) (k : Nat) (i : Value) (wr : World) : Prop :=
  ∃ j : Nat, j ≤ start.length ∧ i = .int .i64 j ∧ k = start.length - j ∧ MapIs Try.prog 3 (Value.int .i64 ·) wr w.heap.size (tabV (tab0.puts (start.take j))) ∧ Below w.heap.size w wr

attribute [-go_sem] loadCellsFrom
set_option maxRecDepth 100000 in
set_option maxHeartbeats 1000000 in
theorem judgeTells (l : List Ev) (parts : Int) (part : Nat) (start : List (Int × Int)) (sA : Option Addr) (sc : Nat) (H : Nat) (lA rA : Option Addr) (lc rc : Nat) (tv bv ov : Value) (w : World) (hl : l.length ≤ 1024) (hx : w.heap[H]? = some (.cells #[.slice lA l.length lc, .slice rA l.length rc, tv, bv, ov] 98 (0, 0)))
    (hrow : Row w lA (evCells l)) (hrr : Row w rA (l.map fun e => Value.bool (isB e parts))) (hok : ∀ e ∈ l, e.Ok) (hin : ∀ e ∈ l, e.In w) (hpl : ∀ e ∈ l, e.pairs.length ≤ 3000)
    (hs : Row w sA (pairCells start)) (hsl : start.length ≤ 3000) (hsk : ∀ p ∈ start, inI64 p.1) :
    Calls Try.prog 40 #[.pointer (some ⟨H, 0, none⟩), .slice sA start.length sc, .int .i64 (part : Int)] w (TellPost l parts part start w) := by
  have HX := Lib.hid hx; have HROW := Lib.hid hrow; have HRR := Lib.hid hrr; have HOK := Lib.hid hok; have HIN := Lib.hid hin; have HPL := Lib.hid hpl; have HS := Lib.hid hs; have HSK := Lib.hid hsk
  have hHlt : H < w.heap.size := (Array.getElem?_eq_some_iff.1 hx).1
  clear hx hrow hrr hok hin hpl hs hsk
  have hmm := @run_makeMap Try.prog
  go_enter Try.func40, Try.ntmps40
  go_wp2_with fail
  go_loopg [15] start.length (fun k i wr => SRel start w k i wr)
  case atStart => exact ⟨0, Nat.zero_le _, rfl, rfl, MapIs.made, (Below.refl _ _).alloc (Nat.le_refl _) _⟩
  case round =>
    obtain ⟨j, hj, rfl, rfl, hmr, hbr⟩ := hrel
    clear hmm
    by_cases hlt : j < start.length
    · obtain ⟨p, hp⟩ : ∃ p, start[j]? = some p := ⟨_, List.getElem?_eq_getElem hlt⟩
      obtain ⟨pb, poff, hA, hld⟩ := load_elem pairCell 2 (fun _ => rfl) (by decide) (l := start) (HS.out.below hbr) hp
      have hld' : (loadCellsFrom ⟨pb, poff + j * 2, none⟩ 0 2 #[]).run Try.prog wr = .ok #[.int .i64 p.1, .int .i64 p.2] wr := hld
      have HP := Lib.hid hp
      have HMR := Lib.hid (hmr.below ((Below.refl wr.heap.size wr).alloc (Nat.le_refl _) (.cells #[.int .i64 p.1, .int .i64 p.2] 58)))
      have HBR := Lib.hid (hbr.alloc hbr.size (.cells #[.int .i64 p.1, .int .i64 p.2] 58))
      have hpk := HSK.out p (List.mem_of_getElem? hp)
      have HPK := Lib.hid hpk
      clear hp hmr hbr hld hpk
      subst hA
      go_wp2_with (at_mapUpdate; refine wpList_mapUpdate_is rfl (.tmp 19) (.tmp 21) (.tmp 23) 72 rfl 3 3 (Value.int .i64 ·) keyed3' int_enc_inj Try.underlying72 w.heap.size _ rfl HMR.out p.1 rfl (key3' HPK.out) (.int .i64 p.2) rfl ?_; intro w3 hm3 hg3; rw [tabV_put] at hm3; have HM3 := Lib.hid hm3; have HG3 := Lib.hid hg3; clear hm3 hg3)
      go_roundg (start.length - (j + 1))
      case measure => omega
      case rel =>
        refine ⟨j + 1, by omega, by go_num, rfl, ?_, HBR.out.grown HG3.out HBR.out.size (fun k hk => by injection hk with hk; omega)⟩
        rw [puts_succ _ _ _ _ HP.out]
        exact HM3.out
    · have HT : Hid (start.take j = start) := List.take_of_length_le (by omega)
      have HMR := Lib.hid hmr; have HBR := Lib.hid hbr
      clear hmr hbr
      have hb1 : Below w.heap.size w (wr.alloc (.cells #[.map (some w.heap.size)] 72)) := HBR.out.alloc HBR.out.size _
      have hxw := (hb1.block _ hHlt).trans HX.out
      have ht0 : Tells (wr.alloc (.cells #[.map (some w.heap.size)] 72)) w.heap.size (.slice (some ⟨wr.heap.size, 0, none⟩) 1 1) [w.heap.size] [tab0.puts start] := by
        refine ⟨rfl, own_made_one wr _ 72 _ HBR.out.size, fun j b t h1 h2 => ?_⟩
        cases j with
        | zero =>
          injection h1 with h1
          injection h2 with h2
          subst h1 h2
          refine ⟨Nat.le_refl _, ?_⟩
          have := HMR.out
          rw [HT.out] at this
          exact this.below ((Below.refl _ _).alloc (Nat.le_refl _) _)
        | succ j => cases h1
      have HB1 := Lib.hid hb1; have HXW := Lib.hid hxw; have HT0 := Lib.hid ht0
      clear hb1 hxw ht0
      obtain ⟨w0, hw0⟩ : ∃ w0, w0 = wr := ⟨_, rfl⟩
      subst hw0
      go_wp2_with (go_at_call 66; refine (judgePublished l parts part H lA rA lc rc l.length tv bv ov _ hl HXW.out (HROW.out.below HB1.out) (HRR.out.below HB1.out) rfl HOK.out).mono ?_; rintro e1 w1 ⟨rfl, hpi⟩; have HPI := Lib.hid hpi; clear hpi)
      go_loopg [7, 10] (l.length + 1) (fun k now out wr => TellRel l parts part start (w0.heap.size + 1) w k now out wr)
      case atStart =>
        have hpi := HPI.out
        have ht := HT0.out.below hpi.b
        obtain ⟨f, hf1, hf2⟩ := hpi.ex
        rw [World.heap_size_alloc'] at hf1 hf2
        rw [List.take_length] at hf2
        exact ⟨⟨_, _, w.heap.size, ht, rfl, Nat.le_refl _, (ht.ms 0 _ _ rfl rfl).2, by simp; omega, by simp, rfl, fun n h1 h2 => absurd h2 (by simp; omega)⟩, ⟨f, hf1, hf2⟩, HB1.out.trans (hpi.b.mono HB1.out.size)⟩
      case round =>
        obtain ⟨⟨bs, acc, b, htl, rfl, hbb, hmb, hlen, h1, htold, hsing⟩, ⟨f, hfm, hff⟩, hbw⟩ := hrel
        obtain ⟨oA, oc, hov, _, _⟩ := row_of_own htl.own
        obtain ⟨vA, vc, hv, hvr, _⟩ := row_of_own (hff.own ((acc.length : Int) + 1))
        subst hov
        have hal : acc.length ≤ 1026 := by omega
        have hkey : keyOf Try.prog 3 (.int .i64 ((acc.length : Int) + 1)) = some (.int .i64 ((acc.length : Int) + 1)) := key3' (by constructor <;> omega)
        by_cases hone : (pubF l parts part ((acc.length : Int) + 1)).length = 1
        · obtain ⟨e, hF⟩ := List.length_eq_one_iff.1 hone
          have hel : e ∈ l := by
            have : e ∈ pubF l parts part ((acc.length : Int) + 1) := by rw [hF]; exact List.mem_singleton.2 rfl
            exact (List.mem_filter.1 this).1
          rw [hF] at hv hvr
          obtain ⟨vb, voff, hvA, hld⟩ := load_ev (k := 0) hvr rfl
          subst hvA
          have hld' : (loadCellsFrom ⟨vb, voff, none⟩ 0 13 #[]).run Try.prog wr = .ok e.arr wr := by simpa using hld
          obtain ⟨m', rfl⟩ : ∃ m', gk = m' + 1 := by
            cases gk with
            | zero =>
              exfalso
              have h3 := singles_le (l := l) (parts := parts) (part := part) acc.length (fun n g1 g2 => by
                rcases Nat.lt_or_ge acc.length n with g | g
                · obtain rfl : n = acc.length + 1 := by omega
                  exact hone
                · exact hsing n g1 g)
              have h4 := upTo_le l parts part ((acc.length : Int) + 1)
              omega
            | succ m' => exact ⟨m', rfl⟩
          have hv' : (f ((acc.length : Int) + 1)).getD nilV = .slice (some ⟨vb, voff, none⟩) 1 vc := hv
          have hbz := hbw.size
          have HTL := Lib.hid htl; have HMB := Lib.hid hmb; have HLEN := Lib.hid hlen; have HTO := Lib.hid htold; have HSI := Lib.hid hsing; have HFM := Lib.hid hfm; have HFF := Lib.hid hff; have HBW := Lib.hid hbw; have HV := Lib.hid hv'; have HKEY := Lib.hid hkey; have HF := Lib.hid hF; have HONE := Lib.hid hone; have HEL := Lib.hid hel
          clear htl hmb hlen htold hsing hfm hff hbw hv hv' hvr hld hkey hF hone hel
          go_wp2_with (first
            | (at_lookup; refine wpList_lookup_is rfl (.tmp 30) (.tmp 33) 119 false rfl 3 39 (Value.int .i64 ·) keyed3' int_enc_inj Try.underlying119 (w0.heap.size + 1) f rfl HFM.out ((acc.length : Int) + 1) rfl HKEY.out nilV (zero39 _) ?_; simp only [Bool.false_eq_true, if_false]; rw [HV.out])
            | (at_lookup; refine wpList_lookup_is rfl (.tmp 38) (.tmp 41) 119 false rfl 3 39 (Value.int .i64 ·) keyed3' int_enc_inj Try.underlying119 (w0.heap.size + 1) f rfl HFM.out ((acc.length : Int) + 1) rfl HKEY.out nilV (zero39 _) ?_; simp only [Bool.false_eq_true, if_false]; rw [HV.out])
            | (go_at_call 67; refine (judgeLays (lastT acc) e b _ HMB.out (HOK.out e HEL.out) ((HIN.out e HEL.out).below HBW.out) (HPL.out e HEL.out)).mono ?_; rintro e1 w1 ⟨b', rfl, hb', hm', hbl'⟩; have hz' := hbl'.size; have HM' := Lib.hid hm'; have HBL := Lib.hid hbl'; have HB' := Lib.hid hb'; clear hm' hbl')
            | (at_builtin; refine wpList_append_is rfl (.tmp 46) (.tmp 48) rfl elemMap rfl ((HTL.out.below HBL.out).own.alloc _) _ 1 _ [.map (some b')] rfl (row_new w1 [.map (some b')] 72) rfl (by simp [Value.oneCell']) (by unfold maxLen; omega) (by omega) (by show _ ≤ (w1.alloc _).heap.size; simp; omega) (fun h => by cases h) ?_; intro v6 w6 ho6 hg6 hat6; have HO6 := Lib.hid ho6; have HG6 := Lib.hid hg6; clear ho6 hg6 hat6))
          go_roundg m'
          case measure => omega
          case rel =>
            have hba : Below wr.heap.size wr (w1.alloc (.cells #[.map (some b')] 72)) := HBL.out.alloc HBL.out.size _
            have htl' := (HTL.out.below hba).snoc (HM'.out.below ((Below.refl _ _).alloc (Nat.le_refl _) _)) (Nat.le_trans HBW.out.size HB'.out) HO6.out HG6.out
            have hown := ((HTL.out.below hba).own)
            have hm6 := map_grown (HM'.out.below ((Below.refl w1.heap.size w1).alloc (Nat.le_refl _) (.cells #[.map (some b')] 72))) hown HG6.out
            have hbw6 : Below w.heap.size w w6 := (HBW.out.trans (hba.mono HBW.out.size)).grown HG6.out (Nat.le_trans HBW.out.size hba.size) (fun k hk => (hown.lt k hk).1)
            refine ⟨⟨_, _, b', htl', rfl, Nat.le_trans HBW.out.size HB'.out, by rw [lastT_snoc]; exact hm6, by have := HLEN.out; simp; omega, by simp, by rw [HTO.out, tellsL_go HF.out], fun n g1 g2 => ?_⟩, ⟨f, map_grown (HFM.out.below hba) hown HG6.out, ?_⟩, hbw6⟩
            · rw [List.length_append, List.length_singleton] at g2
              rcases Nat.lt_or_ge acc.length n with g | g
              · obtain rfl : n = acc.length + 1 := by omega
                exact HONE.out
              · exact HSI.out n g1 g
            · have hfa := HFF.out.below hba
              refine ⟨fun n => own_grown (hfa.own n) HG6.out (fun g hg e => ?_), hfa.apart⟩
              obtain ⟨cs, hc⟩ := own_block_cells (hfa.own n) hg
              obtain ⟨cs', hc'⟩ := own_block_cells hown e
              rw [hc] at hc'
              cases hc'
        · generalize hq : (pubF l parts part ((acc.length : Int) + 1)).length = q at *
          have hq1 : ((q : Int) == 1) = false := by simpa using (by omega : ¬ (q : Int) = 1)
          have HTL := Lib.hid htl; have HTO := Lib.hid htold; have HFM := Lib.hid hfm; have HBW := Lib.hid hbw; have HV := Lib.hid hv; have HKEY := Lib.hid hkey; have HQ := Lib.hid hq; have HONE := Lib.hid hone
          clear htl hmb hlen htold hsing hfm hff hbw hv hvr hkey hq hone
          go_wp2_with (at_lookup; refine wpList_lookup_is rfl (.tmp 30) (.tmp 33) 119 false rfl 3 39 (Value.int .i64 ·) keyed3' int_enc_inj Try.underlying119 (w0.heap.size + 1) f rfl HFM.out ((acc.length : Int) + 1) rfl HKEY.out nilV (zero39 _) ?_; simp only [Bool.false_eq_true, if_false]; rw [HV.out])
          go_ret
          refine ⟨_, bs, rfl, ?_, HBW.out⟩
          rw [HTO.out, tellsL_stop (by rw [HQ.out]; exact HONE.out)]
          exact HTL.out
end Go.Proofs.Ytpnegacfanbcfaa
