/- The versions that are told: plain, and as a row of maps. -/
import Derived.Test.YtpnegacfanbcfaaPub
namespace Go.Proofs.Ytpnegacfanbcfaa
open Go.RowKit Go.Maps

def tab0 : Tab := fun _ => none
def lastT (acc : List Tab) : Tab := acc.getLast?.getD tab0
def tellsL (F : Int → List Ev) : Nat → List Tab → List Tab
  | 0, acc => acc
  | k + 1, acc => match F ((acc.length : Int) + 1) with
    | [e] => tellsL F k (acc ++ [laysT (lastT acc) e])
    | _ => acc
/-- the versions of a part. -/
def told (l : List Ev) (parts : Int) (start : List (Int × Int)) (part : Int) : List Tab := tellsL (pubF l parts part) (l.length + 1) [tab0.puts start]

def upTo (l : List Ev) (parts part : Int) (K : Int) : Nat := (l.filter fun e => pubB parts part e && (decide (2 ≤ e.number) && decide (e.number ≤ K))).length
theorem upTo_succ (l : List Ev) (parts part : Int) (K : Int) (hK : 1 ≤ K) : upTo l parts part (K + 1) = upTo l parts part K + (pubF l parts part (K + 1)).length := by
  unfold upTo pubF
  induction l with
  | nil => rfl
  | cons e l ih =>
    simp only [List.filter_cons]
    by_cases hp : pubB parts part e = true
    · by_cases h1 : e.number = K + 1
      · have h2 : 2 ≤ e.number := by omega
        have h3 : e.number ≤ K + 1 := by omega
        have h4 : ¬ e.number ≤ K := by omega
        simp only [hp, h1, decide_true, Bool.and_true, Bool.true_and, if_true, List.length_cons]
        have h5 : (decide (2 ≤ K + 1) && decide (K + 1 ≤ K + 1)) = true := by simp; omega
        have h6 : (decide (2 ≤ K + 1) && decide (K + 1 ≤ K)) = false := by simp; omega
        rw [h5, h6]
        simp only [if_true, Bool.false_eq_true, if_false, List.length_cons]
        omega
      · have h7 : (decide (2 ≤ e.number) && decide (e.number ≤ K + 1)) = (decide (2 ≤ e.number) && decide (e.number ≤ K)) := by
          congr 1
          rw [decide_eq_decide]
          omega
        simp only [hp, h1, h7, decide_false, Bool.and_false, Bool.true_and, Bool.false_eq_true, if_false]
        by_cases h8 : (decide (2 ≤ e.number) && decide (e.number ≤ K)) = true
        · simp only [h8, if_true, List.length_cons]
          omega
        · rw [Bool.not_eq_true] at h8
          simp only [h8, Bool.false_eq_true, if_false]
          exact ih
    · rw [Bool.not_eq_true] at hp
      simp only [hp, Bool.false_and, Bool.false_eq_true, if_false]
      exact ih
theorem upTo_le (l : List Ev) (parts part : Int) (K : Int) : upTo l parts part K ≤ l.length := List.length_filter_le _ _
theorem singles_le {l : List Ev} {parts part : Int} : ∀ (K : Nat), (∀ n : Nat, 2 ≤ n → n ≤ K + 1 → (pubF l parts part n).length = 1) → K ≤ upTo l parts part ((K : Int) + 1)
  | 0, _ => Nat.zero_le _
  | K + 1, h => by
    have ih := singles_le K (fun n h1 h2 => h n h1 (by omega))
    have e := upTo_succ l parts part ((K : Int) + 1) (by omega)
    have h1 := h (K + 2) (by omega) (by omega)
    have e1 : ((K : Int) + 1 + 1) = ((K + 2 : Nat) : Int) := by omega
    have e2 : (((K + 1 : Nat) : Int) + 1) = ((K + 2 : Nat) : Int) := by omega
    rw [e1, h1] at e
    rw [e2, e]
    omega

theorem elemMap : ElemOk Try.prog 100 72 1 8 := elemOk_of (by kernel_rfl) (by decide) (.map none) (by kernel_rfl) rfl
def mapCells (bs : List Nat) : List Value := bs.map fun b => .map (some b)
theorem mapCells_length (bs : List Nat) : (mapCells bs).length = bs.length := by simp [mapCells]
/-- a row of maps that hold tables. -/
structure Tells (w : World) (B : Nat) (v : Value) (bs : List Nat) (acc : List Tab) : Prop where
  len : bs.length = acc.length
  own : w.ownsRow B 72 1 v acc.length (mapCells bs)
  ms : ∀ (j : Nat) b t, bs[j]? = some b → acc[j]? = some t → B ≤ b ∧ MapIs Try.prog 3 (Value.int .i64 ·) w b (tabV t)
theorem Tells.below {w w' : World} {B : Nat} {v : Value} {bs : List Nat} {acc : List Tab} (h : Tells w B v bs acc) (hb : Below w.heap.size w w') : Tells w' B v bs acc :=
  ⟨h.len, own_below h.own hb, fun j b t h1 h2 => ⟨(h.ms j b t h1 h2).1, (h.ms j b t h1 h2).2.below hb⟩⟩
theorem own_made_one (w : World) (B e : Nat) (u : Value) (hB : B ≤ w.heap.size) : (w.alloc (.cells #[u] e)).ownsRow B e 1 (.slice (some ⟨w.heap.size, 0, none⟩) 1 1) 1 [u] :=
  ⟨rfl, .inr ⟨w.heap.size, 1, #[u], rfl, hB, heap_alloc_new w _, Nat.le_refl _, by unfold maxLen; omega, rfl, rfl⟩⟩
theorem map_grown {w w' : World} {B e size n b : Nat} {v : Value} {xs : List Value} {f : Int → Option Value} (hm : MapIs Try.prog 3 (Value.int .i64 ·) w b f) (ho : w.ownsRow B e size v n xs) (hg : w.grownBy w' v.ownBlock) : MapIs Try.prog 3 (Value.int .i64 ·) w' b f := by
  obtain ⟨es, c, hr⟩ := hm.raw
  exact hm.kept (hg.block b hm.lt (fun e1 => own_ne ho (fun cs hc => by rw [hr] at hc; cases hc) e1.symm))
theorem Tells.snoc {w w2 : World} {B b : Nat} {v v2 : Value} {bs : List Nat} {acc : List Tab} {t : Tab} (h : Tells w B v bs acc) (hm : MapIs Try.prog 3 (Value.int .i64 ·) w b (tabV t)) (hb : B ≤ b)
    (ho2 : w2.ownsRow B 72 1 v2 (acc.length + 1) (mapCells bs ++ [.map (some b)])) (hg2 : w.grownBy w2 v.ownBlock) : Tells w2 B v2 (bs ++ [b]) (acc ++ [t]) := by
  refine ⟨by simp [h.len], by simpa [mapCells] using ho2, fun j b' t' h1 h2 => ?_⟩
  rcases Nat.lt_trichotomy j acc.length with hj | hj | hj
  · rw [List.getElem?_append_left (by rw [h.len]; exact hj)] at h1
    rw [List.getElem?_append_left hj] at h2
    obtain ⟨g1, g2⟩ := h.ms j b' t' h1 h2
    exact ⟨g1, map_grown g2 h.own hg2⟩
  · subst hj
    rw [← h.len, List.getElem?_concat_length] at h1
    rw [List.getElem?_concat_length] at h2
    injection h1 with h1
    injection h2 with h2
    subst h1 h2
    exact ⟨hb, map_grown hm h.own hg2⟩
  · rw [List.getElem?_eq_none (by simp; omega)] at h2
    cases h2
theorem lastT_snoc (acc : List Tab) (t : Tab) : lastT (acc ++ [t]) = t := by simp [lastT]

/-- how far the telling has come. -/
structure TInv (l : List Ev) (parts part : Int) (start : List (Int × Int)) (M : Nat) (w : World) (m : Nat) (now out : Value) (wr : World) : Prop where
  ex : ∃ bs acc b, Tells wr w.heap.size out bs acc ∧ now = .map (some b) ∧ w.heap.size ≤ b ∧ MapIs Try.prog 3 (Value.int .i64 ·) wr b (tabV (lastT acc)) ∧ acc.length + m = l.length + 2 ∧ 1 ≤ acc.length ∧
    told l parts start part = tellsL (pubF l parts part) m acc ∧ ∀ n : Nat, 2 ≤ n → n ≤ acc.length → (pubF l parts part n).length = 1
  fam : ∃ f, MapIs Try.prog 3 (Value.int .i64 ·) wr M f ∧ Fam wr M f (pubF l parts part)
  b : Below w.heap.size w wr
def TellRel (l : List Ev) (parts part : Int) (start : List (Int × Int)) (M : Nat) (w : World) (k : Nat) (now out : Value) (wr : World) : Prop := TInv l parts part start M w k now out wr
def TellPost (l : List Ev) (parts part : Int) (start : List (Int × Int)) (w : World) (e : Ending) (w' : World) : Prop :=
  ∃ v bs, e = .returned v ∧ Tells w' w.heap.size v bs (told l parts start part) ∧ Below w.heap.size w w'
theorem tellsL_stop {F : Int → List Ev} {m : Nat} {acc : List Tab} (h : (F ((acc.length : Int) + 1)).length ≠ 1) : tellsL F m acc = acc := by
  cases m with
  | zero => rfl
  | succ m =>
    unfold tellsL
    split
    · rename_i e he
      rw [he] at h
      exact absurd rfl h
    · rfl
theorem tellsL_go {F : Int → List Ev} {m : Nat} {acc : List Tab} {e : Ev} (h : F ((acc.length : Int) + 1) = [e]) : tellsL F (m + 1) acc = tellsL F m (acc ++ [laysT (lastT acc) e]) := by
  rw [tellsL, h]
end Go.Proofs.Ytpnegacfanbcfaa

/- (*history).tells: the contract for every part. The events are at most 1024; sizes are at most 3000. -/
namespace Go.Proofs.Ytpnegacfanbcfaa
open Go.RowKit Go.Maps

def SRel (start : List (Int × Int)) (w : World) (k : Nat) (i : Value) (wr : World) : Prop :=
  ∃ j : Nat, j ≤ start.length ∧ i = .int .i64 j ∧ k = start.length - j ∧ MapIs Try.prog 3 (Value.int .i64 ·) wr w.heap.size (tabV (tab0.puts (start.take j))) ∧ Below w.heap.size w wr

attribute [-go_sem] loadCellsFrom
set_option maxRecDepth 100000 in
set_option maxHeartbeats 1000000 in
theorem judgeTells (l : List Ev) (parts : Int) (part : Nat) (start : List (Int × Int)) (sA : Option Addr) (sc : Nat) (H : Nat) (lA rA : Option Addr) (lc rc : Nat) (tv bv ov : Value) (w : World) (hl : l.length ≤ 1024) (hx : w.heap[H]? = some (.cells #[.slice lA l.length lc, .slice rA l.length rc, tv, bv, ov] 98 (0, 0)))
    (hrow : Row w lA (evCells l)) (hrr : Row w rA (l.map fun e => Value.bool (isB e parts))) (hok : ∀ e ∈ l, e.Ok) (hin : ∀ e ∈ l, e.In w) (hpl : ∀ e ∈ l, e.pairs.length ≤ 3000)
    (hs : Row w sA (pairCells start)) (hsl : start.length ≤ 3000) (hsk : ∀ p ∈ start, inI64 p.1) :
    Calls Try.prog 40 #[.pointer (some ⟨H, 0, none⟩), .slice sA start.length sc, .int .i64 (part : Int)] w (TellPost l parts part start w) := by
  have HX := Lib.hid hx; have HROW := Lib.hid hrow; have HRR := Lib.hid hrr; have HOK := Lib.hid hok; have HIN := Lib.hid hin; have HPL := Lib.hid hpl; have HS := Lib.hid hs; have HSK := Lib.hid hsk
  have hHlt : H < w.heap.size := (Array.getElem?_eq_some_iff.1 hx).1
  clear hx hrow hrr hok hin hpl hs hsk
  have hmm := @run_makeMap Try.prog
  go_enter Try.func40, Try.ntmps40
  go_wp2_with fail
  go_loopg [15] start.length (fun k i wr => SRel start w k i wr)
  case atStart => exact ⟨0, Nat.zero_le _, rfl, rfl, MapIs.made, (Below.refl _ _).alloc (Nat.le_refl _) _⟩
  case round =>
    obtain ⟨j, hj, rfl, rfl, hmr, hbr⟩ := hrel
    clear hmm
    by_cases hlt : j < start.length
    · obtain ⟨p, hp⟩ : ∃ p, start[j]? = some p := ⟨_, List.getElem?_eq_getElem hlt⟩
      obtain ⟨pb, poff, hA, hld⟩ := load_elem pairCell 2 (fun _ => rfl) (by decide) (l := start) (HS.out.below hbr) hp
      have hld' : (loadCellsFrom ⟨pb, poff + j * 2, none⟩ 0 2 #[]).run Try.prog wr = .ok #[.int .i64 p.1, .int .i64 p.2] wr := hld
      have HP := Lib.hid hp
      have HMR := Lib.hid (hmr.below ((Below.refl wr.heap.size wr).alloc (Nat.le_refl _) (.cells #[.int .i64 p.1, .int .i64 p.2] 58)))
      have HBR := Lib.hid (hbr.alloc hbr.size (.cells #[.int .i64 p.1, .int .i64 p.2] 58))
      have hpk := HSK.out p (List.mem_of_getElem? hp)
      have HPK := Lib.hid hpk
      clear hp hmr hbr hld hpk
      subst hA
      go_wp2_with (at_mapUpdate; refine wpList_mapUpdate_is rfl (.tmp 19) (.tmp 21) (.tmp 23) 72 rfl 3 3 (Value.int .i64 ·) keyed3' int_enc_inj Try.underlying72 w.heap.size _ rfl HMR.out p.1 rfl (key3' HPK.out) (.int .i64 p.2) rfl ?_; intro w3 hm3 hg3; rw [tabV_put] at hm3; have HM3 := Lib.hid hm3; have HG3 := Lib.hid hg3; clear hm3 hg3)
      go_roundg (start.length - (j + 1))
      case measure => omega
      case rel =>
        refine ⟨j + 1, by omega, by go_num, rfl, ?_, HBR.out.grown HG3.out HBR.out.size (fun k hk => by injection hk with hk; omega)⟩
        rw [puts_succ _ _ _ _ HP.out]
        exact HM3.out
    · have HT : Hid (start.take j = start) := List.take_of_length_le (by omega)
      have HMR := Lib.hid hmr; have HBR := Lib.hid hbr
      clear hmr hbr
      have hb1 : Below w.heap.size w (wr.alloc (.cells #[.map (some w.heap.size)] 72)) := HBR.out.alloc HBR.out.size _
      have hxw := (hb1.block _ hHlt).trans HX.out
      have ht0 : Tells (wr.alloc (.cells #[.map (some w.heap.size)] 72)) w.heap.size (.slice (some ⟨wr.heap.size, 0, none⟩) 1 1) [w.heap.size] [tab0.puts start] := by
        refine ⟨rfl, own_made_one wr _ 72 _ HBR.out.size, fun j b t h1 h2 => ?_⟩
        cases j with
        | zero =>
          injection h1 with h1
          injection h2 with h2
          subst h1 h2
          refine ⟨Nat.le_refl _, ?_⟩
          have := HMR.out
          rw [HT.out] at this
          exact this.below ((Below.refl _ _).alloc (Nat.le_refl _) _)
        | succ j => cases h1
      have HB1 := Lib.hid hb1; have HXW := Lib.hid hxw; have HT0 := Lib.hid ht0
      clear hb1 hxw ht0
      obtain ⟨w0, hw0⟩ : ∃ w0, w0 = wr := ⟨_, rfl⟩
      subst hw0
      go_wp2_with (go_at_call 66; refine (judgePublished l parts part H lA rA lc rc l.length tv bv ov _ hl HXW.out (HROW.out.below HB1.out) (HRR.out.below HB1.out) rfl HOK.out).mono ?_; rintro e1 w1 ⟨rfl, hpi⟩; have HPI := Lib.hid hpi; clear hpi)
      go_loopg [7, 10] (l.length + 1) (fun k now out wr => TellRel l parts part start (w0.heap.size + 1) w k now out wr)
      case atStart =>
        have hpi := HPI.out
        have ht := HT0.out.below hpi.b
        obtain ⟨f, hf1, hf2⟩ := hpi.ex
        rw [World.heap_size_alloc'] at hf1 hf2
        rw [List.take_length] at hf2
        exact ⟨⟨_, _, w.heap.size, ht, rfl, Nat.le_refl _, (ht.ms 0 _ _ rfl rfl).2, by simp; omega, by simp, rfl, fun n h1 h2 => absurd h2 (by simp; omega)⟩, ⟨f, hf1, hf2⟩, HB1.out.trans (hpi.b.mono HB1.out.size)⟩
      case round =>
        obtain ⟨⟨bs, acc, b, htl, rfl, hbb, hmb, hlen, h1, htold, hsing⟩, ⟨f, hfm, hff⟩, hbw⟩ := hrel
        obtain ⟨oA, oc, hov, _, _⟩ := row_of_own htl.own
        obtain ⟨vA, vc, hv, hvr, _⟩ := row_of_own (hff.own ((acc.length : Int) + 1))
        subst hov
        have hal : acc.length ≤ 1026 := by omega
        have hkey : keyOf Try.prog 3 (.int .i64 ((acc.length : Int) + 1)) = some (.int .i64 ((acc.length : Int) + 1)) := key3' (by constructor <;> omega)
        by_cases hone : (pubF l parts part ((acc.length : Int) + 1)).length = 1
        · obtain ⟨e, hF⟩ := List.length_eq_one_iff.1 hone
          have hel : e ∈ l := by
            have : e ∈ pubF l parts part ((acc.length : Int) + 1) := by rw [hF]; exact List.mem_singleton.2 rfl
            exact (List.mem_filter.1 this).1
          rw [hF] at hv hvr
          obtain ⟨vb, voff, hvA, hld⟩ := load_ev (k := 0) hvr rfl
          subst hvA
          have hld' : (loadCellsFrom ⟨vb, voff, none⟩ 0 13 #[]).run Try.prog wr = .ok e.arr wr := by simpa using hld
          obtain ⟨m', rfl⟩ : ∃ m', gk = m' + 1 := by
            cases gk with
            | zero =>
              exfalso
              have h3 := singles_le (l := l) (parts := parts) (part := part) acc.length (fun n g1 g2 => by
                rcases Nat.lt_or_ge acc.length n with g | g
                · obtain rfl : n = acc.length + 1 := by omega
                  exact hone
                · exact hsing n g1 g)
              have h4 := upTo_le l parts part ((acc.length : Int) + 1)
              omega
            | succ m' => exact ⟨m', rfl⟩
          have hv' : (f ((acc.length : Int) + 1)).getD nilV = .slice (some ⟨vb, voff, none⟩) 1 vc := hv
          have hbz := hbw.size
          have HTL := Lib.hid htl; have HMB := Lib.hid hmb; have HLEN := Lib.hid hlen; have HTO := Lib.hid htold; have HSI := Lib.hid hsing; have HFM := Lib.hid hfm; have HFF := Lib.hid hff; have HBW := Lib.hid hbw; have HV := Lib.hid hv'; have HKEY := Lib.hid hkey; have HF := Lib.hid hF; have HONE := Lib.hid hone; have HEL := Lib.hid hel
          clear htl hmb hlen htold hsing hfm hff hbw hv hv' hvr hld hkey hF hone hel
          go_wp2_with (first
            | (at_lookup; refine wpList_lookup_is rfl (.tmp 30) (.tmp 33) 119 false rfl 3 39 (Value.int .i64 ·) keyed3' int_enc_inj Try.underlying119 (w0.heap.size + 1) f rfl HFM.out ((acc.length : Int) + 1) rfl HKEY.out nilV (zero39 _) ?_; simp only [Bool.false_eq_true, if_false]; rw [HV.out])
            | (at_lookup; refine wpList_lookup_is rfl (.tmp 38) (.tmp 41) 119 false rfl 3 39 (Value.int .i64 ·) keyed3' int_enc_inj Try.underlying119 (w0.heap.size + 1) f rfl HFM.out ((acc.length : Int) + 1) rfl HKEY.out nilV (zero39 _) ?_; simp only [Bool.false_eq_true, if_false]; rw [HV.out])
            | (go_at_call 67; refine (judgeLays (lastT acc) e b _ HMB.out (HOK.out e HEL.out) ((HIN.out e HEL.out).below HBW.out) (HPL.out e HEL.out)).mono ?_; rintro e1 w1 ⟨b', rfl, hb', hm', hbl'⟩; have hz' := hbl'.size; have HM' := Lib.hid hm'; have HBL := Lib.hid hbl'; have HB' := Lib.hid hb'; clear hm' hbl')
            | (at_builtin; refine wpList_append_is rfl (.tmp 46) (.tmp 48) rfl elemMap rfl ((HTL.out.below HBL.out).own.alloc _) _ 1 _ [.map (some b')] rfl (row_new w1 [.map (some b')] 72) rfl (by simp [Value.oneCell']) (by unfold maxLen; omega) (by omega) (by show _ ≤ (w1.alloc _).heap.size; simp; omega) (fun h => by cases h) ?_; intro v6 w6 ho6 hg6 hat6; have HO6 := Lib.hid ho6; have HG6 := Lib.hid hg6; clear ho6 hg6 hat6))
          go_roundg m'
          case measure => omega
          case rel =>
            have hba : Below wr.heap.size wr (w1.alloc (.cells #[.map (some b')] 72)) := HBL.out.alloc HBL.out.size _
            have htl' := (HTL.out.below hba).snoc (HM'.out.below ((Below.refl _ _).alloc (Nat.le_refl _) _)) (Nat.le_trans HBW.out.size HB'.out) HO6.out HG6.out
            have hown := ((HTL.out.below hba).own)
            have hm6 := map_grown (HM'.out.below ((Below.refl w1.heap.size w1).alloc (Nat.le_refl _) (.cells #[.map (some b')] 72))) hown HG6.out
            have hbw6 : Below w.heap.size w w6 := (HBW.out.trans (hba.mono HBW.out.size)).grown HG6.out (Nat.le_trans HBW.out.size hba.size) (fun k hk => (hown.lt k hk).1)
            refine ⟨⟨_, _, b', htl', rfl, Nat.le_trans HBW.out.size HB'.out, by rw [lastT_snoc]; exact hm6, by have := HLEN.out; simp; omega, by simp, by rw [HTO.out, tellsL_go HF.out], fun n g1 g2 => ?_⟩, ⟨f, map_grown (HFM.out.below hba) hown HG6.out, ?_⟩, hbw6⟩
            · rw [List.length_append, List.length_singleton] at g2
              rcases Nat.lt_or_ge acc.length n with g | g
              · obtain rfl : n = acc.length + 1 := by omega
                exact HONE.out
              · exact HSI.out n g1 g
            · have hfa := HFF.out.below hba
              refine ⟨fun n => own_grown (hfa.own n) HG6.out (fun g hg e => ?_), hfa.apart⟩
              obtain ⟨cs, hc⟩ := own_block_cells (hfa.own n) hg
              obtain ⟨cs', hc'⟩ := own_block_cells hown e
              rw [hc] at hc'
              cases hc'
        · generalize hq : (pubF l parts part ((acc.length : Int) + 1)).length = q at *
          have hq1 : ((q : Int) == 1) = false := by simpa using (by omega : ¬ (q : Int) = 1)
          have HTL := Lib.hid htl; have HTO := Lib.hid htold; have HFM := Lib.hid hfm; have HBW := Lib.hid hbw; have HV := Lib.hid hv; have HKEY := Lib.hid hkey; have HQ := Lib.hid hq; have HONE := Lib.hid hone
          clear htl hmb hlen htold hsing hfm hff hbw hv hvr hkey hq hone
          go_wp2_with (at_lookup; refine wpList_lookup_is rfl (.tmp 30) (.tmp 33) 119 false rfl 3 39 (Value.int .i64 ·) keyed3' int_enc_inj Try.underlying119 (w0.heap.size + 1) f rfl HFM.out ((acc.length : Int) + 1) rfl HKEY.out nilV (zero39 _) ?_; simp only [Bool.false_eq_true, if_false]; rw [HV.out])
          go_ret
          refine ⟨_, bs, rfl, ?_, HBW.out⟩
          rw [HTO.out, tellsL_stop (by rw [HQ.out]; exact HONE.out)]
          exact HTL.out
end Go.Proofs.Ytpnegacfanbcfaa
