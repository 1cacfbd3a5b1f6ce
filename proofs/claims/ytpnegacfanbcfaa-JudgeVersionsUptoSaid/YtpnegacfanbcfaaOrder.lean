/- judge.Order: the walk. -/
import Derived.Test.YtpnegacfanbcfaaOrderParts
import Derived.Test.YtpnegacfanbcfaaGoes
namespace Go.Proofs.Ytpnegacfanbcfaa
open Go.RowKit Go.Maps

/-- what Order answers. -/
def OrderPost (first : List Int) (l : List Deed) (w : World) (e : Ending) (w' : World) : Prop :=
  Below w.heap.size w w' ∧ ∃ r b, e = .returned (.tuple #[r, .bool b, .int .i64 (orderErr first l)]) ∧
    ((orderAns first l = none ∧ r = .slice none 0 0 ∧ b = false) ∨ ∃ t, orderAns first l = some t ∧ b = true ∧ w'.ownsRow w.heap.size 3 1 r t.length (ints t))
theorem orderAns_err {first : List Int} {l : List Deed} {e : Int} (h : orderErr first l = e) (he : e ≠ 0) : orderAns first l = none := by
  unfold orderAns
  rw [if_neg (by rw [h]; exact he)]
theorem OrderPost.fails {first : List Int} {l : List Deed} {w w' : World} {e : Int} (h : orderErr first l = e) (he : e ≠ 0) (hb : Below w.heap.size w w') : OrderPost first l w (.returned (.tuple #[.slice none 0 0, .bool false, .int .i64 e])) w' :=
  ⟨hb, _, _, by rw [h], .inl ⟨orderAns_err h he, rfl, rfl⟩⟩

def RightRel (n : Nat) (l : List Deed) (v : Value) (w : World) (k : Nat) (i : Value) (wr : World) : Prop :=
  ∃ j : Nat, j ≤ l.length ∧ i = .int .i64 j ∧ k = l.length - j ∧ (∀ j' d, j' < j → l[j']? = some d → rightB n d = true) ∧ Below w.heap.size w wr ∧ wr.cell? ⟨w.heap.size, 0, none⟩ = some v

attribute [-go_sem] loadCellsFrom

set_option maxRecDepth 100000 in
set_option maxHeartbeats 2000000 in
theorem order_walk (first : List Int) (l : List Deed) (fA lA : Option Addr) (fc lc : Nat) (w : World) (hrf : Row w fA (first.map (.int .i64 ·))) (hrl : Row w lA (deedCells l)) (hnl : lA = none → l.length = 0)
    (hff : ∀ x ∈ first, inI64 x) (hok : ∀ d ∈ l, d.Ok) : Calls Try.prog 9 #[.slice fA first.length fc, .slice lA l.length lc] w (OrderPost first l w) := by
  have HRF := Lib.hid hrf; have HRL := Lib.hid hrl; have HNL := Lib.hid hnl; have HFF := Lib.hid hff; have HOK := Lib.hid hok
  clear hrf hrl hnl hff hok
  by_cases h0 : first.length = 0
  · have h0' : ((first.length : Int) == 0) = true := by simp [h0]
    have HE : Hid (orderErr first l = 201) := by show _ = _; simp only [orderErr, h0]; simp
    clear h0
    go_enter Try.func9, Try.ntmps9
    go_wp2_with fail
    go_ret3
    exact OrderPost.fails HE.out (by decide) ((Below.refl _ _).alloc (Nat.le_refl _) _)
  have h0' : ((first.length : Int) == 0) = false := by
    simp
    simpa using h0
  by_cases h256 : 256 < first.length
  · have HE : Hid (orderErr first l = 201) := by show _ = _; simp only [orderErr, h256]; simp
    clear h0
    go_enter Try.func9, Try.ntmps9
    go_wp2_with fail
    go_ret3
    exact OrderPost.fails HE.out (by decide) ((Below.refl _ _).alloc (Nat.le_refl _) _)
  by_cases h64 : 64 < l.length
  · have HE : Hid (orderErr first l = 201) := by show _ = _; simp only [orderErr, h64]; simp
    clear h0
    go_enter Try.func9, Try.ntmps9
    go_wp2_with fail
    go_ret3
    exact OrderPost.fails HE.out (by decide) ((Below.refl _ _).alloc (Nat.le_refl _) _)
  have HE1 : Hid (orderErr first l = if (l.all (rightB first.length)) = false then 200 else if (l.any fun d => decide (8 < opensAt l d.begin_)) = true then 201 else 0) := by
    show _ = _
    unfold orderErr
    rw [if_neg (by omega)]
  clear h0
  go_enter Try.func9, Try.ntmps9
  go_wp2_with fail
  go_loopg [33] l.length (fun k i wr => RightRel first.length l (.slice lA l.length lc) w k i wr)
  case atStart => exact ⟨0, Nat.zero_le _, rfl, rfl, fun j' d h => absurd h (Nat.not_lt_zero _), (Below.refl _ _).alloc (Nat.le_refl _) _, cell_new _ _ _⟩
  case round =>
    obtain ⟨j, hj, rfl, rfl, hno, hbw, hbox⟩ := hrel
    obtain ⟨wo, rfl⟩ : ∃ wo : World, wo = wr := ⟨_, rfl⟩
    have HNO := Lib.hid hno; have HBW := Lib.hid hbw; have HBOX := Lib.hid hbox
    clear hno
    by_cases hlt : j < l.length
    · obtain ⟨d, hd⟩ : ∃ d, l[j]? = some d := ⟨_, List.getElem?_eq_getElem hlt⟩
      obtain ⟨lb, loff, hA, hld⟩ := load_deed (HRL.out.below hbw) hd
      have HD := Lib.hid hd
      clear hbw hd hbox
      subst hA
      go_wp2_with (go_at_call 24; refine (judgeTimes _ _ _).mono ?_; rintro e1 w1 ⟨rfl, rfl⟩)
      · have hr : rightB first.length d = false := by
          go_tidy
          clear hld
          simp only [rightB]
          grind
        go_ret3
        refine OrderPost.fails (e := 200) ?_ (by decide) ?_
        · rw [HE1.out, if_pos (List.all_eq_false.2 ⟨d, List.mem_of_getElem? HD.out, by rw [hr]; decide⟩)]
        · exact HBW.out.alloc HBW.out.size _
      · have hr : rightB first.length d = true := by
          go_tidy
          clear hld
          simp only [rightB]
          grind
        go_roundg (l.length - (j + 1))
        case measure => omega
        case rel =>
          refine ⟨j + 1, by omega, by go_num, rfl, fun j' d' hj' hd' => ?_, HBW.out.alloc HBW.out.size _, cell_below ((Below.refl _ _).alloc (Nat.le_refl _) _) _ _ HBOX.out⟩
          rcases Nat.lt_or_ge j' j with h | h
          · exact HNO.out j' d' h hd'
          · obtain rfl : j' = j := by omega
            rw [HD.out] at hd'
            injection hd' with hd'
            subst hd'
            exact hr
      · have hr : rightB first.length d = false := by
          go_tidy
          clear hld
          simp only [rightB]
          grind
        go_ret3
        refine OrderPost.fails (e := 200) ?_ (by decide) ?_
        · rw [HE1.out, if_pos (List.all_eq_false.2 ⟨d, List.mem_of_getElem? HD.out, by rw [hr]; decide⟩)]
        · exact HBW.out.alloc HBW.out.size _
      · have hr : rightB first.length d = false := by
          go_tidy
          clear hld
          simp only [rightB]
          grind
        go_ret3
        refine OrderPost.fails (e := 200) ?_ (by decide) ?_
        · rw [HE1.out, if_pos (List.all_eq_false.2 ⟨d, List.mem_of_getElem? HD.out, by rw [hr]; decide⟩)]
        · exact HBW.out.alloc HBW.out.size _
      · have hr : rightB first.length d = false := by
          go_tidy
          clear hld
          simp only [rightB]
          grind
        go_ret3
        refine OrderPost.fails (e := 200) ?_ (by decide) ?_
        · rw [HE1.out, if_pos (List.all_eq_false.2 ⟨d, List.mem_of_getElem? HD.out, by rw [hr]; decide⟩)]
        · exact HBW.out.alloc HBW.out.size _
      · have hr : rightB first.length d = false := by
          go_tidy
          clear hld
          simp only [rightB]
          grind
        go_ret3
        refine OrderPost.fails (e := 200) ?_ (by decide) ?_
        · rw [HE1.out, if_pos (List.all_eq_false.2 ⟨d, List.mem_of_getElem? HD.out, by rw [hr]; decide⟩)]
        · exact HBW.out.alloc HBW.out.size _
    · have HALL : Hid ((l.all (rightB first.length)) = true) := by
        show _ = _
        rw [List.all_eq_true]
        intro d hd
        obtain ⟨i, hi⟩ := List.getElem?_of_mem hd
        exact HNO.out i d (by have := (List.getElem?_eq_some_iff.1 hi).1; omega) hi
      clear hbw
      go_wp2_with fail
      refine (containsFunc l lA lc w.heap.size wo (by omega) (HRL.out.below HBW.out) HBOX.out).mono ?_
      rintro e1 w1 ⟨rfl, hb1⟩
      have hbw1 : Below w.heap.size w w1 := HBW.out.trans (hb1.mono HBW.out.size)
      have HBW1 := Lib.hid hbw1
      have hbox1 := cell_below hb1 _ _ HBOX.out
      clear hb1 hbox hbw1
      cases hany : l.any fun d => decide (8 < opensAt l d.begin_) with
      | true =>
        have HANY := Lib.hid hany; clear hany
        go_wp2_with fail
        go_ret3
        exact OrderPost.fails (e := 201) (by rw [HE1.out, if_neg (by rw [HALL.out]; decide), if_pos HANY.out]) (by decide) HBW1.out
      | false =>
        have HE0 : Hid (orderErr first l = 0) := by
          show _ = _
          rw [HE1.out, if_neg (by rw [HALL.out]; decide), if_neg (by rw [hany]; decide)]
        clear hany
        have hmm := @run_makeMap Try.prog
        go_wp2_with (first
          | (go_at_call 28; refine (cloneDeeds lA l.length lc (deedCells l) _ (HRL.out.below HBW1.out) (deedCells_length l) (deedCells_oneCell l) (by omega) HNL.out).mono ?_; rintro e2 w2 ⟨cv, rfl, ho2, hb2⟩; have hbox2 := cell_below hb2 _ _ hbox1; have hbox4 : ∀ (o1 o2 o3 o4 : Obj), ((((w2.alloc o1).alloc o2).alloc o3).alloc o4).cell? ⟨w.heap.size, 0, none⟩ = some (.slice lA l.length lc) := fun o1 o2 o3 o4 => cell_below (((((Below.refl _ _).alloc (Nat.le_refl _) _).alloc (by simp) _).alloc (by simp; omega) _).alloc (by simp; omega) _) _ _ hbox2; have HB2 := Lib.hid hb2; obtain ⟨sA, sc, rfl, hrow2, hn2⟩ := row_of_own ho2; have HO2 := Lib.hid ho2; have HROW2 := Lib.hid hrow2; clear ho2 hb2 hbox1 hrow2 hn2)
          | (refine wpList_alloc_agg rfl 71 rfl z71a zero71a ?_))
        clear hbox4 hbox2
        have hB0 : w.heap.size ≤ w2.heap.size := Nat.le_trans HBW1.out.size HB2.out.size
        have hO0 := oinv_start (first := first) (B := w.heap.size) (w := w) hB0 (HBW1.out.trans (HB2.out.mono HBW1.out.size)) (own_base HO2.out HBW1.out.size)
        have HO0 := Lib.hid hO0
        clear hO0
        go_loopg [77] l.length (fun k i wr => ORelO first l sA sc w.heap.size w2.heap.size w k i wr)
        case atStart => exact ⟨0, Nat.zero_le _, rfl, rfl, HO0.out⟩
        case round =>
          obtain ⟨j2, hj2, rfl, rfl, cA, cc, hO⟩ := hrel
          obtain ⟨wp, rfl⟩ : ∃ wp : World, wp = wr := ⟨_, rfl⟩
          have HO := Lib.hid hO
          by_cases hlt2 : j2 < l.length
          · obtain ⟨d, hd⟩ : ∃ d, l[j2]? = some d := ⟨_, List.getElem?_eq_getElem hlt2⟩
            obtain ⟨lb, loff, hA, hld⟩ := load_deed (HRL.out.below hO.b) hd
            have HD := Lib.hid hd
            have hdok := HOK.out d (List.mem_of_getElem? hd)
            have hright : rightB first.length d = true := List.all_eq_true.1 HALL.out d (List.mem_of_getElem? hd)
            have ha0 : 0 ≤ d.a := by simp only [rightB, Bool.and_eq_true, decide_eq_true_eq] at hright; omega
            have ha1 : d.a < first.length := by simp only [rightB, Bool.and_eq_true, decide_eq_true_eq] at hright; omega
            have hkey := key3 hdok.a
            have HKEY := Lib.hid hkey
            have hnum := num_ok_take l j2
            have HNUM := Lib.hid hnum
            clear hd hdok hright hkey hnum hO
            subst hA
            go_upto_if 90 with (at_lookup; refine wpList_lookup_is rfl (.tmp 83) (.tmp 85) 72 true rfl 3 3 (Value.int .i64 ·) keyed3 int_enc_inj Try.underlying72 (w2.heap.size + 1 + 1 + 1) _ rfl (HO.out.n.1.below ((Below.refl _ _).alloc (Nat.le_refl _) _)) d.a rfl HKEY.out (.int .i64 0) (zero3 _) ?_; simp only [if_true]; generalize hiv : ((seenF (num (List.take j2 l)).seen d.a).getD (.int .i64 0)) = iv; generalize hob : (seenF (num (List.take j2 l)).seen d.a).isSome = ob; have HIV := Lib.hid hiv; have HOB := Lib.hid hob; clear hiv hob)
            go_cut [14] (fun i wc => MidRel first l sA sc w.heap.size w2.heap.size w j2 d wp.heap.size i wc)
            case first =>
              have hO3 := HO.out.below ((Below.refl wp.heap.size wp).alloc (Nat.le_refl _) (.cells d.arr 27)) (Nat.le_trans HO.out.bm (Nat.le_of_lt HO.out.lts.1))
              have HO3 := Lib.hid hO3
              have hD3 : (wp.alloc (.cells d.arr 27)).heap[wp.heap.size]? = some (.cells d.arr 27 (0, 0)) := heap_alloc_new wp _
              have HD3 := Lib.hid hD3
              have hsl : (num (l.take j2)).seen.length < 64 := by
                have h1 := HNUM.out.le
                have h2 := List.length_take_le j2 l
                omega
              clear hO3 hD3
              cases ob with
              | true =>
                have hin : d.a ∈ (num (l.take j2)).seen := by
                  have := HOB.out
                  rw [seenF_some, decide_eq_true_eq] at this
                  exact this
                have HIN := Lib.hid hin
                clear hin
                go_wp2_with fail
                go_meet
                refine ⟨cA, cc, ?_, HD3.out, ?_⟩
                · rw [← HIV.out, seenF_in HIN.out]
                  rfl
                · rw [seen_succ_in HD.out HIN.out]
                  exact HO3.out
              | false =>
                have hin : d.a ∉ (num (l.take j2)).seen := by
                  have := HOB.out
                  rw [seenF_some, decide_eq_false_iff_not] at this
                  exact this
                have hgf : first[d.a.toNat]? = some (first[d.a.toNat]'(by omega)) := List.getElem?_eq_getElem (by omega)
                generalize first[d.a.toNat]'(by omega) = fv at hgf
                obtain ⟨fb, foff, hfA, hfc⟩ := HRF.out d.a.toNat (.int .i64 fv) (by rw [List.getElem?_map, hgf]; rfl)
                obtain ⟨u, hu⟩ := start_cell (first := first) hsl
                have HIN := Lib.hid hin; have HGF := Lib.hid hgf; have HFC := Lib.hid hfc; have HU := Lib.hid hu
                have hslI : ((num (l.take j2)).seen.length : Int) < 64 := by omega
                clear hin hgf hfc hu
                subst hfA
                generalize hsn : (num (l.take j2)).seen.length = sn at *
                have HSN := Lib.hid hsn; clear hsn
                go_wp2_with (first
                  | (at_len; refine wpList_len_is rfl (.tmp 91) 72 rfl 3 3 (Value.int .i64 ·) Try.underlying72 (w2.heap.size + 1 + 1 + 1) _ _ rfl HO3.out.n ?_)
                  | (at_mapUpdate; refine wpList_mapUpdate_new rfl (.tmp 93) (.tmp 95) (.tmp 96) 72 rfl 3 3 (Value.int .i64 ·) keyed3 int_enc_inj Try.underlying72 (w2.heap.size + 1 + 1 + 1) _ _ rfl HO3.out.n d.a rfl HKEY.out (.int .i64 (sn : Int)) rfl (seenF_out HIN.out) ?_
                     intro w4 hm4 hg4
                     have hO4 := HO3.out.setN hg4 hm4
                     have hD4 : w4.heap[wp.heap.size]? = some (.cells d.arr 27 (0, 0)) := (hg4.block _ (by simp) (fun e => by injection e with e; have := HO.out.lts.2.2.2; omega)).trans HD3.out
                     have k3 : w4.cell? ⟨wp.heap.size, 3, none⟩ = some (.int .i64 d.a) := cell_of_row w4 _ _ _ _ _ hD4
                     have kf : w4.cell? ⟨fb, foff + d.a.toNat, none⟩ = some (.int .i64 fv) := cell_below hO4.b _ _ HFC.out
                     have ks : w4.cell? ⟨w2.heap.size + 1 + 1, 1 + sn, none⟩ = some u := (cell_of_row w4 _ _ _ _ _ hO4.s).trans HU.out
                     have kz : w4.frozen? ⟨w2.heap.size + 1 + 1, 1 + sn, none⟩ = false := frozen_block hO4.s
                     have HO4 := Lib.hid hO4; have HD4 := Lib.hid hD4
                     clear hO4 hD4 hm4 hg4))
                go_meet
                refine ⟨cA, cc, ?_, ?_, ?_⟩
                · rw [List.idxOf_eq_length HIN.out, HSN.out]
                · exact (Below.heap_setCell _ _ _ _ (by have := HO.out.lts.2.2.1; show wp.heap.size ≠ w2.heap.size + 1 + 1; omega)).trans HD4.out
                · have h1 := HO4.out.setS (1 + sn) (.int .i64 fv)
                  rw [← HSN.out, start_new first _ d.a fv (by have := HSN.out; omega) HGF.out, seenF_new _ _ HIN.out] at h1
                  rw [seen_succ_out HD.out HIN.out, List.length_append]
                  rw [← HSN.out]
                  exact h1
            case rest =>
              obtain ⟨cA2, cc2, hi14, hD5, hO5⟩ := hcut
              subst hi14
              have hO5a := hO5.below ((Below.refl wc.heap.size wc).alloc (Nat.le_refl _) (.cells #[.int .i64 ((num (l.take j2)).seen.idxOf d.a : Nat)] 3)) (Nat.le_trans hO5.bm (Nat.le_of_lt hO5.lts.1))
              have hD5a : (wc.alloc (.cells #[.int .i64 ((num (l.take j2)).seen.idxOf d.a : Nat)] 3)).heap[wp.heap.size]? = some (.cells d.arr 27 (0, 0)) := (Below.heap_alloc _ _ _ (Array.getElem?_eq_some_iff.1 hD5).1).trans hD5
              obtain ⟨x0, x1, x2, x3⟩ := hO5.xcells
              have hltx : w2.heap.size + 1 < wc.heap.size := hO5.lts.2.1
              have HO5 := Lib.hid hO5; have HO5A := Lib.hid hO5a; have HD5A := Lib.hid hD5a
              have hj64 : j2 < 64 := by omega
              clear hD5 hO5 hO5a hD5a
              by_cases he : d.end_ = 0
              · have he' : (d.end_ != 0) = false := by simp [he]
                have HEE := Lib.hid he
                clear he
                go_wp2_with (at_builtin; refine wpList_append_is rfl (.tmp 109) (.tmp 111) rfl elemInt rfl HO5A.out.o _ 1 _ [.int .i64 ((num (l.take j2)).seen.idxOf d.a : Nat)] rfl (row_one (cell_new _ _ _)) rfl (by simp [Value.oneCell']) (by unfold maxLen; omega) (by omega) (Nat.le_trans HO5A.out.bm (Nat.le_of_lt HO5A.out.lts.1)) (fun e => by cases e) ?_
                             intro v6 w6 ho6 hg6 hat6
                             obtain ⟨A6, c6, rfl, _, _⟩ := row_of_own ho6
                             have hO6 := HO5A.out.append hg6 ho6
                             have y1 := hO6.xcells.2.1
                             have yz : w6.frozen? ⟨w2.heap.size + 1, 1, none⟩ = false := frozen_block hO6.x
                             have hD6 : w6.heap[wp.heap.size]? = some (.cells d.arr 27 (0, 0)) := (hg6.block _ (Array.getElem?_eq_some_iff.1 HD5A.out).1 (fun e => own_ne HO5A.out.o (fun cs hc => by rw [HD5A.out] at hc; injection hc with hc; injection hc with _ hc; cases hc) e.symm)).trans HD5A.out
                             have ye : ∀ u, (w6.setCell ⟨w2.heap.size + 1, 1, none⟩ u).cell? ⟨wp.heap.size, 1, none⟩ = some (.int .i64 d.end_) := fun u => cell_of_row _ _ 1 _ _ _ ((Below.heap_setCell _ _ _ _ (by have := HO.out.lts.2.1; show wp.heap.size ≠ w2.heap.size + 1; omega)).trans hD6)
                             have HO6 := Lib.hid hO6; have HD6 := Lib.hid hD6
                             clear hO6 hD6 ho6 hg6 hat6)
                go_roundg (l.length - (j2 + 1))
                case measure => omega
                case rel =>
                  refine ⟨j2 + 1, by omega, by go_num, rfl, A6, c6, ?_⟩
                  rw [num_succ_ci HD.out, num_succ_en HD.out, if_pos HEE.out, ints_snoc]
                  exact HO6.out.setX1 _
              · have he' : (d.end_ != 0) = true := by simpa using he
                have HEE := Lib.hid he
                clear he
                go_wp2_with (at_builtin; refine wpList_append_is rfl (.tmp 109) (.tmp 111) rfl elemInt rfl HO5A.out.o _ 1 _ [.int .i64 ((num (l.take j2)).seen.idxOf d.a : Nat)] rfl (row_one (cell_new _ _ _)) rfl (by simp [Value.oneCell']) (by unfold maxLen; omega) (by omega) (Nat.le_trans HO5A.out.bm (Nat.le_of_lt HO5A.out.lts.1)) (fun e => by cases e) ?_
                             intro v6 w6 ho6 hg6 hat6
                             obtain ⟨A6, c6, rfl, _, _⟩ := row_of_own ho6
                             have hO6 := HO5A.out.append hg6 ho6
                             have y1 := hO6.xcells.2.1
                             have yz : w6.frozen? ⟨w2.heap.size + 1, 1, none⟩ = false := frozen_block hO6.x
                             have hD6 : w6.heap[wp.heap.size]? = some (.cells d.arr 27 (0, 0)) := (hg6.block _ (Array.getElem?_eq_some_iff.1 HD5A.out).1 (fun e => own_ne HO5A.out.o (fun cs hc => by rw [HD5A.out] at hc; injection hc with hc; injection hc with _ hc; cases hc) e.symm)).trans HD5A.out
                             have ye : ∀ u, (w6.setCell ⟨w2.heap.size + 1, 1, none⟩ u).cell? ⟨wp.heap.size, 1, none⟩ = some (.int .i64 d.end_) := fun u => cell_of_row _ _ 1 _ _ _ ((Below.heap_setCell _ _ _ _ (by have := HO.out.lts.2.1; show wp.heap.size ≠ w2.heap.size + 1; omega)).trans hD6)
                             have HO6 := Lib.hid hO6; have HD6 := Lib.hid hD6
                             clear hO6 hD6 ho6 hg6 hat6)
                obtain ⟨W7, hW7⟩ : ∃ W7, W7 = w6.setCell ⟨w2.heap.size + 1, 1, none⟩ (.slice A6 (j2 + 1) c6) := ⟨_, rfl⟩
                rw [← hW7]
                have HW7 := Lib.hid hW7; clear hW7
                have hO7 := HO6.out.setX1 (.slice A6 (j2 + 1) c6)
                rw [← HW7.out] at hO7
                have z2 := hO7.xcells.2.2.1
                have zz : W7.frozen? ⟨w2.heap.size + 1, 2, none⟩ = false := frozen_block hO7.x
                have HO7 := Lib.hid hO7
                clear hO7 y1 yz ye
                go_region
                go_wp2_with fail
                go_roundg (l.length - (j2 + 1))
                case measure => omega
                case rel =>
                  refine ⟨j2 + 1, by omega, by go_num, rfl, A6, c6, ?_⟩
                  rw [num_succ_ci HD.out, num_succ_en HD.out, if_neg HEE.out, ints_snoc]
                  have h1 := (HO7.out.setX2 ((num (l.take j2)).en ||| 2 ^ j2)).drewN 1
                  rw [← en_or (by omega) hj64] at h1
                  exact h1
          · have hjl : j2 = l.length := by omega
            subst hjl
            obtain ⟨cA', cc', hE, hB, hM, hs⟩ := oinv_env (first := first) ⟨cA, cc, HO.out⟩
            have hseen : (num l).seen.length ≤ 64 := Nat.le_trans (num_ok l).le (by omega)
            have hst := start_ok hseen HFF.out
            have hsz : (start first (num l).seen).vals.toArray.size = 65 := by simpa using St.vals_length hst
            have hld := load_block hs hsz
            have hen : (num l).en < 18446744073709551616 := by
              have := en_lt (l := l) l.length (by omega)
              rwa [List.take_length] at this
            have hgo := goes_walk l (num l).ci (num l).en (w2.heap.size + 1) w2.heap.size sA cA' sc cc' (by omega) (num_ok l).ci (fun i hi => Nat.lt_of_lt_of_le ((num_ok l).lt i hi) hseen) HOK.out hen _ (start first (num l).seen) wp (.slice none 0 0) [] w.heap.size rfl hst (by
              have : missing l.length (start first (num l).seen) ≤ l.length := by
                have := List.countP_le_length (p := fun k => !(start first (num l).seen).inn.testBit k) (l := List.range l.length)
                simpa [missing] using this
              simp
              omega) hE (World.ownsRow_nil _ _ _ _) hB.size
            have HGO := Lib.hid hgo; have HBB := Lib.hid hB
            clear hE hs hst hsz hen hgo hB hO
            go_wp2_with (go_at_call 29; refine HGO.out.mono ?_; rintro e7 w7 ⟨hE7, hg7, r7, b7, rfl, hf7⟩; have HG7 := Lib.hid hg7; have HF7 := Lib.hid hf7; clear hE7 hg7 hf7)
            go_ret3
            refine ⟨HBB.out.grown HG7.out HBB.out.size (fun k hk => by injection hk with hk; omega), r7, b7, by rw [HE0.out]; rfl, ?_⟩
            have hans : orderAns first l = least l (num l).ci (num l).en (start first (num l).seen) := by
              unfold orderAns
              rw [if_pos HE0.out]
            rw [hans]
            rcases HF7.out with h | ⟨t, h1, h2, h3⟩
            · exact .inl h
            · exact .inr ⟨t, h1, h2, by simpa using h3⟩
end Go.Proofs.Ytpnegacfanbcfaa
