/- The document's judge of versions: two snapshots. -/
import Derived.Test.YtpnegacfanbcfaaVGA
namespace Go.Proofs.Ytpnegacfanbcfaa
open Go.RowKit Go.Maps

attribute [-go_sem] loadCellsFrom

set_option maxRecDepth 100000 in
set_option maxHeartbeats 8000000 in
theorem pairSS (l : List Ev) (starts : List Tl) (w0 : World) (X : Nat) (lA : Option Addr) (lc : Nat) (tv ov : Value) (outs : List Blm) (i k : Nat) (a b : Ev) (w : World) (hh : RV2 l starts w0 X lA lc tv ov outs w) (hn : outs.length ≤ 2000000)
    (ha : l[i]? = some a) (hb : l[k]? = some b) (_hl : l.length ≤ 1024) (hna : a.nums.length ≤ 3000) (hlen : a.nums.length = b.nums.length) (hka : a.kind = 4) (hkb : b.kind = 4) :
    Calls Try.prog 36 #[.pointer (some ⟨X, 0, none⟩), .int .i64 (i : Int), .int .i64 (k : Int)] w (PairPost l starts w0 X lA lc tv (outs ++ besideL i k a b) w) := by
  have hil : i < l.length := (List.getElem?_eq_some_iff.1 ha).1
  have hkl : k < l.length := (List.getElem?_eq_some_iff.1 hb).1
  have hrow := hh.hist.row
  obtain ⟨b0, off, hA, _⟩ := load_ev hrow ha
  have hx1 := hh.hist.ll
  rw [hA] at hx1
  have hltX := hh.lt
  have HIA := Lib.hid (hh.hist.evs a (List.mem_of_getElem? ha)); have HIB := Lib.hid (hh.hist.evs b (List.mem_of_getElem? hb))
  have la1 : (loadCellsFrom ⟨b0, off + i * 13, none⟩ 0 13 #[]).run Try.prog w.drew = .ok a.arr w.drew := Row.ev_at (w := w.drew) hrow ha _ _ hA
  have lb1 : (loadCellsFrom ⟨b0, off + k * 13, none⟩ 0 13 #[]).run Try.prog w.drew = .ok b.arr w.drew := Row.ev_at (w := w.drew) hrow hb _ _ hA
  have la2 : ∀ o, (loadCellsFrom ⟨b0, off + i * 13, none⟩ 0 13 #[]).run Try.prog (w.alloc o).drew = .ok a.arr (w.alloc o).drew := fun o => Row.ev_at (w := (w.alloc o).drew) (hrow.alloc o) ha _ _ hA
  have lb2 : ∀ o, (loadCellsFrom ⟨b0, off + k * 13, none⟩ 0 13 #[]).run Try.prog (w.alloc o).drew = .ok b.arr (w.alloc o).drew := fun o => Row.ev_at (w := (w.alloc o).drew) (hrow.alloc o) hb _ _ hA
  have la3 : ∀ o o', (loadCellsFrom ⟨b0, off + i * 13, none⟩ 0 13 #[]).run Try.prog ((w.alloc o).alloc o').drew = .ok a.arr ((w.alloc o).alloc o').drew := fun o o' => Row.ev_at (w := ((w.alloc o).alloc o').drew) ((hrow.alloc o).alloc o') ha _ _ hA
  have lb3 : ∀ o o', (loadCellsFrom ⟨b0, off + k * 13, none⟩ 0 13 #[]).run Try.prog ((w.alloc o).alloc o').drew = .ok b.arr ((w.alloc o).alloc o').drew := fun o o' => Row.ev_at (w := ((w.alloc o).alloc o').drew) ((hrow.alloc o).alloc o') hb _ _ hA
  unfold Ev.arr at la1 lb1 la2 lb2 la3 lb3
  have HH := Lib.hid hh; have HN := Lib.hid hn
  have HN0 : Hid (outs.length ≤ 3000000) := by show _ ≤ _; omega
  have HLN : Hid (∀ x : List Blm, x.length ≤ 2 → (outs ++ x).length ≤ 3000000) := fun x hx => by simp only [List.length_append]; omega
  clear hh hn hrow ha hb hA
  have hka' : (a.kind == 4) = true := by simpa using hka
  have hkb' : (b.kind == 4) = true := by simpa using hkb
  have HKA := Lib.hid hka; have HKB := Lib.hid hkb
  have HWA : Hid (writesB a = false) := by show _ = _; unfold writesB; rw [hka]; rfl
  have HLEN := Lib.hid hlen; have HNA := Lib.hid hna
  clear hka hkb hlen hna
  go_enter Try.func36, Try.ntmps36
  go_upto_region 0 with fail
  go_cut [6, 7] (fun p q wc => TwoRel a b w p q wc)
  case first =>
    go_region
    · go_wp2_with fail
      go_meet
      exact ⟨_, _, rfl, rfl, heap_alloc2_old w (.cells a.arr 52) (.cells b.arr 52), heap_alloc2_new w (.cells a.arr 52) (.cells b.arr 52), (((Below.refl _ _).alloc (Nat.le_refl _) (.cells a.arr 52)).alloc (by simp) (.cells b.arr 52)).drew⟩
    · go_wp2_with fail
      go_meet
      exact ⟨_, _, rfl, rfl, heap_alloc2_new w (.cells b.arr 52) (.cells a.arr 52), heap_alloc2_old w (.cells b.arr 52) (.cells a.arr 52), (((Below.refl _ _).alloc (Nat.le_refl _) (.cells b.arr 52)).alloc (by simp) (.cells a.arr 52)).drew⟩
  case rest =>
    obtain ⟨p6, p7, rfl, rfl, h6, h7, hbw⟩ := hcut
    clear la1 lb1 la2 lb2 la3 lb3 hx1
    obtain ⟨W, hW⟩ : ∃ W : World, W = wc := ⟨_, rfl⟩
    subst hW
    have HP : Hid (PrRel l starts w0 X lA lc tv outs a b p6 p7 w W) := ⟨⟨ov, HH.out.below hbw⟩, Keeps.of_below hbw HH.out.b.size, h6, h7⟩
    have a1 : W.cell? ⟨p6, 1, none⟩ = some (.int .i64 a.begin_) := cell_of_row _ _ _ _ _ _ h6
    have a3 : W.cell? ⟨p6, 3, none⟩ = some (.int .i64 a.kind) := cell_of_row _ _ _ _ _ _ h6
    have a4 : W.cell? ⟨p6, 4, none⟩ = some (.int .i64 a.part) := cell_of_row _ _ _ _ _ _ h6
    have b2 : W.cell? ⟨p7, 2, none⟩ = some (.int .i64 b.end_) := cell_of_row _ _ _ _ _ _ h7
    have b3 : W.cell? ⟨p7, 3, none⟩ = some (.int .i64 b.kind) := cell_of_row _ _ _ _ _ _ h7
    have b4 : W.cell? ⟨p7, 4, none⟩ = some (.int .i64 b.part) := cell_of_row _ _ _ _ _ _ h7
    have HBW := Lib.hid hbw
    clear h6 h7 hbw
    have HBL0 : Hid (besideL i k a b = if (decide (k < i) && ((belowB a b && belowB b a) || (aheadB b.end_ a.begin_ && belowB a b) || (aheadB a.end_ b.begin_ && belowB b a))) = true then [⟨i, k, 7⟩] else []) := by
      show _ = _
      unfold besideL
      rw [if_pos HKA.out, if_pos HKB.out, show decide ((k : Int) < (i : Int)) = decide (k < i) by rw [decide_eq_decide]; omega]
    cases hah : aheadB b.end_ a.begin_ with
    | false =>
      have HAH := Lib.hid hah
      have HBL : Hid (besideL i k a b = if (decide (k < i) && ((belowB a b && belowB b a) || (false && belowB a b) || (aheadB a.end_ b.begin_ && belowB b a))) = true then [⟨i, k, 7⟩] else []) := by show _ = _; rw [HBL0.out, hah]
      clear hah
      go_wp2_with (go_at_call 62; refine (refBefore _ _ _).mono ?_; rintro e1 w1 ⟨rfl, rfl⟩; rw [HAH.out])
      go_quiet (fail)
      have HP2 := Lib.hid (HP.out.below (below_drewN (Below.refl w1.heap.size w1) nq))
      have HBW2 : Hid (Below w.heap.size w (w1.drewN nq)) := below_drewN HBW.out nq
      obtain ⟨W2, hW2⟩ : ∃ W2, W2 = w1.drewN nq := ⟨_, rfl⟩
      rw [← hW2] at HP2 HBW2 ⊢
      clear hW2 a1 a3 a4 b2 b3 b4
      by_cases hik : k < i
      · have hikI : (k : Int) < (i : Int) := by omega
        have HIK := Lib.hid hik
        have h6 := HP2.out.a
        have h7 := HP2.out.b
        have a2 : W2.cell? ⟨p6, 2, none⟩ = some (.int .i64 a.end_) := cell_of_row _ _ 2 _ _ _ h6
        have b1 : W2.cell? ⟨p7, 1, none⟩ = some (.int .i64 b.begin_) := cell_of_row _ _ 1 _ _ _ h7
        have la2 : ∀ p : BelowOf W2, (loadCellsFrom ⟨p6, 0, none⟩ 0 13 #[]).run Try.prog p.v = .ok a.arr p.v := fun p => load_block (p.heap h6) rfl
        have lb2 : ∀ p : BelowOf W2, (loadCellsFrom ⟨p7, 0, none⟩ 0 13 #[]).run Try.prog p.v = .ok b.arr p.v := fun p => load_block (p.heap h7) rfl
        have la0 : (loadCellsFrom ⟨p6, 0, none⟩ 0 13 #[]).run Try.prog W2 = .ok a.arr W2 := load_block h6 rfl
        have lb0 : (loadCellsFrom ⟨p7, 0, none⟩ 0 13 #[]).run Try.prog W2 = .ok b.arr W2 := load_block h7 rfl
        have HAB : Hid (∀ V, Below W2.heap.size W2 V → Calls Try.prog 63 #[a.val, b.val] V fun r w' => r = .returned (.bool (belowB a b)) ∧ Below V.heap.size V w') := fun V hV => refLess a b V ((HIA.out.below HBW2.out).below hV) ((HIB.out.below HBW2.out).below hV) HNA.out HLEN.out
        have HBA : Hid (∀ V, Below W2.heap.size W2 V → Calls Try.prog 63 #[b.val, a.val] V fun r w' => r = .returned (.bool (belowB b a)) ∧ Below V.heap.size V w') := fun V hV => refLess b a V ((HIB.out.below HBW2.out).below hV) ((HIA.out.below HBW2.out).below hV) (by have := HNA.out; have := HLEN.out; omega) HLEN.out.symm
        unfold Ev.val at HAB HBA
        unfold Ev.arr at HAB HBA la2 lb2 la0 lb0
        clear h6 h7
        cases hab : belowB a b
        all_goals cases hba : belowB b a
        all_goals cases hbe : aheadB a.end_ b.begin_
        all_goals
          have HVA := Lib.hid hab; have HVB := Lib.hid hba; have HVE := Lib.hid hbe
          clear hab hba hbe
          go_wp2_with (first
            | (go_at_call 62; refine (refBefore _ _ _).mono ?_; rintro e7 w7 ⟨rfl, hw7⟩; rw [HVE.out, hw7]; clear hw7)
            | (go_at_call 63; first
                | (with_reducible refine (HAB.out _ (by first | exact Below.refl _ _ | exact BelowOf.h _)).mono ?_; rintro e8 w8 ⟨rfl, hb8⟩; rw [HVA.out]; obtain ⟨q8, rfl⟩ : ∃ q : BelowOf W2, w8 = q.v := ⟨⟨w8, Below.trans (by first | exact Below.refl _ _ | exact BelowOf.h _) (hb8.mono (by first | exact Nat.le_refl _ | exact BelowOf.le _))⟩, rfl⟩; clear hb8)
                | (with_reducible refine (HBA.out _ (by first | exact Below.refl _ _ | exact BelowOf.h _)).mono ?_; rintro e8 w8 ⟨rfl, hb8⟩; rw [HVB.out]; obtain ⟨q8, rfl⟩ : ∃ q : BelowOf W2, w8 = q.v := ⟨⟨w8, Below.trans (by first | exact Below.refl _ _ | exact BelowOf.h _) (hb8.mono (by first | exact Nat.le_refl _ | exact BelowOf.le _))⟩, rfl⟩; clear hb8))
            | (go_at_call 59; obtain ⟨ov5, hs5⟩ := (HP2.out.below q8.h).s; have HS5 := Lib.hid hs5; clear hs5; refine (refBlame l starts w0 X lA lc tv ov5 outs (i : Int) (k : Int) 7 _ HS5.out (by exact HN0.out)).mono ?_; rintro e1 w5 ⟨rfl, hk5, hst5⟩; have HK5 := Lib.hid hk5; have HST5 := Lib.hid hst5; clear hk5 hst5))
          go_end0
          first
            | (have EQ : besideL i k a b = [⟨i, k, 7⟩] := by
                 rw [HBL.out, decide_eq_true HIK.out, HVA.out, HVB.out, HVE.out]
                 rfl
               rw [EQ]
               have h := (HP2.out.below q8.h).keeps HK5.out HST5.out
               exact ⟨rfl, h.k, h.s⟩)
            | (have EQ : besideL i k a b = [] := by
                 rw [HBL.out, decide_eq_true HIK.out, HVA.out, HVB.out, HVE.out]
                 rfl
               rw [EQ, List.append_nil]
               have h := HP2.out.below q8.h
               exact ⟨rfl, h.k, h.s⟩)
      · have hikI : ¬ (k : Int) < (i : Int) := by omega
        have EQ : Hid (besideL i k a b = []) := by show _ = _; rw [HBL.out, decide_eq_false hik]; simp
        clear hik
        go_wp2_with fail
        go_end0
        rw [EQ.out, List.append_nil]
        exact ⟨rfl, HP2.out.k, HP2.out.s⟩
    | true =>
      have HAH := Lib.hid hah
      have HBL : Hid (besideL i k a b = if (decide (k < i) && ((belowB a b && belowB b a) || (true && belowB a b) || (aheadB a.end_ b.begin_ && belowB b a))) = true then [⟨i, k, 7⟩] else []) := by show _ = _; rw [HBL0.out, hah]
      clear hah
      have h6' := HP.out.a
      have la : ∀ p : BelowOf W, (loadCellsFrom ⟨p6, 0, none⟩ 0 13 #[]).run Try.prog p.v = .ok a.arr p.v := fun p => load_block (p.heap h6') rfl
      unfold Ev.arr at la
      clear h6'
      go_wp2_with (go_at_call 62; refine (refBefore _ _ _).mono ?_; rintro e1 w1 ⟨rfl, rfl⟩; rw [HAH.out])
      refine wp_region_quiet_below (w := w1) (by kernel_rfl) (by kernel_rfl) ?_
      repeat (go_big_quiet_step ((go_at_call 57; exact calls_below _ ((refWrites a _).mono fun _ _ h => ⟨h.1.trans (congrArg (fun b => Ending.returned (Value.bool b)) HWA.out), h.2⟩))))
      refine wpQuiet_nil ?_
      intro w6 hw'
      obtain ⟨q6, rfl⟩ := hw'
      clear la
      have HP2 := Lib.hid (HP.out.below q6.h)
      have HBW2 : Hid (Below w.heap.size w q6.v) := HBW.out.trans (q6.h.mono HBW.out.size)
      obtain ⟨W2, hW2⟩ : ∃ W2, W2 = q6.v := ⟨_, rfl⟩
      rw [← hW2] at HP2 HBW2 ⊢
      clear hW2 q6 a1 a3 a4 b2 b3 b4
      by_cases hik : k < i
      · have hikI : (k : Int) < (i : Int) := by omega
        have HIK := Lib.hid hik
        have h6 := HP2.out.a
        have h7 := HP2.out.b
        have a2 : W2.cell? ⟨p6, 2, none⟩ = some (.int .i64 a.end_) := cell_of_row _ _ 2 _ _ _ h6
        have b1 : W2.cell? ⟨p7, 1, none⟩ = some (.int .i64 b.begin_) := cell_of_row _ _ 1 _ _ _ h7
        have la2 : ∀ p : BelowOf W2, (loadCellsFrom ⟨p6, 0, none⟩ 0 13 #[]).run Try.prog p.v = .ok a.arr p.v := fun p => load_block (p.heap h6) rfl
        have lb2 : ∀ p : BelowOf W2, (loadCellsFrom ⟨p7, 0, none⟩ 0 13 #[]).run Try.prog p.v = .ok b.arr p.v := fun p => load_block (p.heap h7) rfl
        have la0 : (loadCellsFrom ⟨p6, 0, none⟩ 0 13 #[]).run Try.prog W2 = .ok a.arr W2 := load_block h6 rfl
        have lb0 : (loadCellsFrom ⟨p7, 0, none⟩ 0 13 #[]).run Try.prog W2 = .ok b.arr W2 := load_block h7 rfl
        have HAB : Hid (∀ V, Below W2.heap.size W2 V → Calls Try.prog 63 #[a.val, b.val] V fun r w' => r = .returned (.bool (belowB a b)) ∧ Below V.heap.size V w') := fun V hV => refLess a b V ((HIA.out.below HBW2.out).below hV) ((HIB.out.below HBW2.out).below hV) HNA.out HLEN.out
        have HBA : Hid (∀ V, Below W2.heap.size W2 V → Calls Try.prog 63 #[b.val, a.val] V fun r w' => r = .returned (.bool (belowB b a)) ∧ Below V.heap.size V w') := fun V hV => refLess b a V ((HIB.out.below HBW2.out).below hV) ((HIA.out.below HBW2.out).below hV) (by have := HNA.out; have := HLEN.out; omega) HLEN.out.symm
        unfold Ev.val at HAB HBA
        unfold Ev.arr at HAB HBA la2 lb2 la0 lb0
        clear h6 h7
        cases hab : belowB a b
        all_goals cases hba : belowB b a
        all_goals cases hbe : aheadB a.end_ b.begin_
        all_goals
          have HVA := Lib.hid hab; have HVB := Lib.hid hba; have HVE := Lib.hid hbe
          clear hab hba hbe
          go_wp2_with (first
            | (go_at_call 62; refine (refBefore _ _ _).mono ?_; rintro e7 w7 ⟨rfl, hw7⟩; rw [HVE.out, hw7]; clear hw7)
            | (go_at_call 63; first
                | (with_reducible refine (HAB.out _ (by first | exact Below.refl _ _ | exact BelowOf.h _)).mono ?_; rintro e8 w8 ⟨rfl, hb8⟩; rw [HVA.out]; obtain ⟨q8, rfl⟩ : ∃ q : BelowOf W2, w8 = q.v := ⟨⟨w8, Below.trans (by first | exact Below.refl _ _ | exact BelowOf.h _) (hb8.mono (by first | exact Nat.le_refl _ | exact BelowOf.le _))⟩, rfl⟩; clear hb8)
                | (with_reducible refine (HBA.out _ (by first | exact Below.refl _ _ | exact BelowOf.h _)).mono ?_; rintro e8 w8 ⟨rfl, hb8⟩; rw [HVB.out]; obtain ⟨q8, rfl⟩ : ∃ q : BelowOf W2, w8 = q.v := ⟨⟨w8, Below.trans (by first | exact Below.refl _ _ | exact BelowOf.h _) (hb8.mono (by first | exact Nat.le_refl _ | exact BelowOf.le _))⟩, rfl⟩; clear hb8))
            | (go_at_call 59; obtain ⟨ov5, hs5⟩ := (HP2.out.below q8.h).s; have HS5 := Lib.hid hs5; clear hs5; refine (refBlame l starts w0 X lA lc tv ov5 outs (i : Int) (k : Int) 7 _ HS5.out (by exact HN0.out)).mono ?_; rintro e1 w5 ⟨rfl, hk5, hst5⟩; have HK5 := Lib.hid hk5; have HST5 := Lib.hid hst5; clear hk5 hst5))
          go_end0
          first
            | (have EQ : besideL i k a b = [⟨i, k, 7⟩] := by
                 rw [HBL.out, decide_eq_true HIK.out, HVA.out, HVB.out, HVE.out]
                 rfl
               rw [EQ]
               have h := (HP2.out.below q8.h).keeps HK5.out HST5.out
               exact ⟨rfl, h.k, h.s⟩)
            | (have EQ : besideL i k a b = [] := by
                 rw [HBL.out, decide_eq_true HIK.out, HVA.out, HVB.out, HVE.out]
                 rfl
               rw [EQ, List.append_nil]
               have h := HP2.out.below q8.h
               exact ⟨rfl, h.k, h.s⟩)
      · have hikI : ¬ (k : Int) < (i : Int) := by omega
        have EQ : Hid (besideL i k a b = []) := by show _ = _; rw [HBL.out, decide_eq_false hik]; simp
        clear hik
        go_wp2_with fail
        go_end0
        rw [EQ.out, List.append_nil]
        exact ⟨rfl, HP2.out.k, HP2.out.s⟩
end Go.Proofs.Ytpnegacfanbcfaa
