/- The document's judge of versions: a snapshot and another event. -/
import Derived.Test.YtpnegacfanbcfaaVGA
namespace Go.Proofs.Ytpnegacfanbcfaa
open Go.RowKit Go.Maps

attribute [-go_sem] loadCellsFrom

set_option maxRecDepth 100000 in
set_option maxHeartbeats 8000000 in
theorem pairSN (l : List Ev) (starts : List Tl) (w0 : World) (X : Nat) (lA : Option Addr) (lc : Nat) (tv ov : Value) (outs : List Blm) (i k : Nat) (a b : Ev) (w : World) (hh : RV2 l starts w0 X lA lc tv ov outs w) (hn : outs.length ≤ 2000000)
    (ha : l[i]? = some a) (hb : l[k]? = some b) (_hl : l.length ≤ 1024) (hka : a.kind = 4) (hkb : ¬b.kind = 4) (_hna : a.nums.length ≤ 3000) (hbp : 0 ≤ b.part ∧ b.part < a.nums.length) :
    Calls Try.prog 36 #[.pointer (some ⟨X, 0, none⟩), .int .i64 (i : Int), .int .i64 (k : Int)] w (PairPost l starts w0 X lA lc tv (outs ++ besideL i k a b) w) := by
  have hil : i < l.length := (List.getElem?_eq_some_iff.1 ha).1
  have hkl : k < l.length := (List.getElem?_eq_some_iff.1 hb).1
  have hrow := hh.hist.row
  obtain ⟨b0, off, hA, _⟩ := load_ev hrow ha
  have hx1 := hh.hist.ll
  rw [hA] at hx1
  have hltX := hh.lt
  have HIA := Lib.hid (hh.hist.evs a (List.mem_of_getElem? ha)); have HIB := Lib.hid (hh.hist.evs b (List.mem_of_getElem? hb))
  have la1 : (loadCellsFrom ⟨b0, off + i * 13, none⟩ 0 13 #[]).run Try.prog w.drew = .ok a.arr w.drew := Row.ev_at (w := w.drew) hrow ha _ _ hA
  have lb1 : (loadCellsFrom ⟨b0, off + k * 13, none⟩ 0 13 #[]).run Try.prog w.drew = .ok b.arr w.drew := Row.ev_at (w := w.drew) hrow hb _ _ hA
  have la2 : ∀ o, (loadCellsFrom ⟨b0, off + i * 13, none⟩ 0 13 #[]).run Try.prog (w.alloc o).drew = .ok a.arr (w.alloc o).drew := fun o => Row.ev_at (w := (w.alloc o).drew) (hrow.alloc o) ha _ _ hA
  have lb2 : ∀ o, (loadCellsFrom ⟨b0, off + k * 13, none⟩ 0 13 #[]).run Try.prog (w.alloc o).drew = .ok b.arr (w.alloc o).drew := fun o => Row.ev_at (w := (w.alloc o).drew) (hrow.alloc o) hb _ _ hA
  have la3 : ∀ o o', (loadCellsFrom ⟨b0, off + i * 13, none⟩ 0 13 #[]).run Try.prog ((w.alloc o).alloc o').drew = .ok a.arr ((w.alloc o).alloc o').drew := fun o o' => Row.ev_at (w := ((w.alloc o).alloc o').drew) ((hrow.alloc o).alloc o') ha _ _ hA
  have lb3 : ∀ o o', (loadCellsFrom ⟨b0, off + k * 13, none⟩ 0 13 #[]).run Try.prog ((w.alloc o).alloc o').drew = .ok b.arr ((w.alloc o).alloc o').drew := fun o o' => Row.ev_at (w := ((w.alloc o).alloc o').drew) ((hrow.alloc o).alloc o') hb _ _ hA
  unfold Ev.arr at la1 lb1 la2 lb2 la3 lb3
  have HH := Lib.hid hh; have HN := Lib.hid hn
  have HN0 : Hid (outs.length ≤ 3000000) := by show _ ≤ _; omega
  have HLN : Hid (∀ x : List Blm, x.length ≤ 2 → (outs ++ x).length ≤ 3000000) := fun x hx => by simp only [List.length_append]; omega
  clear hh hn hrow ha hb hA
  have hka' : (a.kind == 4) = true := by simpa using hka
  have hkb' : (b.kind == 4) = false := by simpa using hkb
  have HKA := Lib.hid hka; have HKB := Lib.hid hkb
  obtain ⟨pn, hpn⟩ : ∃ pn : Nat, b.part = pn := ⟨b.part.toNat, by omega⟩
  have hpl : pn < a.nums.length := by omega
  have HPN := Lib.hid hpn
  clear hka hkb hpn hbp
  go_enter Try.func36, Try.ntmps36
  go_upto_region 0 with fail
  go_cut [6, 7] (fun p q wc => TwoRel a b w p q wc)
  case first =>
    go_region
    · go_wp2_with fail
      go_meet
      exact ⟨_, _, rfl, rfl, heap_alloc2_old w (.cells a.arr 52) (.cells b.arr 52), heap_alloc2_new w (.cells a.arr 52) (.cells b.arr 52), (((Below.refl _ _).alloc (Nat.le_refl _) (.cells a.arr 52)).alloc (by simp) (.cells b.arr 52)).drew⟩
    · go_wp2_with fail
      go_meet
      exact ⟨_, _, rfl, rfl, heap_alloc2_new w (.cells b.arr 52) (.cells a.arr 52), heap_alloc2_old w (.cells b.arr 52) (.cells a.arr 52), (((Below.refl _ _).alloc (Nat.le_refl _) (.cells b.arr 52)).alloc (by simp) (.cells a.arr 52)).drew⟩
  case rest =>
    obtain ⟨p6, p7, rfl, rfl, h6, h7, hbw⟩ := hcut
    clear la1 lb1 la2 lb2 la3 lb3 hx1
    obtain ⟨W, hW⟩ : ∃ W : World, W = wc := ⟨_, rfl⟩
    subst hW
    have HP : Hid (PrRel l starts w0 X lA lc tv outs a b p6 p7 w W) := ⟨⟨ov, HH.out.below hbw⟩, Keeps.of_below hbw HH.out.b.size, h6, h7⟩
    have a1 : W.cell? ⟨p6, 1, none⟩ = some (.int .i64 a.begin_) := cell_of_row _ _ _ _ _ _ h6
    have a3 : W.cell? ⟨p6, 3, none⟩ = some (.int .i64 a.kind) := cell_of_row _ _ _ _ _ _ h6
    have a4 : W.cell? ⟨p6, 4, none⟩ = some (.int .i64 a.part) := cell_of_row _ _ _ _ _ _ h6
    have b2 : W.cell? ⟨p7, 2, none⟩ = some (.int .i64 b.end_) := cell_of_row _ _ _ _ _ _ h7
    have b3 : W.cell? ⟨p7, 3, none⟩ = some (.int .i64 b.kind) := cell_of_row _ _ _ _ _ _ h7
    have b4 : W.cell? ⟨p7, 4, none⟩ = some (.int .i64 b.part) := cell_of_row _ _ _ _ _ _ h7
    have HBW := Lib.hid hbw
    clear h6 h7 hbw
    have h6' := HP.out.a
    have h7' := HP.out.b
    have a11 : W.cell? ⟨p6, 11, none⟩ = some (.slice a.nA a.nums.length a.nc) := cell_of_row _ _ 11 _ _ _ h6'
    have b6 : W.cell? ⟨p7, 6, none⟩ = some (.int .i64 b.number) := cell_of_row _ _ 6 _ _ _ h7'
    obtain ⟨x, hx⟩ : ∃ x, a.nums[pn]? = some x := ⟨_, List.getElem?_eq_getElem hpl⟩
    obtain ⟨nb, noff, hnA, hnc⟩ := (HIA.out.n.below HBW.out) pn (.int .i64 x) (by simp [intsZ, hx])
    have hxg : a.nums.getD pn 0 = x := by simp [List.getD, hx]
    have HXG := Lib.hid hxg
    rw [hnA] at a11
    rw [HPN.out] at b4
    have hpI : (pn : Int) < a.nums.length := by omega
    have HBL : Hid (besideL i k a b = if (aheadB b.end_ a.begin_ && decide (x < b.number)) = true then [⟨i, k, 6⟩] else []) := by
      show _ = _
      unfold besideL
      rw [if_pos HKA.out, if_neg HKB.out, HPN.out, Int.toNat_natCast, HXG.out]
    clear h6' h7' hx hnA hxg
    cases hah : aheadB b.end_ a.begin_ with
    | false =>
      have HAH := Lib.hid hah
      have EQ : Hid (besideL i k a b = []) := by show _ = _; rw [HBL.out, hah]; simp
      clear hah
      go_wp2_with (go_at_call 62; refine (refBefore _ _ _).mono ?_; rintro e1 w1 ⟨rfl, rfl⟩; rw [HAH.out])
      go_quiet (fail)
      go_wp2_with fail
      go_end0
      rw [EQ.out, List.append_nil]
      have h := HP.out.below (below_drewN (Below.refl _ _) nq)
      exact ⟨rfl, h.k, h.s⟩
    | true =>
      have HAH := Lib.hid hah
      by_cases hlt : x < b.number
      · have hlt' : decide (x < b.number) = true := by simpa using hlt
        have EQ : Hid (besideL i k a b = [⟨i, k, 6⟩]) := by show _ = _; rw [HBL.out, hah, hlt']; simp
        clear hah
        go_wp2_with (go_at_call 62; refine (refBefore _ _ _).mono ?_; rintro e1 w1 ⟨rfl, rfl⟩; rw [HAH.out])
        go_quiet (fail)
        obtain ⟨ov5, hs5⟩ := (HP.out.below (below_drewN (Below.refl _ _) nq)).s
        have HS5 := Lib.hid hs5
        clear hs5
        go_wp2_with (go_at_call 59; refine (refBlame l starts w0 X lA lc tv ov5 outs (i : Int) (k : Int) 6 _ HS5.out (by exact HN0.out)).mono ?_; rintro e1 w5 ⟨rfl, hk5, hst5⟩; have HK5 := Lib.hid hk5; have HST5 := Lib.hid hst5; clear hk5 hst5)
        go_end0
        rw [EQ.out]
        have h := (HP.out.below (below_drewN (Below.refl _ _) nq)).keeps HK5.out HST5.out
        exact ⟨rfl, h.k, h.s⟩
      · have hlt' : decide (x < b.number) = false := by simpa using hlt
        have EQ : Hid (besideL i k a b = []) := by show _ = _; rw [HBL.out, hah, hlt']; simp
        clear hah
        go_wp2_with (go_at_call 62; refine (refBefore _ _ _).mono ?_; rintro e1 w1 ⟨rfl, rfl⟩; rw [HAH.out])
        go_quiet (fail)
        go_wp2_with fail
        go_end0
        rw [EQ.out, List.append_nil]
        have h := HP.out.below (below_drewN (Below.refl _ _) nq)
        exact ⟨rfl, h.k, h.s⟩

set_option maxRecDepth 100000 in
set_option maxHeartbeats 8000000 in
theorem pairNS (l : List Ev) (starts : List Tl) (w0 : World) (X : Nat) (lA : Option Addr) (lc : Nat) (tv ov : Value) (outs : List Blm) (i k : Nat) (a b : Ev) (w : World) (hh : RV2 l starts w0 X lA lc tv ov outs w) (hn : outs.length ≤ 2000000)
    (ha : l[i]? = some a) (hb : l[k]? = some b) (_hl : l.length ≤ 1024) (hka : ¬a.kind = 4) (hkb : b.kind = 4) (hap : 0 ≤ a.part ∧ a.part < b.nums.length) :
    Calls Try.prog 36 #[.pointer (some ⟨X, 0, none⟩), .int .i64 (i : Int), .int .i64 (k : Int)] w (PairPost l starts w0 X lA lc tv (outs ++ besideL i k a b) w) := by
  have hil : i < l.length := (List.getElem?_eq_some_iff.1 ha).1
  have hkl : k < l.length := (List.getElem?_eq_some_iff.1 hb).1
  have hrow := hh.hist.row
  obtain ⟨b0, off, hA, _⟩ := load_ev hrow ha
  have hx1 := hh.hist.ll
  rw [hA] at hx1
  have hltX := hh.lt
  have HIA := Lib.hid (hh.hist.evs a (List.mem_of_getElem? ha)); have HIB := Lib.hid (hh.hist.evs b (List.mem_of_getElem? hb))
  have la1 : (loadCellsFrom ⟨b0, off + i * 13, none⟩ 0 13 #[]).run Try.prog w.drew = .ok a.arr w.drew := Row.ev_at (w := w.drew) hrow ha _ _ hA
  have lb1 : (loadCellsFrom ⟨b0, off + k * 13, none⟩ 0 13 #[]).run Try.prog w.drew = .ok b.arr w.drew := Row.ev_at (w := w.drew) hrow hb _ _ hA
  have la2 : ∀ o, (loadCellsFrom ⟨b0, off + i * 13, none⟩ 0 13 #[]).run Try.prog (w.alloc o).drew = .ok a.arr (w.alloc o).drew := fun o => Row.ev_at (w := (w.alloc o).drew) (hrow.alloc o) ha _ _ hA
  have lb2 : ∀ o, (loadCellsFrom ⟨b0, off + k * 13, none⟩ 0 13 #[]).run Try.prog (w.alloc o).drew = .ok b.arr (w.alloc o).drew := fun o => Row.ev_at (w := (w.alloc o).drew) (hrow.alloc o) hb _ _ hA
  have la3 : ∀ o o', (loadCellsFrom ⟨b0, off + i * 13, none⟩ 0 13 #[]).run Try.prog ((w.alloc o).alloc o').drew = .ok a.arr ((w.alloc o).alloc o').drew := fun o o' => Row.ev_at (w := ((w.alloc o).alloc o').drew) ((hrow.alloc o).alloc o') ha _ _ hA
  have lb3 : ∀ o o', (loadCellsFrom ⟨b0, off + k * 13, none⟩ 0 13 #[]).run Try.prog ((w.alloc o).alloc o').drew = .ok b.arr ((w.alloc o).alloc o').drew := fun o o' => Row.ev_at (w := ((w.alloc o).alloc o').drew) ((hrow.alloc o).alloc o') hb _ _ hA
  unfold Ev.arr at la1 lb1 la2 lb2 la3 lb3
  have HH := Lib.hid hh; have HN := Lib.hid hn
  have HN0 : Hid (outs.length ≤ 3000000) := by show _ ≤ _; omega
  have HLN : Hid (∀ x : List Blm, x.length ≤ 2 → (outs ++ x).length ≤ 3000000) := fun x hx => by simp only [List.length_append]; omega
  clear hh hn hrow ha hb hA
  have hka' : (a.kind == 4) = false := by simpa using hka
  have hkb' : (b.kind == 4) = true := by simpa using hkb
  have HKA := Lib.hid hka; have HKB := Lib.hid hkb
  obtain ⟨pn, hpn⟩ : ∃ pn : Nat, a.part = pn := ⟨a.part.toNat, by omega⟩
  have hpl : pn < b.nums.length := by omega
  have HPN := Lib.hid hpn
  clear hka hkb hpn hap
  go_enter Try.func36, Try.ntmps36
  go_upto_region 0 with fail
  go_cut [6, 7] (fun p q wc => TwoRel a b w p q wc)
  case first =>
    go_region
    · go_wp2_with fail
      go_meet
      exact ⟨_, _, rfl, rfl, heap_alloc2_old w (.cells a.arr 52) (.cells b.arr 52), heap_alloc2_new w (.cells a.arr 52) (.cells b.arr 52), (((Below.refl _ _).alloc (Nat.le_refl _) (.cells a.arr 52)).alloc (by simp) (.cells b.arr 52)).drew⟩
    · go_wp2_with fail
      go_meet
      exact ⟨_, _, rfl, rfl, heap_alloc2_new w (.cells b.arr 52) (.cells a.arr 52), heap_alloc2_old w (.cells b.arr 52) (.cells a.arr 52), (((Below.refl _ _).alloc (Nat.le_refl _) (.cells b.arr 52)).alloc (by simp) (.cells a.arr 52)).drew⟩
  case rest =>
    obtain ⟨p6, p7, rfl, rfl, h6, h7, hbw⟩ := hcut
    clear la1 lb1 la2 lb2 la3 lb3 hx1
    obtain ⟨W, hW⟩ : ∃ W : World, W = wc := ⟨_, rfl⟩
    subst hW
    have HP : Hid (PrRel l starts w0 X lA lc tv outs a b p6 p7 w W) := ⟨⟨ov, HH.out.below hbw⟩, Keeps.of_below hbw HH.out.b.size, h6, h7⟩
    have a1 : W.cell? ⟨p6, 1, none⟩ = some (.int .i64 a.begin_) := cell_of_row _ _ _ _ _ _ h6
    have a3 : W.cell? ⟨p6, 3, none⟩ = some (.int .i64 a.kind) := cell_of_row _ _ _ _ _ _ h6
    have a4 : W.cell? ⟨p6, 4, none⟩ = some (.int .i64 a.part) := cell_of_row _ _ _ _ _ _ h6
    have b2 : W.cell? ⟨p7, 2, none⟩ = some (.int .i64 b.end_) := cell_of_row _ _ _ _ _ _ h7
    have b3 : W.cell? ⟨p7, 3, none⟩ = some (.int .i64 b.kind) := cell_of_row _ _ _ _ _ _ h7
    have b4 : W.cell? ⟨p7, 4, none⟩ = some (.int .i64 b.part) := cell_of_row _ _ _ _ _ _ h7
    have HBW := Lib.hid hbw
    clear h6 h7 hbw
    have h6' := HP.out.a
    have h7' := HP.out.b
    have b11 : W.cell? ⟨p7, 11, none⟩ = some (.slice b.nA b.nums.length b.nc) := cell_of_row _ _ 11 _ _ _ h7'
    have a6 : W.cell? ⟨p6, 6, none⟩ = some (.int .i64 a.number) := cell_of_row _ _ 6 _ _ _ h6'
    obtain ⟨x, hx⟩ : ∃ x, b.nums[pn]? = some x := ⟨_, List.getElem?_eq_getElem hpl⟩
    obtain ⟨nb, noff, hnA, hnc⟩ := (HIB.out.n.below HBW.out) pn (.int .i64 x) (by simp [intsZ, hx])
    have hxg : b.nums.getD pn 0 = x := by simp [List.getD, hx]
    have HXG := Lib.hid hxg
    rw [hnA] at b11
    rw [HPN.out] at a4
    have hpI : (pn : Int) < b.nums.length := by omega
    have HBL : Hid (besideL i k a b = if (aheadB b.end_ a.begin_ && writesB a && decide (a.number ≤ x)) = true then [⟨i, k, 6⟩] else []) := by
      show _ = _
      unfold besideL
      rw [if_neg HKA.out, if_pos HKB.out, HPN.out, Int.toNat_natCast, HXG.out]
    have la : ∀ p : BelowOf W, (loadCellsFrom ⟨p6, 0, none⟩ 0 13 #[]).run Try.prog p.v = .ok a.arr p.v := fun p => load_block (p.heap h6') rfl
    have pa4 : ∀ p : BelowOf W, p.v.cell? ⟨p6, 4, none⟩ = some (.int .i64 (pn : Int)) := fun p => p.cell a4
    have pa6 : ∀ p : BelowOf W, p.v.cell? ⟨p6, 6, none⟩ = some (.int .i64 a.number) := fun p => p.cell a6
    have pb11 : ∀ p : BelowOf W, p.v.cell? ⟨p7, 11, none⟩ = some (.slice (some ⟨nb, noff, none⟩) b.nums.length b.nc) := fun p => p.cell b11
    have pnc : ∀ p : BelowOf W, p.v.cell? ⟨nb, noff + pn, none⟩ = some (.int .i64 x) := fun p => p.cell hnc
    unfold Ev.arr at la
    clear h6' h7' hx hnA hxg
    cases hah : aheadB b.end_ a.begin_ with
    | false =>
      have HAH := Lib.hid hah
      have EQ : Hid (besideL i k a b = []) := by show _ = _; rw [HBL.out, hah]; simp
      clear hah la pa4 pa6 pb11 pnc
      go_wp2_with (go_at_call 62; refine (refBefore _ _ _).mono ?_; rintro e1 w1 ⟨rfl, rfl⟩; rw [HAH.out])
      go_quiet (fail)
      go_wp2_with fail
      go_end0
      rw [EQ.out, List.append_nil]
      have h := HP.out.below (below_drewN (Below.refl _ _) nq)
      exact ⟨rfl, h.k, h.s⟩
    | true =>
      have HAH := Lib.hid hah
      cases hwa : writesB a with
      | false =>
        have HWA := Lib.hid hwa
        have EQ : Hid (besideL i k a b = []) := by show _ = _; rw [HBL.out, hah, hwa]; simp
        clear hah hwa
        go_wp2_with (go_at_call 62; refine (refBefore _ _ _).mono ?_; rintro e1 w1 ⟨rfl, rfl⟩; rw [HAH.out])
        refine wp_region_quiet_below (w := w1) (by kernel_rfl) (by kernel_rfl) ?_
        repeat (go_big_quiet_step ((go_at_call 57; exact calls_below _ ((refWrites a _).mono fun _ _ h => ⟨h.1.trans (congrArg (fun b => Ending.returned (Value.bool b)) HWA.out), h.2⟩))))
        refine wpQuiet_nil ?_
        intro w6 hw'
        obtain ⟨q6, rfl⟩ := hw'
        clear la pa4 pa6 pb11 pnc
        go_wp2_with fail
        go_end0
        rw [EQ.out, List.append_nil]
        have h := HP.out.below q6.h
        exact ⟨rfl, h.k, h.s⟩
      | true =>
        have HWA := Lib.hid hwa
        by_cases hlt : a.number ≤ x
        · have hlt' : decide (a.number ≤ x) = true := by simpa using hlt
          have EQ : Hid (besideL i k a b = [⟨i, k, 6⟩]) := by show _ = _; rw [HBL.out, hah, hwa, hlt']; simp
          clear hah hwa
          go_wp2_with (go_at_call 62; refine (refBefore _ _ _).mono ?_; rintro e1 w1 ⟨rfl, rfl⟩; rw [HAH.out])
          refine wp_region_quiet_below (w := w1) (by kernel_rfl) (by kernel_rfl) ?_
          repeat (go_big_quiet_step ((go_at_call 57; exact calls_below _ ((refWrites a _).mono fun _ _ h => ⟨h.1.trans (congrArg (fun b => Ending.returned (Value.bool b)) HWA.out), h.2⟩))))
          refine wpQuiet_nil ?_
          intro w6 hw'
          obtain ⟨q6, rfl⟩ := hw'
          clear la pa4 pa6 pb11 pnc
          obtain ⟨ov5, hs5⟩ := (HP.out.below q6.h).s
          have HS5 := Lib.hid hs5
          clear hs5
          go_wp2_with (go_at_call 59; refine (refBlame l starts w0 X lA lc tv ov5 outs (i : Int) (k : Int) 6 _ HS5.out (by exact HN0.out)).mono ?_; rintro e1 w5 ⟨rfl, hk5, hst5⟩; have HK5 := Lib.hid hk5; have HST5 := Lib.hid hst5; clear hk5 hst5)
          go_end0
          rw [EQ.out]
          have h := (HP.out.below q6.h).keeps HK5.out HST5.out
          exact ⟨rfl, h.k, h.s⟩
        · have hlt' : decide (a.number ≤ x) = false := by simpa using hlt
          have EQ : Hid (besideL i k a b = []) := by show _ = _; rw [HBL.out, hah, hwa, hlt']; simp
          clear hah hwa
          go_wp2_with (go_at_call 62; refine (refBefore _ _ _).mono ?_; rintro e1 w1 ⟨rfl, rfl⟩; rw [HAH.out])
          refine wp_region_quiet_below (w := w1) (by kernel_rfl) (by kernel_rfl) ?_
          repeat (go_big_quiet_step ((go_at_call 57; exact calls_below _ ((refWrites a _).mono fun _ _ h => ⟨h.1.trans (congrArg (fun b => Ending.returned (Value.bool b)) HWA.out), h.2⟩))))
          refine wpQuiet_nil ?_
          intro w6 hw'
          obtain ⟨q6, rfl⟩ := hw'
          clear la pa4 pa6 pb11 pnc
          go_wp2_with fail
          go_end0
          rw [EQ.out, List.append_nil]
          have h := HP.out.below q6.h
          exact ⟨rfl, h.k, h.s⟩
end Go.Proofs.Ytpnegacfanbcfaa
