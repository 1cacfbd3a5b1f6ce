/- (*history).beside: one of its walks (besideSS). Printed by gen_beside.py. -/
import Derived.Test.YtpnegacfanbcfaaWr
import Derived.Test.YtpnegacfanbcfaaQuiet
namespace Go.Proofs.Ytpnegacfanbcfaa
open Go.RowKit Go.Maps

attribute [-go_sem] loadCellsFrom
set_option maxRecDepth 100000 in
set_option maxHeartbeats 4000000 in
theorem besideSS (l : List Ev) (B H : Nat) (lA : Option Addr) (lc : Nat) (rv tv bv ov : Value) (outs : List Blm) (i k : Nat) (a b : Ev) (w : World) (hh : HSt l B H lA lc rv tv bv ov outs w) (hn : outs.length ≤ 2000000)
    (hrow : Row w lA (evCells l)) (ha : l[i]? = some a) (hb : l[k]? = some b) (_hl : l.length ≤ 1024) (hia : a.In w) (hib : b.In w) (hna : a.nums.length ≤ 3000) (hlen : a.nums.length = b.nums.length) (hka : a.kind = 4) (hkb : b.kind = 4) :
    Calls Try.prog 42 #[.pointer (some ⟨H, 0, none⟩), .int .i64 (i : Int), .int .i64 (k : Int)] w (BesidePost l B H lA lc rv tv bv (outs ++ besideL i k a b) w) := by
  have hil : i < l.length := (List.getElem?_eq_some_iff.1 ha).1
  have hkl : k < l.length := (List.getElem?_eq_some_iff.1 hb).1
  obtain ⟨b0, off, hA, _⟩ := load_ev hrow ha
  subst hA
  have HH := Lib.hid hh; have HN := Lib.hid hn; have HROW := Lib.hid hrow; have HEA := Lib.hid ha; have HEB := Lib.hid hb
  have c0 : w.cell? ⟨H, 0, none⟩ = some (.slice (some ⟨b0, off, none⟩) l.length lc) := cell_of_row _ _ _ _ _ _ hh.x
  have hltH := hh.lt
  have la1 : (loadCellsFrom ⟨b0, off + i * 13, none⟩ 0 13 #[]).run Try.prog w.drew = .ok a.arr w.drew := Row.ev_at (w := w.drew) hrow ha _ _ rfl
  have lb1 : (loadCellsFrom ⟨b0, off + k * 13, none⟩ 0 13 #[]).run Try.prog w.drew = .ok b.arr w.drew := Row.ev_at (w := w.drew) hrow hb _ _ rfl
  have la2 : ∀ o, (loadCellsFrom ⟨b0, off + i * 13, none⟩ 0 13 #[]).run Try.prog (w.alloc o).drew = .ok a.arr (w.alloc o).drew := fun o => Row.ev_at (w := (w.alloc o).drew) (hrow.alloc o) ha _ _ rfl
  have lb2 : ∀ o, (loadCellsFrom ⟨b0, off + k * 13, none⟩ 0 13 #[]).run Try.prog (w.alloc o).drew = .ok b.arr (w.alloc o).drew := fun o => Row.ev_at (w := (w.alloc o).drew) (hrow.alloc o) hb _ _ rfl
  have la3 : ∀ o o', (loadCellsFrom ⟨b0, off + i * 13, none⟩ 0 13 #[]).run Try.prog ((w.alloc o).alloc o').drew = .ok a.arr ((w.alloc o).alloc o').drew := fun o o' => Row.ev_at (w := ((w.alloc o).alloc o').drew) ((hrow.alloc o).alloc o') ha _ _ rfl
  have lb3 : ∀ o o', (loadCellsFrom ⟨b0, off + k * 13, none⟩ 0 13 #[]).run Try.prog ((w.alloc o).alloc o').drew = .ok b.arr ((w.alloc o).alloc o').drew := fun o o' => Row.ev_at (w := ((w.alloc o).alloc o').drew) ((hrow.alloc o).alloc o') hb _ _ rfl
  unfold Ev.arr at la1 lb1 la2 lb2 la3 lb3
  clear hh hn hrow ha hb
  have HIA := Lib.hid (hia.below (Below.refl _ _)); have HIB := Lib.hid (hib.below (Below.refl _ _))
  have HLA := Lib.hid hna; have HLEN := Lib.hid hlen
  have hka' : (a.kind == 4) = true := by simp [hka]
  have hkb' : (b.kind == 4) = true := by simp [hkb]
  have HKA := Lib.hid hka; have HKB := Lib.hid hkb
  clear hia hib hna hlen hka hkb
  go_enter Try.func42, Try.ntmps42
  go_upto_region 0 with fail
  go_cut [6, 7] (fun p q wc => TwoRel a b w p q wc)
  case first =>
    go_region
    · go_wp2_with fail
      go_meet
      exact ⟨_, _, rfl, rfl, heap_alloc2_old w (.cells a.arr 52) (.cells b.arr 52), heap_alloc2_new w (.cells a.arr 52) (.cells b.arr 52), (((Below.refl _ _).alloc (Nat.le_refl _) (.cells a.arr 52)).alloc (by simp) (.cells b.arr 52)).drew⟩
    · go_wp2_with fail
      go_meet
      exact ⟨_, _, rfl, rfl, heap_alloc2_new w (.cells b.arr 52) (.cells a.arr 52), heap_alloc2_old w (.cells b.arr 52) (.cells a.arr 52), (((Below.refl _ _).alloc (Nat.le_refl _) (.cells b.arr 52)).alloc (by simp) (.cells a.arr 52)).drew⟩
  case rest =>
    obtain ⟨p6, p7, rfl, rfl, h6, h7, hbw⟩ := hcut
    clear la1 lb1 la2 lb2 la3 lb3 c0
    have a1 : wc.cell? ⟨p6, 1, none⟩ = some (.int .i64 a.begin_) := cell_of_row _ _ _ _ _ _ h6
    have a2 : wc.cell? ⟨p6, 2, none⟩ = some (.int .i64 a.end_) := cell_of_row _ _ _ _ _ _ h6
    have a3 : wc.cell? ⟨p6, 3, none⟩ = some (.int .i64 a.kind) := cell_of_row _ _ _ _ _ _ h6
    have b1 : wc.cell? ⟨p7, 1, none⟩ = some (.int .i64 b.begin_) := cell_of_row _ _ _ _ _ _ h7
    have b2 : wc.cell? ⟨p7, 2, none⟩ = some (.int .i64 b.end_) := cell_of_row _ _ _ _ _ _ h7
    have b3 : wc.cell? ⟨p7, 3, none⟩ = some (.int .i64 b.kind) := cell_of_row _ _ _ _ _ _ h7
    have H6 := Lib.hid h6; have H7 := Lib.hid h7; have HBW := Lib.hid hbw
    clear h6 h7 hbw
    go_wp2_with (go_at_call 49; refine (judgeAhead _ _ _).mono ?_; rintro e1 w1 ⟨rfl, rfl⟩)
    go_quiet (fail)
    obtain ⟨W, hW⟩ : ∃ W, W = w1.drewN nq := ⟨_, rfl⟩
    rw [← hW]
    have hbW : Below w.heap.size w W := by rw [hW]; exact below_drewN HBW.out nq
    have h6 : W.heap[p6]? = some (.cells a.arr 52 (0, 0)) := by rw [hW]; exact H6.out
    have h7 : W.heap[p7]? = some (.cells b.arr 52 (0, 0)) := by rw [hW]; exact H7.out
    have hbHw : B ≤ w.heap.size := Nat.le_trans HH.out.hB (Nat.le_of_lt HH.out.lt)
    have hstW := HH.out.below hbW
    have hHW : H < W.heap.size := Nat.lt_of_lt_of_le hltH hbW.size
    have HW := Lib.hid hW
    clear hW a1 a2 a3 b1 b2 b3
    have la0 : (loadCellsFrom ⟨p6, 0, none⟩ 0 13 #[]).run Try.prog W = .ok a.arr W := load_block h6 rfl
    have lb0 : (loadCellsFrom ⟨p7, 0, none⟩ 0 13 #[]).run Try.prog W = .ok b.arr W := load_block h7 rfl
    have la : ∀ p : BelowOf W, (loadCellsFrom ⟨p6, 0, none⟩ 0 13 #[]).run Try.prog p.v = .ok a.arr p.v := fun p => load_block (p.heap h6) rfl
    have lb : ∀ p : BelowOf W, (loadCellsFrom ⟨p7, 0, none⟩ 0 13 #[]).run Try.prog p.v = .ok b.arr p.v := fun p => load_block (p.heap h7) rfl
    have a20 : W.cell? ⟨p6, 2, none⟩ = some (.int .i64 a.end_) := cell_of_row _ _ _ _ _ _ h6
    have a2 : ∀ p : BelowOf W, p.v.cell? ⟨p6, 2, none⟩ = some (.int .i64 a.end_) := fun p => p.cell a20
    have b10 : W.cell? ⟨p7, 1, none⟩ = some (.int .i64 b.begin_) := cell_of_row _ _ _ _ _ _ h7
    have b1 : ∀ p : BelowOf W, p.v.cell? ⟨p7, 1, none⟩ = some (.int .i64 b.begin_) := fun p => p.cell b10
    have HBW' := Lib.hid hbW; have HST := Lib.hid hstW; have H6W := Lib.hid h6; have H7W := Lib.hid h7
    clear hbW hstW h6 h7
    have HIA' := Lib.hid (HIA.out.below HBW'.out); have HIB' := Lib.hid (HIB.out.below HBW'.out)
    clear HIA HIB
    have HIA := HIA'; have HIB := HIB'
    clear HIA' HIB'
    have cab := fun V h1 h2 => judgeBelow a b V h1 h2 HLA.out HLEN.out
    have cba := fun V h1 h2 => judgeBelow b a V h1 h2 (by have := HLA.out; have := HLEN.out; omega) HLEN.out.symm
    simp only [Ev.val] at cab cba
    have CAB := Lib.hid cab; have CBA := Lib.hid cba
    clear cab cba
    go_wp2_with (first
      | (go_at_call 69; (with_reducible refine (CAB.out _ (by first | exact HIA.out | exact HIA.out.below (BelowOf.h _)) (by first | exact HIB.out | exact HIB.out.below (BelowOf.h _))).mono ?_); rintro e1 w1 ⟨rfl, hb1⟩; obtain ⟨pp, rfl⟩ : ∃ pp : BelowOf W, w1 = pp.v := ⟨⟨w1, by first | exact hb1 | exact (BelowOf.h _).trans (hb1.mono (BelowOf.le _))⟩, rfl⟩; clear hb1)
      | (go_at_call 69; (with_reducible refine (CBA.out _ (by first | exact HIB.out | exact HIB.out.below (BelowOf.h _)) (by first | exact HIA.out | exact HIA.out.below (BelowOf.h _))).mono ?_); rintro e1 w1 ⟨rfl, hb1⟩; obtain ⟨pp, rfl⟩ : ∃ pp : BelowOf W, w1 = pp.v := ⟨⟨w1, by first | exact hb1 | exact (BelowOf.h _).trans (hb1.mono (BelowOf.le _))⟩, rfl⟩; clear hb1)
      | (go_at_call 49; refine (judgeAhead _ _ _).mono ?_; rintro e1 w1 ⟨rfl, rfl⟩)
      | (go_at_call 68; refine (judgeBlame l B H _ lc rv tv bv ov outs i k 7 _ (by first | exact HST.out | exact HST.out.below (BelowOf.h _)) (by have := HN.out; omega)).mono ?_; rintro e1 w1 ⟨rfl, hk1, hst1⟩; have HK1 := Lib.hid hk1; have HST1 := Lib.hid hst1; clear hk1 hst1))
    all_goals
      go_end0
      first
        | (have EQ : besideL i k a b = [⟨i, k, 7⟩] := by
             go_tidy
             simp only [besideL, if_pos HKA.out, if_pos HKB.out]
             grind
           refine ⟨rfl, Keeps.trans (Keeps.of_below (HBW'.out.trans ((BelowOf.h _).mono HBW'.out.size)) hbHw) HK1.out, ?_⟩
           rw [EQ]
           exact HST1.out)
        | (have EQ : besideL i k a b = [] := by
             go_tidy
             simp only [besideL, if_pos HKA.out, if_pos HKB.out]
             grind
           rw [EQ, List.append_nil]
           refine ⟨rfl, Keeps.of_below ?_ hbHw, ov, ?_⟩
           · first | exact HBW'.out | exact HBW'.out.trans ((BelowOf.h _).mono HBW'.out.size)
           · first | (with_reducible exact HST.out) | (with_reducible exact HST.out.below (BelowOf.h _)))
end Go.Proofs.Ytpnegacfanbcfaa
