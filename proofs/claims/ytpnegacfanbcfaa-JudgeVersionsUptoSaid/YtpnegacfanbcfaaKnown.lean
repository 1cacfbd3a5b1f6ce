/- known: it answers true, and only lays memory. No condition. -/
import Derived.Test.YtpnegacfanbcfaaKnownC
import Derived.Deep.DeepCutAuto
namespace Go.Proofs.Ytpnegacfanbcfaa
open Go.RowKit Go.Maps

attribute [-go_sem] loadCellsFrom
set_option maxRecDepth 100000 in
set_option maxHeartbeats 4000000 in
theorem known_walk (w : World) : Calls Try.prog 7 #[] w fun e w' => e = .returned (.bool true) ∧ Below w.heap.size w w' := by
  go_enter Try.func7, Try.ntmps7
  go_upto_region 2 with fail
  obtain ⟨W, hW⟩ : ∃ W, W = w.alloc (.cells kStore.arr 27) := ⟨_, rfl⟩
  have HD : Hid (W.heap[w.heap.size]? = some (.cells kStore.arr 27 (0, 0))) := by rw [hW]; exact heap_alloc_new w _
  have HB : Hid (Below w.heap.size w W) := by rw [hW]; exact (Below.refl _ _).alloc (Nat.le_refl _) _
  unfold Deed.arr kStore at hW
  rw [← hW]
  clear hW
  have hrf2 : Row ((W.alloc (.cells #[.int .i64 0] 3)).alloc (.cells (deedCells kA).toArray 27)) (some ⟨W.heap.size, 0, none⟩) [.int .i64 0] := (row_new W [.int .i64 0] 3).alloc _
  have hrl2 : Row ((W.alloc (.cells #[.int .i64 0] 3)).alloc (.cells (deedCells kA).toArray 27)) (some ⟨W.heap.size + 1, 0, none⟩) (deedCells kA) := by
    have := row_new (W.alloc (.cells #[.int .i64 0] 3)) (deedCells kA) 27
    rw [World.heap_size_alloc'] at this
    exact this
  have HF2 := Lib.hid hrf2; have HL2 := Lib.hid hrl2
  clear hrf2 hrl2
  have ld2 : (loadCellsFrom ⟨w.heap.size, 0, none⟩ 0 8 #[]).run Try.prog (W.alloc (.cells #[.int .i64 0] 3)) = .ok kStore.arr (W.alloc (.cells #[.int .i64 0] 3)) := load_block ((((Below.refl W.heap.size W).alloc (Nat.le_refl _) _).block _ (Array.getElem?_eq_some_iff.1 HD.out).1).trans HD.out) rfl
  unfold Deed.arr kStore at ld2
  go_cut [2, 3, 4] (fun a ok e wc => kDeedRel W [1, 0] 2 a ok e wc)
  case first =>
    go_wp2_with (go_at_call 9; refine (order_yes kA_err kA_ans (deedFit _ (by simp)) (some ⟨W.heap.size, 0, none⟩) (some ⟨W.heap.size + 1, 0, none⟩) 1 2 _ HF2.out HL2.out (fun e => by cases e)).mono ?_; rintro e1 w1 ⟨A, c, rfl, hrow, hb⟩; have HROW := Lib.hid hrow; have HBB := Lib.hid hb; clear hrow hb)
    go_meet
    have HB2' : Below W.heap.size W _ := (((Below.refl W.heap.size W).alloc (Nat.le_refl _) (.cells #[.int .i64 0] 3)).alloc (by simp) (.cells (deedCells kA).toArray 27))
    exact ⟨A, c, rfl, rfl, rfl, HROW.out, HB2'.trans (HBB.out.mono HB2'.size)⟩
  obtain ⟨A2, c2, rfl, rfl, rfl, hrow2, hb2⟩ := hcut
  obtain ⟨W2, hW2⟩ : ∃ W2, W2 = wc := ⟨_, rfl⟩
  subst hW2
  have HD3 : Hid (W2.heap[w.heap.size]? = some (.cells kStore.arr 27 (0, 0))) := (hb2.block _ (Array.getElem?_eq_some_iff.1 HD.out).1).trans HD.out
  have HB3 : Hid (Below w.heap.size w W2) := HB.out.trans (hb2.mono HB.out.size)
  have HR2 := Lib.hid hrow2
  clear hrow2 hb2 ld2
  go_upto_region 3 with fail
  have hrf3 : Row ((W2.alloc (.cells #[.int .i64 0] 3)).alloc (.cells (deedCells kB).toArray 27)) (some ⟨W2.heap.size, 0, none⟩) [.int .i64 0] := (row_new W2 [.int .i64 0] 3).alloc _
  have hrl3 : Row ((W2.alloc (.cells #[.int .i64 0] 3)).alloc (.cells (deedCells kB).toArray 27)) (some ⟨W2.heap.size + 1, 0, none⟩) (deedCells kB) := by
    have := row_new (W2.alloc (.cells #[.int .i64 0] 3)) (deedCells kB) 27
    rw [World.heap_size_alloc'] at this
    exact this
  have HF3 := Lib.hid hrf3; have HL3 := Lib.hid hrl3
  clear hrf3 hrl3
  have ld3 : (loadCellsFrom ⟨w.heap.size, 0, none⟩ 0 8 #[]).run Try.prog (W2.alloc (.cells #[.int .i64 0] 3)) = .ok kStore.arr (W2.alloc (.cells #[.int .i64 0] 3)) := load_block ((((Below.refl W2.heap.size W2).alloc (Nat.le_refl _) _).block _ (Array.getElem?_eq_some_iff.1 HD3.out).1).trans HD3.out) rfl
  unfold Deed.arr kStore at ld3
  go_cut [5, 6, 7] (fun a ok e wc => kNoRel W2 a ok e wc)
  case first =>
    go_wp2_with (go_at_call 9; refine (order_no kB_err kB_ans (deedFit _ (by simp)) (some ⟨W2.heap.size, 0, none⟩) (some ⟨W2.heap.size + 1, 0, none⟩) 1 3 _ HF3.out HL3.out (fun e => by cases e)).mono ?_; rintro e1 w1 ⟨rfl, hb⟩; have HBB := Lib.hid hb; clear hb)
    go_meet
    have HB3' : Below W2.heap.size W2 _ := (((Below.refl W2.heap.size W2).alloc (Nat.le_refl _) (.cells #[.int .i64 0] 3)).alloc (by simp) (.cells (deedCells kB).toArray 27))
    exact ⟨rfl, rfl, rfl, HB3'.trans (HBB.out.mono HB3'.size)⟩
  obtain ⟨rfl, rfl, rfl, hb3⟩ := hcut
  obtain ⟨W3, hW3⟩ : ∃ W3, W3 = wc := ⟨_, rfl⟩
  subst hW3
  have HB4 : Hid (Below w.heap.size w W3) := HB3.out.trans (hb3.mono HB3.out.size)
  have HR3 : Hid (Row W3 A2 (intsZ [1, 0])) := HR2.out.below hb3
  clear hb3 ld3
  go_upto_region 4 with fail
  have hrf4 : Row ((W3.alloc (.cells #[.int .i64 0] 3)).alloc (.cells (deedCells kC).toArray 27)) (some ⟨W3.heap.size, 0, none⟩) [.int .i64 0] := (row_new W3 [.int .i64 0] 3).alloc _
  have hrl4 : Row ((W3.alloc (.cells #[.int .i64 0] 3)).alloc (.cells (deedCells kC).toArray 27)) (some ⟨W3.heap.size + 1, 0, none⟩) (deedCells kC) := by
    have := row_new (W3.alloc (.cells #[.int .i64 0] 3)) (deedCells kC) 27
    rw [World.heap_size_alloc'] at this
    exact this
  have HF4 := Lib.hid hrf4; have HL4 := Lib.hid hrl4
  clear hrf4 hrl4
  go_cut [8, 9, 10] (fun a ok e wc => kDeedRel W3 [0, 2] 2 a ok e wc)
  case first =>
    go_wp2_with (go_at_call 9; refine (order_yes kC_err kC_ans (deedFit _ (by simp)) (some ⟨W3.heap.size, 0, none⟩) (some ⟨W3.heap.size + 1, 0, none⟩) 1 3 _ HF4.out HL4.out (fun e => by cases e)).mono ?_; rintro e1 w1 ⟨A, c, rfl, hrow, hb⟩; have HROW := Lib.hid hrow; have HBB := Lib.hid hb; clear hrow hb)
    go_meet
    have HB4' : Below W3.heap.size W3 _ := (((Below.refl W3.heap.size W3).alloc (Nat.le_refl _) (.cells #[.int .i64 0] 3)).alloc (by simp) (.cells (deedCells kC).toArray 27))
    exact ⟨A, c, rfl, rfl, rfl, HROW.out, HB4'.trans (HBB.out.mono HB4'.size)⟩
  obtain ⟨A8, c8, rfl, rfl, rfl, hrow4, hb4⟩ := hcut
  obtain ⟨W4, hW4⟩ : ∃ W4, W4 = wc := ⟨_, rfl⟩
  subst hW4
  have HB5 : Hid (Below w.heap.size w W4) := HB4.out.trans (hb4.mono HB4.out.size)
  have HR4 : Hid (Row W4 A2 (intsZ [1, 0])) := HR3.out.below hb4
  have HR8 := Lib.hid hrow4
  clear hb4 hrow4
  go_upto_region 5 with fail
  have l5a := row_new W4 (intsZ [1, 0]) 3
  have c12a : Hid (∀ V, Row V A2 (intsZ [1, 0]) → Row V (some ⟨W4.heap.size, 0, none⟩) (intsZ [1, 0]) → Calls Try.prog 12 #[.slice A2 2 c2, .slice (some ⟨W4.heap.size, 0, none⟩) 2 2] V fun e w' => e = .returned (.bool true) ∧ ∃ n, w' = V.drewN n) := fun V h1 h2 => sameInts_refl [1, 0] A2 _ c2 2 V (by decide) h1 h2
  have c12b : Hid (∀ V, Row V A8 (intsZ [0, 2]) → Row V (some ⟨W4.heap.size + 1, 0, none⟩) (intsZ [0, 2]) → Calls Try.prog 12 #[.slice A8 2 c8, .slice (some ⟨W4.heap.size + 1, 0, none⟩) 2 2] V fun e w' => e = .returned (.bool true) ∧ ∃ n, w' = V.drewN n) := fun V h1 h2 => sameInts_refl [0, 2] A8 _ c8 2 V (by decide) h1 h2
  have HL5 := Lib.hid l5a
  clear l5a
  go_cut [80] (fun t wc => kSameRel W4 t wc)
  case first =>
    have l5b : ∀ n, Row (((W4.alloc (.cells #[.int .i64 1, .int .i64 0] 3)).drewN n).alloc (.cells #[.int .i64 0, .int .i64 2] 3)) (some ⟨W4.heap.size + 1, 0, none⟩) (intsZ [0, 2]) := fun n => by
      have := row_new ((W4.alloc (.cells #[.int .i64 1, .int .i64 0] 3)).drewN n) (intsZ [0, 2]) 3
      have h : ((W4.alloc (.cells #[.int .i64 1, .int .i64 0] 3)).drewN n).heap.size = W4.heap.size + 1 := World.heap_size_alloc' _ _
      rw [h] at this
      exact this
    have r8b : ∀ n, Row (((W4.alloc (.cells #[.int .i64 1, .int .i64 0] 3)).drewN n).alloc (.cells #[.int .i64 0, .int .i64 2] 3)) A8 (intsZ [0, 2]) := fun n => ((HR8.out.alloc (.cells #[.int .i64 1, .int .i64 0] 3)).drewN n).alloc (.cells #[.int .i64 0, .int .i64 2] 3)
    have HL5b := Lib.hid l5b; have HR8b := Lib.hid r8b
    clear l5b r8b
    go_wp2_with (first
      | (go_at_call 12; (with_reducible refine (c12a.out _ ?_ ?_).mono ?_); rotate_left 2; rintro e1 w1 ⟨rfl, n1, rfl⟩; rotate_left 1; exact HR4.out.alloc _; exact HL5.out)
      | (go_at_call 12; (with_reducible refine (c12b.out _ ?_ ?_).mono ?_); rotate_left 2; rintro e1 w1 ⟨rfl, n2, rfl⟩; rotate_left 1; exact HR8b.out _; exact HL5b.out _))
    go_meet
    exact ⟨rfl, by repeat' first | exact Below.refl _ _ | refine below_drewN ?_ _ | refine Below.alloc ?_ (by simp [World.drewN]) _⟩
  obtain ⟨rfl, hb5⟩ := hcut
  obtain ⟨W5, hW5⟩ : ∃ W5, W5 = wc := ⟨_, rfl⟩
  subst hW5
  have HB6 : Hid (Below w.heap.size w W5) := HB5.out.trans (hb5.mono HB5.out.size)
  clear hb5
  go_upto_region 7 with fail
  go_cut [11] (fun p wc => k7Rel W5 p wc)
  case first =>
    go_wp2_with fail
    go_meet
    exact ⟨W5.heap.size + 1, W5.heap.size, rfl, heap_alloc2_new W5 (.cells #[.int .i64 5, .int .i64 50] 58) (.cells #[.slice (some ⟨W5.heap.size, 0, none⟩) 1 1] 41), heap_alloc2_old W5 (.cells #[.int .i64 5, .int .i64 50] 58) (.cells #[.slice (some ⟨W5.heap.size, 0, none⟩) 1 1] 41), ((Below.refl _ _).alloc (Nat.le_refl _) _).alloc (by simp) _⟩
  obtain ⟨s0, pA, rfl, hs0, hpA, hb7⟩ := hcut
  obtain ⟨W7, hW7⟩ : ∃ W7, W7 = wc := ⟨_, rfl⟩
  subst hW7
  have HB8 : Hid (Below w.heap.size w W7) := HB6.out.trans (hb7.mono HB6.out.size)
  have HS0 := Lib.hid hs0; have HPA := Lib.hid hpA
  clear hb7 hs0 hpA
  go_upto_region 8 with fail
  go_cut [12] (fun p wc => kEvRel W7 kW p wc)
  case first =>
    go_wp2_with fail
    go_meet
    exact ⟨_, rfl, heap_alloc_new W7 (.cells kW.arr 52), Nat.le_refl _, (Below.refl _ _).alloc (Nat.le_refl _) _⟩
  obtain ⟨E, rfl, hE, hEl, hb8⟩ := hcut
  obtain ⟨W8, hW8⟩ : ∃ W8, W8 = wc := ⟨_, rfl⟩
  subst hW8
  have HE := Lib.hid hE; have HB8' := Lib.hid hb8
  have hElt := (Array.getElem?_eq_some_iff.1 hE).1
  clear hE hb8 hEl
  go_upto_region 9 with fail
  go_cut [13] (fun p wc => kEvRel W8 (kR 2 3 1) p wc)
  case first =>
    go_wp2_with fail
    go_meet
    exact ⟨_, rfl, heap_alloc_new W8 (.cells (kR 2 3 1).arr 52), Nat.le_refl _, (Below.refl _ _).alloc (Nat.le_refl _) _⟩
  obtain ⟨R, rfl, hR, hRl, hb9⟩ := hcut
  obtain ⟨V, hV⟩ : ∃ V, V = wc := ⟨_, rfl⟩
  subst hV
  have hk : KSt w s0 pA E R (kR 2 3 1) V := by
    have b78 := HB8'.out.trans (hb9.mono HB8'.out.size)
    exact ⟨(b78.block _ (Array.getElem?_eq_some_iff.1 HS0.out).1).trans HS0.out, (b78.block _ (Array.getElem?_eq_some_iff.1 HPA.out).1).trans HPA.out, (hb9.block _ hElt).trans HE.out, hR, by omega, by have := HB8.out.size; have := HB8'.out.size; omega, HB8.out.trans (b78.mono HB8.out.size)⟩
  have HK0 := Lib.hid hk
  clear hk hR hb9 hRl hElt
  go_upto_region 10 with fail
  have ldE10 : (loadCellsFrom ⟨E, 0, none⟩ 0 13 #[]).run Try.prog V = .ok kW.arr V := load_block HK0.out.e rfl
  have ldR10 : (loadCellsFrom ⟨R, 0, none⟩ 0 13 #[]).run Try.prog V = .ok (kR 2 3 1).arr V := load_block HK0.out.r rfl
  have hr10 := row_new V (evCells [kW, kR 2 3 1]) 52
  have HR10 := Lib.hid hr10
  clear hr10
  unfold Ev.arr at ldE10 ldR10
  simp only [kW, kR, List.length_nil] at ldE10 ldR10
  go_cut [14, 15] (fun x g wc => kVersRel V [] 0 x g wc)
  case first =>
    go_wp2_with (go_at_call 20; refine (vers_k 2 3 1 (by constructor <;> decide) (by constructor <;> decide) (by constructor <;> decide) kX (some ⟨V.heap.size, 0, none⟩) pA s0 2 _ HR10.out ((row_of_block HK0.out.s).alloc _) ((row_of_block HK0.out.p).alloc _)).mono ?_; rintro e1 w1 ⟨A, c, rfl, ho, hb⟩; have HO := Lib.hid ho; have HBB := Lib.hid hb; clear ho hb)
    go_meet
    have hba : Below V.heap.size V (V.alloc (.cells (evCells [kW, kR 2 3 1]).toArray 52)) := (Below.refl _ _).alloc (Nat.le_refl _) _
    exact ⟨A, c, rfl, rfl, own_base HO.out hba.size, hba.trans (HBB.out.mono hba.size)⟩
  clear ldE10 ldR10
  obtain ⟨Ax, cx, rfl, rfl, hox, hb10⟩ := hcut
  obtain ⟨V1, hV1⟩ : ∃ V1, V1 = wc := ⟨_, rfl⟩
  subst hV1
  have HK1 := Lib.hid (HK0.out.below hb10)
  have HOVx := Lib.hid hox
  clear hox hb10
  have fz11 : ∀ i, V1.frozen? ⟨R, i, none⟩ = false := fun i => frozen_block HK1.out.r
  have ce11_1 : V1.cell? ⟨R, 1, none⟩ = some ((kR 2 3 1).arr[1]!) := cell_of_row _ _ _ _ _ _ HK1.out.r
  have ce11_2 : V1.cell? ⟨R, 2, none⟩ = some ((kR 2 3 1).arr[2]!) := cell_of_row _ _ _ _ _ _ HK1.out.r
  simp only [kR, Ev.arr] at ce11_1 ce11_2
  go_upto_region 11 with fail
  go_cut [] (fun wc => wc = ((V1.setCell ⟨R, 1, none⟩ (.int .i64 5)).setCell ⟨R, 2, none⟩ (.int .i64 6)))
  case first =>
    go_wp2_with fail
    go_meet
    rfl
  obtain ⟨V2, hV2⟩ : ∃ V2, V2 = wc := ⟨_, rfl⟩
  subst hV2
  have HK2 : Hid (KSt w s0 pA E R (kR 5 6 1) V2) := by rw [hcut]; exact ((HK1.out.set (r' := kR 5 3 1) 1 (.int .i64 5) rfl).set (r' := kR 5 6 1) 2 (.int .i64 6) rfl)
  clear hcut fz11 ce11_1 ce11_2
  go_upto_region 12 with fail
  have ldE12 : (loadCellsFrom ⟨E, 0, none⟩ 0 13 #[]).run Try.prog V2 = .ok kW.arr V2 := load_block HK2.out.e rfl
  have ldR12 : (loadCellsFrom ⟨R, 0, none⟩ 0 13 #[]).run Try.prog V2 = .ok (kR 5 6 1).arr V2 := load_block HK2.out.r rfl
  have hr12 := row_new V2 (evCells [kW, kR 5 6 1]) 52
  have HR12 := Lib.hid hr12
  clear hr12
  unfold Ev.arr at ldE12 ldR12
  simp only [kW, kR, List.length_nil] at ldE12 ldR12
  go_cut [16, 17] (fun x g wc => kVersRel V2 [⟨1, 0, 5⟩] 1 x g wc)
  case first =>
    go_wp2_with (go_at_call 20; refine (vers_k 5 6 1 (by constructor <;> decide) (by constructor <;> decide) (by constructor <;> decide) kY (some ⟨V2.heap.size, 0, none⟩) pA s0 2 _ HR12.out ((row_of_block HK2.out.s).alloc _) ((row_of_block HK2.out.p).alloc _)).mono ?_; rintro e1 w1 ⟨A, c, rfl, ho, hb⟩; have HO := Lib.hid ho; have HBB := Lib.hid hb; clear ho hb)
    go_meet
    have hba : Below V2.heap.size V2 (V2.alloc (.cells (evCells [kW, kR 5 6 1]).toArray 52)) := (Below.refl _ _).alloc (Nat.le_refl _) _
    exact ⟨A, c, rfl, rfl, own_base HO.out hba.size, hba.trans (HBB.out.mono hba.size)⟩
  clear ldE12 ldR12
  obtain ⟨Ay, cy, rfl, rfl, hoy, hb12⟩ := hcut
  obtain ⟨V3, hV3⟩ : ∃ V3, V3 = wc := ⟨_, rfl⟩
  subst hV3
  have HK3 := Lib.hid (HK2.out.below hb12)
  have HOVy := Lib.hid hoy
  clear hoy hb12
  have fz13 : ∀ i, V3.frozen? ⟨R, i, none⟩ = false := fun i => frozen_block HK3.out.r
  have ce13_6 : V3.cell? ⟨R, 6, none⟩ = some ((kR 5 6 1).arr[6]!) := cell_of_row _ _ _ _ _ _ HK3.out.r
  simp only [kR, Ev.arr] at ce13_6
  go_upto_region 13 with fail
  go_cut [] (fun wc => wc = (V3.setCell ⟨R, 6, none⟩ (.int .i64 2)))
  case first =>
    go_wp2_with fail
    go_meet
    rfl
  obtain ⟨V4, hV4⟩ : ∃ V4, V4 = wc := ⟨_, rfl⟩
  subst hV4
  have HK4 : Hid (KSt w s0 pA E R (kR 5 6 2) V4) := by rw [hcut]; exact (HK3.out.set (r' := kR 5 6 2) 6 (.int .i64 2) rfl)
  have tty := (kown_set HK3.out HOVy.out 6 (.int .i64 2))
  rw [← hcut] at tty
  have HOVy := Lib.hid tty
  clear tty
  clear hcut fz13 ce13_6
  go_upto_region 14 with fail
  have ldE14 : (loadCellsFrom ⟨E, 0, none⟩ 0 13 #[]).run Try.prog V4 = .ok kW.arr V4 := load_block HK4.out.e rfl
  have ldR14 : (loadCellsFrom ⟨R, 0, none⟩ 0 13 #[]).run Try.prog V4 = .ok (kR 5 6 2).arr V4 := load_block HK4.out.r rfl
  have hr14 := row_new V4 (evCells [kW, kR 5 6 2]) 52
  have HR14 := Lib.hid hr14
  clear hr14
  unfold Ev.arr at ldE14 ldR14
  simp only [kW, kR, List.length_nil] at ldE14 ldR14
  go_cut [18, 19] (fun x g wc => kVersRel V4 [⟨1, -1, 4⟩] 1 x g wc)
  case first =>
    go_wp2_with (go_at_call 20; refine (vers_k 5 6 2 (by constructor <;> decide) (by constructor <;> decide) (by constructor <;> decide) kZ (some ⟨V4.heap.size, 0, none⟩) pA s0 2 _ HR14.out ((row_of_block HK4.out.s).alloc _) ((row_of_block HK4.out.p).alloc _)).mono ?_; rintro e1 w1 ⟨A, c, rfl, ho, hb⟩; have HO := Lib.hid ho; have HBB := Lib.hid hb; clear ho hb)
    go_meet
    have hba : Below V4.heap.size V4 (V4.alloc (.cells (evCells [kW, kR 5 6 2]).toArray 52)) := (Below.refl _ _).alloc (Nat.le_refl _) _
    exact ⟨A, c, rfl, rfl, own_base HO.out hba.size, hba.trans (HBB.out.mono hba.size)⟩
  clear ldE14 ldR14
  obtain ⟨Az, cz, rfl, rfl, hoz, hb14⟩ := hcut
  obtain ⟨V5, hV5⟩ : ∃ V5, V5 = wc := ⟨_, rfl⟩
  subst hV5
  have HK5 := Lib.hid (HK4.out.below hb14)
  have HOVz := Lib.hid hoz
  have HOVy := Lib.hid (own_below HOVy.out hb14)
  clear hoz hb14
  have fz15 : ∀ i, V5.frozen? ⟨R, i, none⟩ = false := fun i => frozen_block HK5.out.r
  have ce15_6 : V5.cell? ⟨R, 6, none⟩ = some ((kR 5 6 2).arr[6]!) := cell_of_row _ _ _ _ _ _ HK5.out.r
  simp only [kR, Ev.arr] at ce15_6
  go_upto_region 15 with fail
  go_cut [] (fun wc => wc = (V5.setCell ⟨R, 6, none⟩ (.int .i64 3)))
  case first =>
    go_wp2_with fail
    go_meet
    rfl
  obtain ⟨V6, hV6⟩ : ∃ V6, V6 = wc := ⟨_, rfl⟩
  subst hV6
  have HK6 : Hid (KSt w s0 pA E R (kR 5 6 3) V6) := by rw [hcut]; exact (HK5.out.set (r' := kR 5 6 3) 6 (.int .i64 3) rfl)
  have tty := (kown_set HK5.out HOVy.out 6 (.int .i64 3))
  rw [← hcut] at tty
  have HOVy := Lib.hid tty
  clear tty
  have ttz := (kown_set HK5.out HOVz.out 6 (.int .i64 3))
  rw [← hcut] at ttz
  have HOVz := Lib.hid ttz
  clear ttz
  clear hcut fz15 ce15_6
  go_upto_region 16 with fail
  have ldE16 : (loadCellsFrom ⟨E, 0, none⟩ 0 13 #[]).run Try.prog V6 = .ok kW.arr V6 := load_block HK6.out.e rfl
  have ldR16 : (loadCellsFrom ⟨R, 0, none⟩ 0 13 #[]).run Try.prog V6 = .ok (kR 5 6 3).arr V6 := load_block HK6.out.r rfl
  have hr16 := row_new V6 (evCells [kW, kR 5 6 3]) 52
  have HR16 := Lib.hid hr16
  clear hr16
  unfold Ev.arr at ldE16 ldR16
  simp only [kW, kR, List.length_nil] at ldE16 ldR16
  go_cut [20, 21] (fun x g wc => kVersRel V6 [⟨1, -1, 3⟩] 1 x g wc)
  case first =>
    go_wp2_with (go_at_call 20; refine (vers_k 5 6 3 (by constructor <;> decide) (by constructor <;> decide) (by constructor <;> decide) kU (some ⟨V6.heap.size, 0, none⟩) pA s0 2 _ HR16.out ((row_of_block HK6.out.s).alloc _) ((row_of_block HK6.out.p).alloc _)).mono ?_; rintro e1 w1 ⟨A, c, rfl, ho, hb⟩; have HO := Lib.hid ho; have HBB := Lib.hid hb; clear ho hb)
    go_meet
    have hba : Below V6.heap.size V6 (V6.alloc (.cells (evCells [kW, kR 5 6 3]).toArray 52)) := (Below.refl _ _).alloc (Nat.le_refl _) _
    exact ⟨A, c, rfl, rfl, own_base HO.out hba.size, hba.trans (HBB.out.mono hba.size)⟩
  clear ldE16 ldR16
  obtain ⟨Au, cu, rfl, rfl, hou, hb16⟩ := hcut
  obtain ⟨V7, hV7⟩ : ∃ V7, V7 = wc := ⟨_, rfl⟩
  subst hV7
  have HK7 := Lib.hid (HK6.out.below hb16)
  have HOVu := Lib.hid hou
  have HOVy := Lib.hid (own_below HOVy.out hb16)
  have HOVz := Lib.hid (own_below HOVz.out hb16)
  clear hou hb16
  have ccy : Hid (∀ V, Row V Ay (blCells [⟨1, 0, 5⟩]) → Row V (some ⟨V7.heap.size, 0, none⟩) (blCells [⟨1, 0, 5⟩]) → Calls Try.prog 21 #[.slice Ay 1 cy, .slice (some ⟨V7.heap.size, 0, none⟩) 1 1] V fun e w' => e = .returned (.bool true) ∧ ∃ n, w' = V.drewN n) := fun V h1 h2 => sameBlames_refl [⟨1, 0, 5⟩] Ay _ cy 1 V (by decide) h1 h2
  have ccz : Hid (∀ V, Row V Az (blCells [⟨1, -1, 4⟩]) → Row V (some ⟨V7.heap.size + 1, 0, none⟩) (blCells [⟨1, -1, 4⟩]) → Calls Try.prog 21 #[.slice Az 1 cz, .slice (some ⟨V7.heap.size + 1, 0, none⟩) 1 1] V fun e w' => e = .returned (.bool true) ∧ ∃ n, w' = V.drewN n) := fun V h1 h2 => sameBlames_refl [⟨1, -1, 4⟩] Az _ cz 1 V (by decide) h1 h2
  have ccu : Hid (∀ V, Row V Au (blCells [⟨1, -1, 3⟩]) → Row V (some ⟨V7.heap.size + 1 + 1, 0, none⟩) (blCells [⟨1, -1, 3⟩]) → Calls Try.prog 21 #[.slice Au 1 cu, .slice (some ⟨V7.heap.size + 1 + 1, 0, none⟩) 1 1] V fun e w' => e = .returned (.bool true) ∧ ∃ n, w' = V.drewN n) := fun V h1 h2 => sameBlames_refl [⟨1, -1, 3⟩] Au _ cu 1 V (by decide) h1 h2
  have ry := (row_of_own' HOVy.out).1
  have rz := (row_of_own' HOVz.out).1
  have ru := (row_of_own' HOVu.out).1
  have s2 : ∀ n, ((V7.alloc (.cells #[.int .i64 1, .int .i64 0, .int .i64 5] 55)).drewN n).heap.size = V7.heap.size + 1 := fun n => World.heap_size_alloc' _ _
  have s3 : ∀ n m, ((((V7.alloc (.cells #[.int .i64 1, .int .i64 0, .int .i64 5] 55)).drewN n).alloc (.cells #[.int .i64 1, .int .i64 (-1), .int .i64 4] 55)).drewN m).heap.size = V7.heap.size + 1 + 1 := fun n m => (World.heap_size_alloc' _ _).trans (by rw [s2])
  have gy := row_new V7 (blCells [⟨1, 0, 5⟩]) 55
  have gz : ∀ n, Row (((V7.alloc (.cells #[.int .i64 1, .int .i64 0, .int .i64 5] 55)).drewN n).alloc (.cells #[.int .i64 1, .int .i64 (-1), .int .i64 4] 55)) (some ⟨V7.heap.size + 1, 0, none⟩) (blCells [⟨1, -1, 4⟩]) := fun n => by
    have := row_new ((V7.alloc (.cells #[.int .i64 1, .int .i64 0, .int .i64 5] 55)).drewN n) (blCells [⟨1, -1, 4⟩]) 55
    rw [s2] at this
    exact this
  have gu : ∀ n m, Row (((((V7.alloc (.cells #[.int .i64 1, .int .i64 0, .int .i64 5] 55)).drewN n).alloc (.cells #[.int .i64 1, .int .i64 (-1), .int .i64 4] 55)).drewN m).alloc (.cells #[.int .i64 1, .int .i64 (-1), .int .i64 3] 55)) (some ⟨V7.heap.size + 1 + 1, 0, none⟩) (blCells [⟨1, -1, 3⟩]) := fun n m => by
    have := row_new ((((V7.alloc (.cells #[.int .i64 1, .int .i64 0, .int .i64 5] 55)).drewN n).alloc (.cells #[.int .i64 1, .int .i64 (-1), .int .i64 4] 55)).drewN m) (blCells [⟨1, -1, 3⟩]) 55
    rw [s3] at this
    exact this
  have RY := Lib.hid ry; have RZ := Lib.hid rz; have RU := Lib.hid ru; have GY := Lib.hid gy; have GZ := Lib.hid gz; have GU := Lib.hid gu; have S2 := Lib.hid s2; have S3 := Lib.hid s3
  clear ry rz ru gy gz gu s2 s3
  go_wp2_with (first
    | (go_at_call 21; (with_reducible refine (ccy.out _ ?_ ?_).mono ?_); rotate_left 2; rintro e1 w1 ⟨rfl, n1, rfl⟩; rotate_left 1; exact RY.out.alloc _; exact GY.out)
    | (go_at_call 21; (with_reducible refine (ccz.out _ ?_ ?_).mono ?_); rotate_left 2; rintro e1 w1 ⟨rfl, n2, rfl⟩; rotate_left 1; exact ((RZ.out.alloc (.cells #[.int .i64 1, .int .i64 0, .int .i64 5] 55)).drewN n1).alloc (.cells #[.int .i64 1, .int .i64 (-1), .int .i64 4] 55); exact GZ.out n1)
    | (go_at_call 21; (with_reducible refine (ccu.out _ ?_ ?_).mono ?_); rotate_left 2; rintro e1 w1 ⟨rfl, n3, rfl⟩; rotate_left 1; exact ((((RU.out.alloc (.cells #[.int .i64 1, .int .i64 0, .int .i64 5] 55)).drewN n1).alloc (.cells #[.int .i64 1, .int .i64 (-1), .int .i64 4] 55)).drewN n2).alloc (.cells #[.int .i64 1, .int .i64 (-1), .int .i64 3] 55); exact GU.out n1 n2))
  go_ret
  refine ⟨rfl, HK7.out.b.trans (Below.mono ?_ HK7.out.b.size)⟩
  refine below_drewN (Below.alloc (below_drewN (Below.alloc (below_drewN (Below.alloc (Below.refl V7.heap.size V7) (Nat.le_refl _) _) _) ?_ _) _) ?_ _) _
  · rw [S2.out]
    omega
  · rw [S3.out]
    omega
end Go.Proofs.Ytpnegacfanbcfaa
