/- The epoch's Leave as a deferred call; a part's within around a write. Conditions: the store lies in memory; worker 0 is not within. -/
import Derived.Test.YteeefedoffplmaaGreatDoes
import Derived.Defers
import Derived.StillTailTactics
set_option linter.unusedSimpArgs false
set_option linter.unusedVariables false
namespace Go.Proofs.YteeefedoffplmaaGreat
open Go.RowKit

set_option maxRecDepth 100000 in
set_option maxHeartbeats 800000 in
theorem leave_d (w : World) (eb pb base : Nat) (ed : Option Nat) (E : EpochS) (h : EpochAt w eb pb base ed E) (hd : E.deep = 1) (u : FrameMode) : CallsD Tryz.prog 86 #[ptr eb, .pointer none] u w fun e u' w' => u' = u ∧ Epoched eb pb base [eb] ed E.leave w (.int .i64 0) e w' := by
  have hmine := mine_any w eb pb base ed E h
  obtain ⟨lv, hb, hown, he⟩ := h.ex
  have c11 : w.cell? ⟨eb, 11, none⟩ = some (.int .i64 1) := by rw [← hd]; exact hb.cell rfl
  have hnum := fun W => calls_rev (number_nil W)
  have hst := atomStore eb 3 E.at0 w.drew 0 (hb.drew.cell rfl) (hb.frozen _)
  have hb1 := hb.drew.set 3 (.int .i64 0)
  have d11 : (w.setCell ⟨eb, 3, none⟩ (.int .i64 0)).cell? ⟨eb, 11, none⟩ = some (.int .i64 1) := by rw [← hd]; exact (hb.set 3 (.int .i64 0)).cell rfl
  have f11 := hb.frozen 11
  have hb2 := hb1.set 11 (.int .i64 0)
  have hfin : EpochAt ((w.drew.setCell ⟨eb, 3, none⟩ (.int .i64 0)).setCell ⟨eb, 11, none⟩ (.int .i64 0)) eb pb base ed E.leave ∧ Only [eb] w ((w.drew.setCell ⟨eb, 3, none⟩ (.int .i64 0)).setCell ⟨eb, 11, none⟩ (.int .i64 0)) := by
    have ho : Only [eb] w ((w.drew.setCell ⟨eb, 3, none⟩ (.int .i64 0)).setCell ⟨eb, 11, none⟩ (.int .i64 0)) := ((Only.drew _ _).setCell (.inl (by simp)) _).setCell (.inl (by simp)) _
    have e1 : E.leave = { E with at0 := 0, deep := 0 } := by simp [EpochS.leave, hd]
    rw [e1]
    refine ⟨⟨⟨lv, ?_, own_only hown ho (fun k hk => by have := ed_ge h k (he ▸ hk); have := h.lt; simp; omega), he⟩, h.lt, Nat.le_trans h.room ho.size, h.workers, h.now, ?_, ?_, h.ok⟩, ho⟩
    · exact hb2
    · simp
    · simp
  have HF := Lib.hid hfin; have HST := Lib.hid hst; have HN := Lib.hid hnum
  unfold ptr at hmine ⊢
  clear h hb hown hb1 hb2 hfin hst hd hnum
  go_enter_d Tryz.func86, Tryz.ntmps86
  go_wp2_with (first | (go_at_call 132; refine hmine.mono ?_; rintro e w' ⟨rfl, rfl⟩) | (go_at_call 71; refine (step_nil _).mono ?_; rintro e w' ⟨rfl, rfl⟩))
  refine wp_region_still_tail 6 (by kernel_rfl) (by kernel_rfl) ?_
  simp only [List.take_succ_cons, List.take_zero, List.drop_succ_cons, List.drop_zero]
  change wpStill _ _ (World.drew _) (fun a' => wpList _ _ _ _ a' (World.drew _)) _ _
  iterate 2 still_step
  still_call (HN.out _)
  iterate 3 still_step
  refine wpStill_nil ?_
  go_wp2_with (go_at_call 100; refine HST.out.mono ?_; rintro e w' ⟨rfl, rfl⟩)
  go_ret
  exact ⟨rfl, HF.out⟩
/-- what a write's closure does, entered within. -/
def ClosureDoes (Y : StoreL) (ed : Option Nat) (D : Nat → List Nat) (b0 b1 b2 : Nat) (told : ToldS) (X1 X2 : StoreS) (w : World) : Prop :=
  ∀ W, StoreIn W Y ed D X1 → Moves Y (Dyn Y ed D) (Dyn Y ed D) w W → Calls Tryz.prog 179 #[ptr b0, ptr b1, ptr b2] W fun e W' => ∃ D', e = .returned (.tuple #[told.val, .int .i64 0]) ∧ StoreIn W' Y ed D' X2 ∧ Moves Y (Dyn Y ed D) (Dyn Y ed D') W W'
theorem epochEd {w : World} {Y : StoreL} {ed : Option Nat} {D : Nat → List Nat} {X : StoreS} {w' : World} {E' : EpochS} (h : StoreIn w Y ed D X) (he : EpochAt w' Y.eb Y.pool.pb Y.base ed E') (ho : Only [Y.eb] w w') : StoreIn w' Y ed D { X with epoch := E' } ∧ Moves Y (Dyn Y ed D) (Dyn Y ed D) w w' := by
  have ho' : Only (Y.eb :: ed.toList) w w' := ho.mono (by intro k hk; simp at hk; simp [hk])
  exact ⟨h.epochStep ho' he (.inl rfl) (fun k e => Nat.lt_of_lt_of_le (h.edlt k e) ho.size), h.epochMoves ho' (.inl rfl)⟩
set_option maxRecDepth 100000 in
set_option maxHeartbeats 1600000 in
theorem within_any (w : World) (Y : StoreL) (ed : Option Nat) (D : Nat → List Nat) (X X2 : StoreS) (h : StoreIn w Y ed D X) (i : Nat) (hi : i < Y.n) (h0 : X.epoch.deep = 0) (told : ToldS) (b0 b1 b2 : Nat) (hcl : ClosureDoes Y ed D b0 b1 b2 told { X with epoch := X.epoch.enter } X2 w) (h2 : X2.epoch = X.epoch.enter) :
    Calls Tryz.prog 142 #[ptr (Y.pt i), .pointer none, .func (.func 179) #[] #[ptr b0, ptr b1, ptr b2]] w fun e w' => ∃ D', e = .returned (.tuple #[told.val, .int .i64 0]) ∧ StoreIn w' Y ed D' { X2 with epoch := X2.epoch.leave } ∧ Moves Y (Dyn Y ed D) (Dyn Y ed D') w w' := by
  have hr0 : ¬ Dyn Y ed D w.heap.size := fun e => by have := (h.dyn_lt e).2; omega
  have hm0 : Moves Y (Dyn Y ed D) (Dyn Y ed D) w (w.alloc (.cells #[.int .i64 0, .bool false, .int .i64 0, .bool false, .int .i64 0] 57)) := .of_new ((Only.refl [] w).alloc _)
  have hs0 := h.new (w' := w.alloc (.cells #[.int .i64 0, .bool false, .int .i64 0, .bool false, .int .i64 0] 57)) ((Only.refl [] w).alloc _)
  have c5 := (hs0.fixed.pt i hi).cell (i := 5) rfl
  have hent := enter_any _ Y.eb Y.pool.pb Y.base ed X.epoch hs0.epoch h0
  have hrb : Y.base ≤ w.heap.size := h.room
  have hd1 : X2.epoch.deep = 1 := by rw [h2]; simp [EpochS.enter, h0]
  have hb0 := Blk.new w [.int .i64 0, .bool false, .int .i64 0, .bool false, .int .i64 0] 57
  have H := Lib.hid h; have H0 := Lib.hid hs0; have HM0 := Lib.hid hm0; have HI := Lib.hid hi; have HR0 := Lib.hid hr0; have HRB := Lib.hid hrb; have HCL := Lib.hid hcl; have HD1 := Lib.hid hd1; have HB0 := Lib.hid hb0
  unfold Epoched at hent
  unfold ClosureDoes ToldS.val at HCL
  unfold ToldS.val ptr at *
  clear h hs0 hm0 hi hr0 hrb hcl hd1 hb0 h0 h2
  obtain ⟨t0, t1, t2, t3, t4⟩ := told
  dsimp only at HCL ⊢
  go_enter_defers Tryz.func142, Tryz.ntmps142
  go_wp2_with (first | (go_at_call 85; refine hent.mono ?_; rintro e w1 ⟨rfl, he1, ho1⟩; obtain ⟨hs1, hm1⟩ := epochEd H0.out he1 ho1; have d5 := (hs1.fixed.pt i HI.out).cell (i := 5) rfl; unfold ptr at d5; have HS1 := Lib.hid hs1; have HM1 := Lib.hid (HM0.out.trans hm1); have HM1b := Lib.hid hm1; clear he1 ho1 hs1 hm1) | (go_at_call 179; refine (HCL.out _ HS1.out HM1.out).mono ?_; rintro e w2 ⟨D', rfl, hs2, hm2⟩; have hbr2 := hm2.blk (HM1b.out.blk HB0.out (fun e => by have := HRB.out; omega) HR0.out) (fun e => by have := HRB.out; omega) HR0.out; have hlt2 := hbr2.lt; have rf := hbr2.frozen; have r0 := hbr2.cell (i := 0) rfl; have r1 := hbr2.cell (i := 1) rfl; have r2 := hbr2.cell (i := 2) rfl; have r3 := hbr2.cell (i := 3) rfl; have r4 := hbr2.cell (i := 4) rfl; have HBR2 := Lib.hid hbr2; have HS2 := Lib.hid hs2; have HM2 := Lib.hid hm2; clear hs2 hm2 hbr2))
  obtain ⟨W3, hW3⟩ : ∃ W3 : World, ((((((w2.setCell ⟨w.heap.size, 0, none⟩ (.int .i64 t0)).setCell ⟨w.heap.size, 1, none⟩ (.bool t1)).setCell ⟨w.heap.size, 2, none⟩ (.int .i64 t2)).setCell ⟨w.heap.size, 3, none⟩ (.bool t3)).setCell ⟨w.heap.size, 4, none⟩ (.int .i64 t4)).alloc (.cells #[.int .i64 t0, .bool t1, .int .i64 t2, .bool t3, .int .i64 t4] 57)) = W3 := ⟨_, rfl⟩
  rw [hW3]
  have ho3 : Only [w.heap.size] w2 W3 := by
    rw [← hW3]
    exact (((((((Only.refl [w.heap.size] w2).setCell (.inl (by simp)) _).setCell (.inl (by simp)) _).setCell (.inl (by simp)) _).setCell (.inl (by simp)) _).setCell (.inl (by simp)) _).alloc _)
  have hbr3 : Blk W3 w.heap.size [.int .i64 t0, .bool t1, .int .i64 t2, .bool t3, .int .i64 t4] 57 := by
    rw [← hW3]
    exact (((((HBR2.out.set 0 (.int .i64 t0)).set 1 (.bool t1)).set 2 (.int .i64 t2)).set 3 (.bool t3)).set 4 (.int .i64 t4)).alloc _
  have hlow : w.heap.size < w1.heap.size := by have := HM1b.out.size; simp at this; omega
  have hr3 : ¬ Dyn Y ed D' w.heap.size := fun e => by
    rcases HM2.out.dyn _ e with e | e
    · exact HR0.out e
    · omega
  have hs3 := HS2.out.only ho3 (fun k hk => by simp at hk; subst hk; exact ⟨HRB.out, hr3⟩)
  have hm3 := (HM1.out.trans HM2.out).fresh ho3 (fun k hk => by simp at hk; omega)
  refine leaves_cons (f := 86) (args := #[.pointer (some ⟨Y.eb, 0, none⟩), .pointer none]) (by simp) (by simp [go_sem]) ?_
  refine (leave_d W3 Y.eb Y.pool.pb Y.base ed X2.epoch hs3.epoch HD1.out .returning).mono ?_
  rintro e u' w4 ⟨rfl, rfl, he4, ho4⟩
  obtain ⟨hs4, hm4⟩ := epochEd hs3 he4 ho4
  have hbr4 := hbr3.only ho4 (by have := H.out.ok.eb.1; have := HRB.out; simp; omega)
  have e0 := hbr4.cell (i := 0) rfl
  have e1 := hbr4.cell (i := 1) rfl
  have e2 := hbr4.cell (i := 2) rfl
  have e3 := hbr4.cell (i := 3) rfl
  have e4 := hbr4.cell (i := 4) rfl
  exact ⟨.tuple #[.agg #[.int .i64 t0, .bool t1, .int .i64 t2, .bool t3, .int .i64 t4], .int .i64 0], by simp [results, Tryz.results142, go_sem, e0, e1, e2, e3, e4], D', rfl, hs4, hm3.trans hm4⟩
end Go.Proofs.YteeefedoffplmaaGreat
