/- A chain's Set. Conditions: pool and chain lie in memory; there are as many sets as slots. -/
import Derived.Test.YteeefedoffplmaaGreatVersions
namespace Go.Proofs.YteeefedoffplmaaGreat
open Go.RowKit

theorem ChainAt.look {w : World} {X : ChainL} {pb cb base : Nat} {D : List Nat} {C : ChainS} (h : ChainAt w X pb cb base D C) {i : Nat} {x : Int} {l : List Int} (hs : C.sets[i]? = some (x, l)) :
    ∃ v, w.cell? ⟨X.sb, i * 2, none⟩ = some (.int .i64 x) ∧ w.cell? ⟨X.sb, i * 2 + 1, none⟩ = some v ∧ w.ownsRow base 3 1 v l.length (ints l) ∧ l.length ≤ 100000 ∧ w.cell? ⟨X.xb, 3, none⟩ = some (sliceOf X.sb C.sets.length) := by
  obtain ⟨v, k1, k2, _, k4, _, k6, k7, _, _⟩ := h.takeSet hs
  exact ⟨v, k1, k2, k4, k6, k7⟩
theorem aliveL_lt {sl : List SlotS} {h : Int} {s : SlotS} (ha : aliveL sl h = some s) : ∃ i : Nat, idxW h = i ∧ i < sl.length + 1 := by
  unfold aliveL at ha
  have hb := idxW_bound h
  split at ha
  · cases ha
  · split at ha
    · cases ha
    · rename_i s' hs
      have := (List.getElem?_eq_some_iff.1 hs).1
      exact ⟨(idxW h).toNat, by omega, by omega⟩
set_option maxRecDepth 100000 in
set_option maxHeartbeats 1600000 in
theorem set_any (w : World) (X : ChainL) (L : PoolL) (S : PoolS) (cb base : Nat) (D : List Nat) (C : ChainS) (hp : PoolAt w L S) (hc : ChainAt w X L.pb cb base D C) (h1 : 1 ≤ S.slots.length) (hsl : C.sets.length = S.slots.length) (h : Int) :
    Calls Tryz.prog 64 #[ptr X.xb, .int .i64 h] w (NewInts (C.set S h) w) := by
  have hslots := slots_any w L S hp h1
  obtain ⟨rows, _, b1, _, _⟩ := hc.ex
  have c0 : w.cell? ⟨X.xb, 0, none⟩ = some (ptr L.pb) := b1.cell rfl
  have hm : S.slots.length ≤ 4097 := hp.most
  have hlen : (S.slots.drop 1).length ≤ 4096 := by rw [List.length_drop]; omega
  have hl1 : (S.slots.drop 1).length + 1 = C.sets.length := by rw [List.length_drop]; omega
  have HC := Lib.hid hc
  unfold ChainS.set
  rw [aliveIn_eq]
  unfold ptr at *
  clear hp hc b1 hm h1 hsl
  generalize S.slots.drop 1 = sl at *
  have hal := fun W A c (hr : Row W A (apis sl)) => alive_any W (.pointer (some ⟨X.xb, 0, none⟩)) A c sl hr (by omega) h
  cases ha : aliveL sl h with
  | none =>
    rw [ha] at hal
    unfold Told2 SlotS.apiV zSlot at hal
    have HAL := Lib.hid hal
    clear ha hal hl1
    go_enter Tryz.func64, Tryz.ntmps64
    go_wp2_with (first | (go_at_call 104; refine hslots.mono ?_; rintro e w1 ⟨sv, rfl, hown, ho⟩; obtain ⟨A, c, rfl, hrow, _⟩ := row_of_own hown; have HO := Lib.hid ho; have hal := HAL.out w1 A c hrow; clear hown ho hrow hslots) | (go_at_call 123; refine hal.mono ?_; rintro e w2 ⟨rfl, hb2⟩; have HB2 := Lib.hid hb2; clear hb2 hal))
    go_quiet (fail)
    go_wp2_with fail
    go_ret
    refine ⟨_, rfl, World.ownsRow_nil _ _ _ _, ?_⟩
    exact ((HO.out.trans (.of_below HB2.out)).alloc _).drewN _
  | some s =>
    rw [ha] at hal
    obtain ⟨i, hi, hil⟩ := aliveL_lt ha
    have hi2 : (idxW h).toNat = i := by omega
    rw [hi2]
    have hil' : i < C.sets.length := by omega
    obtain ⟨⟨sh, l⟩, hs⟩ : ∃ x, C.sets[i]? = some x := ⟨_, List.getElem?_eq_getElem hil'⟩
    rw [hs]
    have HIX := Lib.hid fun W => calls_rev (index_is hi W)
    have HSI := Lib.hid hs
    unfold Told2 SlotS.apiV at hal
    have HAL := Lib.hid hal
    clear ha hal hl1 hi hil hi2 hs
    obtain ⟨sg, sm, sk, ⟨sa, sb, sc, sd⟩⟩ := s
    generalize hln : C.sets.length = len at *
    have HLN := Lib.hid hln
    clear hln
    by_cases hsh : sh = h
    · have hq : (sh != h) = false := by simp [hsh]
      have HSH := Lib.hid hsh
      clear hsh
      go_enter Tryz.func64, Tryz.ntmps64
      go_wp2_with (first | (go_at_call 104; refine hslots.mono ?_; rintro e w1 ⟨sv, rfl, hown, ho⟩; obtain ⟨A, c, rfl, hrow, _⟩ := row_of_own hown; have HO := Lib.hid ho; have hal := HAL.out w1 A c hrow; clear hown ho hrow hslots) | (go_at_call 123; refine hal.mono ?_; rintro e w2 ⟨rfl, hb2⟩; have HB2 := Lib.hid hb2; clear hb2 hal))
      have hcc := (HC.out.below (HO.out.trans (.of_below HB2.out))).below ((Only.refl _ _).alloc (.cells #[.int .i64 sg, .int .i64 sa, .int .i64 sb, .int .i64 sc, .int .i64 sd, .int .i64 sm, .int .i64 sk] 220))
      obtain ⟨v, k1, k2, k3, k4, k5⟩ := hcc.look HSI.out
      obtain ⟨vA, vc, rfl, hvr, hvn⟩ := row_of_own k3
      rw [HLN.out] at k5
      unfold sliceOf at k5
      have HVR := Lib.hid hvr; have H4 := Lib.hid k4; have HVN := Lib.hid hvn
      clear hcc k3 hvr hvn k4
      go_quiet ((go_at_call 95; exact Calls.quiet_of_same (HIX.out _)))
      go_wp2_with fail
      have hcl := fun W hr => cloneInts vA l.length vc (ints l) W hr (ints_length l) (ints_one l) (by have := H4.out; omega) HVN.out
      have HCL := Lib.hid hcl
      clear hcl
      refine wp_region_still_tail 9 (by kernel_rfl) (by kernel_rfl) ?_
      simp only [List.take_succ_cons, List.take_zero, List.drop_succ_cons, List.drop_zero]
      change wpStill _ _ (World.drew _) (fun a' => wpList _ _ _ _ a' (World.drew _)) _ _
      iterate 5 still_step
      still_call (HIX.out _)
      iterate 3 still_step
      refine wpStill_nil ?_
      go_wp2_with (go_at_call 124; refine (HCL.out _ (by exact HVR.out)).mono ?_; rintro e w3 ⟨cv, rfl, hown3, hb3⟩; have HW3 := Lib.hid hown3; have HB3 := Lib.hid hb3; clear hown3 hb3)
      go_ret
      refine ⟨_, rfl, own_base HW3.out ?_, ?_⟩
      · have h1 := HO.out.size
        have h2 := HB2.out.size
        show w.heap.size ≤ (w2.alloc _).heap.size
        simp
        omega
      · have h1 := (HO.out.trans (.of_below HB2.out)).alloc (.cells #[.int .i64 sg, .int .i64 sa, .int .i64 sb, .int .i64 sc, .int .i64 sd, .int .i64 sm, .int .i64 sk] 220)
        have h2 := HB3.out
        exact h1.trans ⟨h2.os, h2.tape, h2.output, h2.size, fun k hk _ => h2.block k hk⟩
    · have hq : (sh != h) = true := by simp [hsh]
      have HSH := Lib.hid hsh
      clear hsh
      go_enter Tryz.func64, Tryz.ntmps64
      go_wp2_with (first | (go_at_call 104; refine hslots.mono ?_; rintro e w1 ⟨sv, rfl, hown, ho⟩; obtain ⟨A, c, rfl, hrow, _⟩ := row_of_own hown; have HO := Lib.hid ho; have hal := HAL.out w1 A c hrow; clear hown ho hrow hslots) | (go_at_call 123; refine hal.mono ?_; rintro e w2 ⟨rfl, hb2⟩; have HB2 := Lib.hid hb2; clear hb2 hal))
      have hcc := (HC.out.below (HO.out.trans (.of_below HB2.out))).below ((Only.refl _ _).alloc (.cells #[.int .i64 sg, .int .i64 sa, .int .i64 sb, .int .i64 sc, .int .i64 sd, .int .i64 sm, .int .i64 sk] 220))
      obtain ⟨v, k1, k2, k3, k4, k5⟩ := hcc.look HSI.out
      obtain ⟨vA, vc, rfl, hvr, hvn⟩ := row_of_own k3
      rw [HLN.out] at k5
      unfold sliceOf at k5
      clear hcc k3 hvr hvn k4
      go_quiet ((go_at_call 95; exact Calls.quiet_of_same (HIX.out _)))
      go_wp2_with fail
      go_ret
      refine ⟨_, rfl, World.ownsRow_nil _ _ _ _, ?_⟩
      exact ((HO.out.trans (.of_below HB2.out)).alloc _).drewN _
end Go.Proofs.YteeefedoffplmaaGreat
