/- A chain's alive. Conditions: the slots are read. -/
import Derived.Test.YteeefedoffplmaaGreatCut
namespace Go.Proofs.YteeefedoffplmaaGreat
open Go.RowKit

def zSlot : SlotS := ⟨0, 0, 0, ⟨0, 0, 0, 0⟩⟩
def SlotS.apiV (s : SlotS) : Value := .agg #[.int .i64 s.gen, .int .i64 s.node.a, .int .i64 s.node.b, .int .i64 s.node.c, .int .i64 s.node.d, .int .i64 s.mark, .int .i64 s.link]
/-- a slot and whether it is. -/
def Told2 (s : SlotS) (b : Bool) (w : World) (e : Ending) (w' : World) : Prop := e = .returned (.tuple #[s.apiV, .bool b]) ∧ Below w.heap.size w w'
theorem below_zero (w : World) (k : Nat) : Below w.heap.size w ((w.alloc (.cells #[.int .i64 0, .int .i64 0, .int .i64 0, .int .i64 0, .int .i64 0, .int .i64 0, .int .i64 0] 220)).drewN k) := by
  have h := (Below.refl w.heap.size w).alloc (Nat.le_refl _) (.cells #[.int .i64 0, .int .i64 0, .int .i64 0, .int .i64 0, .int .i64 0, .int .i64 0, .int .i64 0] 220)
  exact ⟨h.os, h.tape, h.output, h.size, h.block⟩
theorem tag_rev {h t : Int} (ht : tagW h = t) (w : World) : Calls Tryz.prog 84 #[.int .i64 h] w fun e w' => e = .returned (.int .i64 t) ∧ w' = w := calls_rev (tag_is ht w)
theorem blk7 {W : World} {b : Nat} {x0 x1 x2 x3 x4 x5 x6 y0 y1 y2 y3 y4 y5 y6 : Value} {t : TypeId} (h : Blk W b [x0, x1, x2, x3, x4, x5, x6] t) :
    Blk (((((((W.setCell ⟨b, 0, none⟩ y0).setCell ⟨b, 1, none⟩ y1).setCell ⟨b, 2, none⟩ y2).setCell ⟨b, 3, none⟩ y3).setCell ⟨b, 4, none⟩ y4).setCell ⟨b, 5, none⟩ y5).setCell ⟨b, 6, none⟩ y6) b [y0, y1, y2, y3, y4, y5, y6] t :=
  ((((((h.set 0 y0).set 1 y1).set 2 y2).set 3 y3).set 4 y4).set 5 y5).set 6 y6
theorem below7 {w W : World} {b : Nat} {y0 y1 y2 y3 y4 y5 y6 : Value} (h : Below w.heap.size w W) (hb : w.heap.size ≤ b) :
    Below w.heap.size w (((((((W.setCell ⟨b, 0, none⟩ y0).setCell ⟨b, 1, none⟩ y1).setCell ⟨b, 2, none⟩ y2).setCell ⟨b, 3, none⟩ y3).setCell ⟨b, 4, none⟩ y4).setCell ⟨b, 5, none⟩ y5).setCell ⟨b, 6, none⟩ y6) :=
  ((((((h.setCell hb y0).setCell hb y1).setCell hb y2).setCell hb y3).setCell hb y4).setCell hb y5).setCell hb y6
set_option maxRecDepth 100000 in
theorem alive_ret {w W : World} {b : Nat} {s : SlotS} {x : Bool} {tmps : Array Value} (hB : Blk W b s.api 220) (hb : Below w.heap.size w W) (h6 : tmps[6]? = some (ptr b)) (h7 : tmps[7]? = some (.bool x)) :
    bodyPost Tryz.prog Tryz.f123 (Told2 s x w) Exit.ret { tmps := tmps, defers := [] } W := by
  have c0 := hB.cell (i := 0) rfl; have c1 := hB.cell (i := 1) rfl; have c2 := hB.cell (i := 2) rfl; have c3 := hB.cell (i := 3) rfl; have c4 := hB.cell (i := 4) rfl; have c5 := hB.cell (i := 5) rfl; have c6 := hB.cell (i := 6) rfl
  unfold ptr at h6
  refine bodyPost_ret (v := .tuple #[s.apiV, .bool x]) ?_ rfl ⟨rfl, hb⟩
  simp [results, Tryz.results123, go_sem, h6, h7, c0, c1, c2, c3, c4, c5, c6, SlotS.apiV]
set_option maxRecDepth 100000 in
set_option maxHeartbeats 400000 in
theorem alive_low (w : World) (v0 : Value) (A : Option Addr) (n c : Nat) (h : Int) (h0 : idxW h < 1) : Calls Tryz.prog 123 #[v0, .slice A n c, .int .i64 h] w (Told2 zSlot false w) := by
  have hb := idxW_bound h
  have hi : idxW h = (0 : Nat) := by omega
  have hix := fun W => index_is hi W
  clear hb h0 hi
  have hz := Lib.hid (Blk.new w zSlot.api 220)
  have hbz := Lib.hid ((Below.refl w.heap.size w).alloc (Nat.le_refl _) (.cells zSlot.api.toArray 220))
  go_enter Tryz.func123, Tryz.ntmps123
  go_wp2_with (go_at_call 95; refine (hix _).mono ?_; rintro e w' ⟨rfl, rfl⟩)
  go_quiet (fail)
  go_wp2_with fail
  exact alive_ret (s := zSlot) (blk7 (hz.out.drewN _)) (below7 (⟨hbz.out.os, hbz.out.tape, hbz.out.output, hbz.out.size, hbz.out.block⟩) (Nat.le_refl _)) rfl rfl
set_option maxRecDepth 100000 in
set_option maxHeartbeats 800000 in
theorem alive_high (w : World) (v0 : Value) (A : Option Addr) (n c : Nat) (h : Int) (_ : n ≤ 100000) (j : Nat) (hi : idxW h = (j : Int) + 1) (hj : n ≤ j) : Calls Tryz.prog 123 #[v0, .slice A n c, .int .i64 h] w (Told2 zSlot false w) := by
  have hbi := (idxW_bound h).2
  have hix : ∀ W, Calls Tryz.prog 95 #[.int .i64 h] W fun e w' => e = .returned (.int .i64 ((j : Int) + 1)) ∧ W = w' := fun W => hi ▸ index_any h W
  have e1 : decide ((j : Int) + 1 < 1) = false := by simp; omega
  have e2 : decide ((n : Int) < (j : Int) + 1) = true := by simp; omega
  clear hi hbi
  have hz := Lib.hid (Blk.new w zSlot.api 220)
  have hbz := Lib.hid ((Below.refl w.heap.size w).alloc (Nat.le_refl _) (.cells zSlot.api.toArray 220))
  go_enter Tryz.func123, Tryz.ntmps123
  go_wp2_with (go_at_call 95; refine (hix _).mono ?_; rintro e w' ⟨rfl, rfl⟩)
  go_quiet (fail)
  go_wp2_with fail
  exact alive_ret (s := zSlot) (blk7 (hz.out.drewN _)) (below7 (⟨hbz.out.os, hbz.out.tape, hbz.out.output, hbz.out.size, hbz.out.block⟩) (Nat.le_refl _)) rfl rfl
set_option maxRecDepth 100000 in
set_option maxHeartbeats 800000 in
theorem alive_gen (w : World) (v0 : Value) (b off n c : Nat) (h : Int) (_ : n ≤ 100000) (j : Nat) (hi : idxW h = (j : Int) + 1) (hj : j < n) (s : SlotS) (hc : ∀ k v, s.api[k]? = some v → w.cell? ⟨b, off + j * 7 + k, none⟩ = some v) (t : Int) (ht : tagW h = t) (hg : s.gen ≠ t) : Calls Tryz.prog 123 #[v0, .slice (some ⟨b, off, none⟩) n c, .int .i64 h] w (Told2 zSlot false w) := by
  have hbi := (idxW_bound h).2
  have hix : ∀ W, Calls Tryz.prog 95 #[.int .i64 h] W fun e w' => e = .returned (.int .i64 ((j : Int) + 1)) ∧ W = w' := fun W => hi ▸ index_any h W
  have e1 : decide ((j : Int) + 1 < 1) = false := by simp; omega
  have e2 : decide ((n : Int) < (j : Int) + 1) = false := by simp; omega
  have e3 : IntKind.i64.wrap (j : Int) = (j : Int) := IntWalk.i64_in _ (by omega)
  have hj' : (j : Int) < n := by omega
  have htg := fun W => tag_rev ht W
  have htb := tagW_bound h
  rw [ht] at htb
  have k0 := cell_alloc (hc 0 _ rfl) (.cells #[.int .i64 0, .int .i64 0, .int .i64 0, .int .i64 0, .int .i64 0, .int .i64 0, .int .i64 0] 220)
  rw [Nat.add_zero] at k0
  have e4 : (s.gen != t) = true := by simp [hg]
  clear hi hbi hc ht hg htb
  have hz := Lib.hid (Blk.new w zSlot.api 220)
  have hbz := Lib.hid ((Below.refl w.heap.size w).alloc (Nat.le_refl _) (.cells zSlot.api.toArray 220))
  go_enter Tryz.func123, Tryz.ntmps123
  go_wp2_with (go_at_call 95; refine (hix _).mono ?_; rintro e w' ⟨rfl, rfl⟩)
  go_quiet ((go_at_call 84; exact Calls.quiet_of_same (htg _)))
  go_wp2_with fail
  exact alive_ret (s := zSlot) (blk7 (hz.out.drewN _)) (below7 (⟨hbz.out.os, hbz.out.tape, hbz.out.output, hbz.out.size, hbz.out.block⟩) (Nat.le_refl _)) rfl rfl
set_option maxRecDepth 100000 in
set_option maxHeartbeats 800000 in
theorem alive_even (w : World) (v0 : Value) (b off n c : Nat) (h : Int) (_ : n ≤ 100000) (j : Nat) (hi : idxW h = (j : Int) + 1) (hj : j < n) (s : SlotS) (hc : ∀ k v, s.api[k]? = some v → w.cell? ⟨b, off + j * 7 + k, none⟩ = some v) (t : Int) (ht : tagW h = t) (hg : s.gen = t) (hm : t % 2 = 0) : Calls Tryz.prog 123 #[v0, .slice (some ⟨b, off, none⟩) n c, .int .i64 h] w (Told2 zSlot false w) := by
  have hbi := (idxW_bound h).2
  have hix : ∀ W, Calls Tryz.prog 95 #[.int .i64 h] W fun e w' => e = .returned (.int .i64 ((j : Int) + 1)) ∧ W = w' := fun W => hi ▸ index_any h W
  have e1 : decide ((j : Int) + 1 < 1) = false := by simp; omega
  have e2 : decide ((n : Int) < (j : Int) + 1) = false := by simp; omega
  have e3 : IntKind.i64.wrap (j : Int) = (j : Int) := IntWalk.i64_in _ (by omega)
  have hj' : (j : Int) < n := by omega
  have htg := fun W => tag_rev ht W
  have htb := tagW_bound h
  rw [ht] at htb
  have k0 := cell_alloc (hc 0 _ rfl) (.cells #[.int .i64 0, .int .i64 0, .int .i64 0, .int .i64 0, .int .i64 0, .int .i64 0, .int .i64 0] 220)
  rw [Nat.add_zero] at k0
  have e4 : (s.gen != t) = false := by simp [hg]
  have e5 : (t.tmod 2 == 0) = true := by rw [Int.tmod_eq_emod_of_nonneg htb.1, hm]; rfl
  clear hi hbi hc ht hg htb hm
  have hz := Lib.hid (Blk.new w zSlot.api 220)
  have hbz := Lib.hid ((Below.refl w.heap.size w).alloc (Nat.le_refl _) (.cells zSlot.api.toArray 220))
  go_enter Tryz.func123, Tryz.ntmps123
  go_wp2_with (go_at_call 95; refine (hix _).mono ?_; rintro e w' ⟨rfl, rfl⟩)
  go_quiet ((go_at_call 84; exact Calls.quiet_of_same (htg _)))
  go_wp2_with fail
  exact alive_ret (s := zSlot) (blk7 (hz.out.drewN _)) (below7 (⟨hbz.out.os, hbz.out.tape, hbz.out.output, hbz.out.size, hbz.out.block⟩) (Nat.le_refl _)) rfl rfl
set_option maxRecDepth 100000 in
set_option maxHeartbeats 800000 in
theorem alive_yes (w : World) (v0 : Value) (b off n c : Nat) (h : Int) (_ : n ≤ 100000) (j : Nat) (hi : idxW h = (j : Int) + 1) (hj : j < n) (s : SlotS) (hc : ∀ k v, s.api[k]? = some v → w.cell? ⟨b, off + j * 7 + k, none⟩ = some v) (t : Int) (ht : tagW h = t) (hg : s.gen = t) (hm : ¬ t % 2 = 0) : Calls Tryz.prog 123 #[v0, .slice (some ⟨b, off, none⟩) n c, .int .i64 h] w (Told2 s true w) := by
  have hbi := (idxW_bound h).2
  have hix : ∀ W, Calls Tryz.prog 95 #[.int .i64 h] W fun e w' => e = .returned (.int .i64 ((j : Int) + 1)) ∧ W = w' := fun W => hi ▸ index_any h W
  have e1 : decide ((j : Int) + 1 < 1) = false := by simp; omega
  have e2 : decide ((n : Int) < (j : Int) + 1) = false := by simp; omega
  have e3 : IntKind.i64.wrap (j : Int) = (j : Int) := IntWalk.i64_in _ (by omega)
  have hj' : (j : Int) < n := by omega
  have htg := fun W => tag_rev ht W
  have htb := tagW_bound h
  rw [ht] at htb
  have k0 := cell_alloc (hc 0 _ rfl) (.cells #[.int .i64 0, .int .i64 0, .int .i64 0, .int .i64 0, .int .i64 0, .int .i64 0, .int .i64 0] 220)
  rw [Nat.add_zero] at k0
  have k1 := cell_alloc (hc 1 _ rfl) (.cells #[.int .i64 0, .int .i64 0, .int .i64 0, .int .i64 0, .int .i64 0, .int .i64 0, .int .i64 0] 220)
  have k2 := cell_alloc (hc 2 _ rfl) (.cells #[.int .i64 0, .int .i64 0, .int .i64 0, .int .i64 0, .int .i64 0, .int .i64 0, .int .i64 0] 220)
  have k3 := cell_alloc (hc 3 _ rfl) (.cells #[.int .i64 0, .int .i64 0, .int .i64 0, .int .i64 0, .int .i64 0, .int .i64 0, .int .i64 0] 220)
  have k4 := cell_alloc (hc 4 _ rfl) (.cells #[.int .i64 0, .int .i64 0, .int .i64 0, .int .i64 0, .int .i64 0, .int .i64 0, .int .i64 0] 220)
  have k5 := cell_alloc (hc 5 _ rfl) (.cells #[.int .i64 0, .int .i64 0, .int .i64 0, .int .i64 0, .int .i64 0, .int .i64 0, .int .i64 0] 220)
  have k6 := cell_alloc (hc 6 _ rfl) (.cells #[.int .i64 0, .int .i64 0, .int .i64 0, .int .i64 0, .int .i64 0, .int .i64 0, .int .i64 0] 220)
  have e4 : (s.gen != t) = false := by simp [hg]
  have e5 : (t.tmod 2 == 0) = false := by rw [Int.tmod_eq_emod_of_nonneg htb.1]; simp [hm]
  clear hi hbi hc ht hg htb hm
  have hz := Lib.hid (Blk.new w zSlot.api 220)
  have hbz := Lib.hid ((Below.refl w.heap.size w).alloc (Nat.le_refl _) (.cells zSlot.api.toArray 220))
  go_enter Tryz.func123, Tryz.ntmps123
  go_wp2_with (go_at_call 95; refine (hix _).mono ?_; rintro e w' ⟨rfl, rfl⟩)
  go_quiet ((go_at_call 84; exact Calls.quiet_of_same (htg _)))
  go_wp2_with fail
  exact alive_ret (s := s) (blk7 (hz.out.drewN _)) (below7 (⟨hbz.out.os, hbz.out.tape, hbz.out.output, hbz.out.size, hbz.out.block⟩) (Nat.le_refl _)) rfl rfl
/-- the slot of a handle that is alive, among the slots from 1 on. -/
def aliveL (sl : List SlotS) (h : Int) : Option SlotS :=
  if idxW h < 1 then none else
    match sl[(idxW h).toNat - 1]? with
    | none => none
    | some s => if s.gen = tagW h ∧ ¬ tagW h % 2 = 0 then some s else none
theorem aliveIn_eq (slots : List SlotS) (h : Int) : aliveIn slots h = aliveL (slots.drop 1) h := by
  unfold aliveIn aliveL
  by_cases h0 : idxW h < 1
  · rw [if_pos h0]
    cases slots[(idxW h).toNat]? with
    | none => rfl
    | some s =>
      simp only [Option.bind_eq_bind, Option.bind_some]
      rw [if_neg (by omega)]
  · rw [if_neg h0]
    have e : (slots.drop 1)[(idxW h).toNat - 1]? = slots[(idxW h).toNat]? := by
      rw [List.getElem?_drop]
      congr 1
      omega
    rw [e]
    cases slots[(idxW h).toNat]? with
    | none => rfl
    | some s =>
      simp only [Option.bind_eq_bind, Option.bind_some]
      by_cases hg : s.gen = tagW h ∧ ¬ tagW h % 2 = 0
      · rw [if_pos hg, if_pos ⟨by omega, hg.1, hg.2⟩]
      · rw [if_neg hg, if_neg (fun e => hg ⟨e.2.1, e.2.2⟩)]
theorem Row.api {w : World} {A : Option Addr} {sl : List SlotS} (hr : Row w A (apis sl)) {j : Nat} {s : SlotS} (hs : sl[j]? = some s) :
    ∃ b off, A = some ⟨b, off, none⟩ ∧ ∀ k v, s.api[k]? = some v → w.cell? ⟨b, off + j * 7 + k, none⟩ = some v := by
  have g : ∀ k, k < 7 → (apis sl)[j * 7 + k]? = s.api[k]? := flatMap_get SlotS.api 7 (fun _ => rfl) sl j s hs
  obtain ⟨b, off, hA, _⟩ := hr (j * 7 + 0) _ ((g 0 (by omega)).trans rfl)
  refine ⟨b, off, hA, fun k v hk => ?_⟩
  have hk7 : k < 7 := (List.getElem?_eq_some_iff.1 hk).1
  obtain ⟨b', off', hA', hc⟩ := hr (j * 7 + k) v ((g k hk7).trans hk)
  rw [hA] at hA'
  simp only [Option.some.injEq, Addr.mk.injEq, and_true] at hA'
  obtain ⟨rfl, rfl⟩ := hA'
  rw [Nat.add_assoc]
  exact hc
theorem alive_any (w : World) (v0 : Value) (A : Option Addr) (c : Nat) (sl : List SlotS) (hr : Row w A (apis sl)) (hn : sl.length ≤ 100000) (h : Int) :
    Calls Tryz.prog 123 #[v0, .slice A sl.length c, .int .i64 h] w (match aliveL sl h with | some s => Told2 s true w | none => Told2 zSlot false w) := by
  unfold aliveL
  have hb := idxW_bound h
  by_cases h0 : idxW h < 1
  · rw [if_pos h0]
    exact alive_low w v0 A _ c h h0
  · rw [if_neg h0]
    obtain ⟨j, hj⟩ : ∃ j : Nat, idxW h = (j : Int) + 1 := ⟨(idxW h).toNat - 1, by omega⟩
    have hj2 : (idxW h).toNat - 1 = j := by omega
    rw [hj2]
    cases hs : sl[j]? with
    | none =>
      exact alive_high w v0 A _ c h hn j hj (by
        have := List.getElem?_eq_none_iff.1 hs
        omega)
    | some s =>
      have hjl := (List.getElem?_eq_some_iff.1 hs).1
      obtain ⟨b, off, rfl, hc⟩ := hr.api hs
      by_cases hg : s.gen = tagW h
      · by_cases hm : tagW h % 2 = 0
        · simp only [hm, not_true_eq_false, and_false, if_false]
          exact alive_even w v0 b off _ c h hn j hj hjl s hc _ rfl hg hm
        · simp only [hg, hm, not_false_eq_true, and_self, if_true]
          exact alive_yes w v0 b off _ c h hn j hj hjl s hc _ rfl hg hm
      · simp only [hg, false_and, if_false]
        exact alive_gen w v0 b off _ c h hn j hj hjl s hc _ rfl hg
end Go.Proofs.YteeefedoffplmaaGreat

/- A chain's Versions. Conditions: pool and chain lie in memory. -/
namespace Go.Proofs.YteeefedoffplmaaGreat
open Go.RowKit

def versL (sl : List SlotS) : Nat → Int → List Int → List Int
  | 0, _, out => out
  | f + 1, h, out => if h = 0 then out else
    match aliveL sl h with
    | none => out
    | some s => versL sl f s.link (out ++ [h])
theorem versL_eq (slots : List SlotS) : ∀ (f : Nat) (h : Int) (out : List Int), versionsFrom slots f h out = versL (slots.drop 1) f h out
  | 0, _, _ => rfl
  | f + 1, h, out => by
    unfold versionsFrom versL
    rw [aliveIn_eq]
    cases aliveL (slots.drop 1) h with
    | none => rfl
    | some s => simp only [versL_eq slots f]
def VsRel (sl : List SlotS) (res : List Int) (w : World) (k : Nat) (out hv : Value) (wr : World) : Prop :=
  ∃ f h out', k = f ∧ hv = .int .i64 h ∧ versL sl f h out' = res ∧ wr.ownsRow w.heap.size 3 1 out out'.length (ints out') ∧ Only [] w wr ∧ f + out'.length = sl.length
attribute [-go_sem] loadCellsFrom
theorem apiV_load {W : World} {b : Nat} {s : SlotS} {t : TypeId} (h : Blk W b s.api t) (i : Nat) (v : Value) (hv : s.api[i]? = some v) : W.cell? ⟨b, i, none⟩ = some v := h.cell hv
set_option maxRecDepth 100000 in
set_option maxHeartbeats 1600000 in
theorem versions_any (w : World) (X : ChainL) (L : PoolL) (S : PoolS) (cb base : Nat) (D : List Nat) (C : ChainS) (hp : PoolAt w L S) (hc : ChainAt w X L.pb cb base D C) (h1 : 1 ≤ S.slots.length) :
    Calls Tryz.prog 70 #[ptr X.xb] w (NewInts (C.versions S) w) := by
  have hsl := slots_any w L S hp h1
  obtain ⟨rows, _, b1, _, _⟩ := hc.ex
  have c0 : w.cell? ⟨X.xb, 0, none⟩ = some (ptr L.pb) := b1.cell rfl
  have HB := Lib.hid b1
  have hm : S.slots.length ≤ 4097 := hp.most
  have hlen : (S.slots.drop 1).length ≤ 4096 := by rw [List.length_drop]; omega
  have hres : versL (S.slots.drop 1) (S.slots.drop 1).length C.head [] = C.versions S := by
    unfold ChainS.versions
    rw [versL_eq]
    congr 1
    rw [List.length_drop]
  have HRES := Lib.hid hres
  unfold ptr at *
  clear hp hc b1 hm h1 hres
  generalize S.slots.drop 1 = sl at *
  go_enter Tryz.func70, Tryz.ntmps70
  go_wp2_with (first | (go_at_call 104; refine hsl.mono ?_; rintro e w1 ⟨sv, rfl, hown, ho⟩; obtain ⟨A, c, rfl, hrow, _⟩ := row_of_own hown; have hb := HB.out.only ho (by simp); have hl := atomLoad X.xb 2 C.head w1 (hb.cell rfl); have HO := Lib.hid ho; have HROW := Lib.hid hrow; clear hown ho hrow hb hsl) | (go_at_call 51; refine hl.mono ?_; rintro e w' ⟨rfl, rfl⟩))
  go_loopg [4, 5] sl.length (fun k out hv wr => VsRel sl (C.versions S) w1 k out hv wr)
  case atStart => exact ⟨_, _, [], rfl, rfl, HRES.out, World.ownsRow_nil _ _ 3 1, Only.refl _ _, by simp⟩
  case round =>
    obtain ⟨f, h, out', rfl, rfl, hv, hown, ho, hf⟩ := hrel
    obtain ⟨oA, oc, rfl, _, _⟩ := row_of_own hown
    have HOW := Lib.hid hown; have HOO := Lib.hid ho
    have hrow : Row wr A (apis sl) := HROW.out.keep fun a v hc => cell_below ho.below hc
    have hal := fun h => alive_any wr (.pointer (some ⟨X.xb, 0, none⟩)) A c sl hrow (by omega) h
    clear hown ho hrow hl
    cases gk with
    | zero =>
      have HV : Hid (out' = C.versions S) := Lib.hid hv
      have hlen' : out'.length = sl.length := by omega
      have e1 : decide (out'.length < sl.length) = false := by simp; omega
      have hnl : ¬ out'.length < sl.length := by omega
      have HL := Lib.hid hlen'
      clear hv hlen' hal
      by_cases hh : h = 0
      · subst hh
        go_wp2_with fail
        go_ret
        rw [← HV.out]
        exact ⟨_, rfl, own_base HOW.out HO.out.size, HO.out.trans HOO.out⟩
      · have hq : (h != 0) = true := by simp [hh]
        clear hh
        go_wp2_with fail
        go_ret
        rw [← HV.out]
        exact ⟨_, rfl, own_base HOW.out HO.out.size, HO.out.trans HOO.out⟩
    | succ f =>
      have hlt : out'.length < sl.length := by omega
      unfold versL at hv
      by_cases hh : h = 0
      · subst hh
        rw [if_pos rfl] at hv
        have HV := Lib.hid hv
        clear hv hal
        go_wp2_with fail
        go_ret
        rw [← HV.out]
        exact ⟨_, rfl, own_base HOW.out HO.out.size, HO.out.trans HOO.out⟩
      · rw [if_neg hh] at hv
        have hq : (h != 0) = true := by simp [hh]
        have hal := hal h
        clear hh
        cases ha : aliveL sl h with
        | none =>
          rw [ha] at hv hal
          have HV : Hid (out' = C.versions S) := Lib.hid hv
          unfold Told2 SlotS.apiV zSlot at hal
          clear hv ha
          go_wp2_with (go_at_call 123; refine hal.mono ?_; rintro e w2 ⟨rfl, hb2⟩; have HB2 := Lib.hid hb2; clear hb2)
          go_ret
          rw [← HV.out]
          exact ⟨_, rfl, own_base ((own_below HOW.out HB2.out).alloc _) HO.out.size, ((HO.out.trans HOO.out).trans (.of_below HB2.out)).alloc _⟩
        | some s =>
          rw [ha] at hv hal
          simp only at hv
          have HV := Lib.hid hv
          unfold Told2 SlotS.apiV at hal
          clear hv ha
          obtain ⟨sg, sm, sk, ⟨sa, sb, sc, sd⟩⟩ := s
          have hm1 : out'.length + 1 ≤ maxLen := by unfold maxLen; omega
          have hm2 : (out'.length + 1) * 8 ≤ 140737488355328 := by omega
          have HM1 := Lib.hid hm1; have HM2 := Lib.hid hm2
          clear hm1 hm2
          go_wp2_with (first | (go_at_call 123; refine hal.mono ?_; rintro e w2 ⟨rfl, hb2⟩; have HB2 := Lib.hid hb2; have hrn := row_new (w2.alloc (.cells #[.int .i64 sg, .int .i64 sa, .int .i64 sb, .int .i64 sc, .int .i64 sd, .int .i64 sm, .int .i64 sk] 220)) [.int .i64 h] 3; rw [World.size_alloc] at hrn; have HRN := Lib.hid hrn; have hbs : w1.heap.size ≤ w2.heap.size := Nat.le_trans HOO.out.size hb2.size; have HBS := Lib.hid hbs; clear hb2 hrn hbs) | (at_builtin; refine wpList_append_is rfl (.tmp 35) (.tmp 37) rfl elemInt rfl (((own_below HOW.out HB2.out).alloc (.cells #[.int .i64 sg, .int .i64 sa, .int .i64 sb, .int .i64 sc, .int .i64 sd, .int .i64 sm, .int .i64 sk] 220)).alloc (.cells #[.int .i64 h] 3)) _ 1 _ [.int .i64 h] rfl HRN.out rfl (by simp [Value.oneCell']) HM1.out HM2.out (Nat.le_trans HBS.out (Nat.le_trans (size_alloc_le _ _) (size_alloc_le _ _))) (fun e => by cases e) ?_; intro v2 w3 hown2 hg2 hat2; have c6 := hg2.cell (cell_alloc (cell_new w2 #[.int .i64 sg, .int .i64 sa, .int .i64 sb, .int .i64 sc, .int .i64 sd, .int .i64 sm, .int .i64 sk] 220 6 _ rfl) (.cells #[.int .i64 h] 3)) (fun e => by have h1 := (HOW.out.lt _ e.symm).2; have h2 := HB2.out.size; have h3 : (⟨w2.heap.size, 6, none⟩ : Addr).block = w2.heap.size := rfl; omega); have HW2 := Lib.hid hown2; have HO2 := Lib.hid ((((HOO.out.trans (.of_below HB2.out)).alloc (.cells #[.int .i64 sg, .int .i64 sa, .int .i64 sb, .int .i64 sc, .int .i64 sd, .int .i64 sm, .int .i64 sk] 220)).alloc (.cells #[.int .i64 h] 3)).grown hg2 (fun k hk => .inl (HOW.out.lt k hk).1)); clear hown2 hg2 hat2))
          go_roundg f
          case measure => omega
          case rel => exact ⟨f, sk, out' ++ [h], rfl, rfl, HV.out, by rw [List.length_append, ints_snoc]; exact HW2.out, HO2.out, by rw [List.length_append]; simp; omega⟩
end Go.Proofs.YteeefedoffplmaaGreat
