/- sameInts, sameUses: contracts. Lists are at most 4000000 long. -/
import Derived.Test.YteeefedoffplmaaGreatClaim
import Derived.Laws.StructEq
set_option linter.unusedSimpArgs false
set_option linter.unusedVariables false
namespace Go.Proofs.YteeefedoffplmaaGreat
open Go.RowKit Go.Maps

def SmRel {α : Type} (a b : List α) (w : World) (k : Nat) (i : Value) (wr : World) : Prop :=
  ∃ j : Nat, j ≤ a.length ∧ i = .int .i64 j ∧ k = a.length - j ∧ a.take j = b.take j ∧ ∃ n, wr = w.drewN n
theorem take_eq_succ {α : Type} {a b : List α} {j : Nat} {x : α} (h : a.take j = b.take j) (ha : a[j]? = some x) (hb : b[j]? = some x) : a.take (j + 1) = b.take (j + 1) := by
  rw [List.take_add_one, List.take_add_one, h, ha, hb]
set_option maxRecDepth 20000 in
theorem sameInts (a b : List Int) (A B : Option Addr) (ac bc : Nat) (w : World) (hl : a.length ≤ 4000000) (_hl2 : b.length ≤ 4000000) (ha : Row w A (ints a)) (hb : Row w B (ints b)) :
    Calls Tryz.prog 20 #[.slice A a.length ac, .slice B b.length bc] w fun e w' => e = .returned (.bool (decide (a = b))) ∧ ∃ n, w' = w.drewN n := by
  have HA := Lib.hid ha; have HB := Lib.hid hb
  clear ha hb
  by_cases hlen : a.length = b.length
  · have HLEN := Lib.hid hlen
    have hq : ((a.length : Int) != (b.length : Int)) = false := by simp [hlen]
    clear hlen
    go_enter Tryz.func20, Tryz.ntmps20
    go_wp2_with fail
    go_loopg [5] a.length (fun k i wr => SmRel a b w k i wr)
    case atStart => exact ⟨0, Nat.zero_le _, rfl, rfl, by simp, 0, rfl⟩
    case round =>
      obtain ⟨j, hj, rfl, rfl, htk, n, rfl⟩ := hrel
      have HTK := Lib.hid htk
      clear htk hq
      by_cases hlt : j < a.length
      · have hltb : j < b.length := by rw [← HLEN.out]; exact hlt
        obtain ⟨x, hx⟩ : ∃ x, a[j]? = some x := ⟨_, List.getElem?_eq_getElem hlt⟩
        obtain ⟨y, hy⟩ : ∃ y, b[j]? = some y := ⟨_, List.getElem?_eq_getElem hltb⟩
        obtain ⟨ab, aoff, hAe, hca⟩ := HA.out j (.int .i64 x) (by simp [ints, hx])
        obtain ⟨bb, boff, hBe, hcb⟩ := HB.out j (.int .i64 y) (by simp [ints, hy])
        have HX := Lib.hid hx; have HY := Lib.hid hy
        clear hx hy
        subst hAe hBe
        have hl' : (j : Int) < a.length := by omega
        have hl2' : (j : Int) < b.length := by omega
        by_cases hxy : x = y
        · have hxy' : (x != y) = false := by simp [hxy]
          have HXY := Lib.hid hxy
          clear hxy
          go_wp2_with fail
          go_quiet (fail)
          go_wp2_with fail
          go_roundg (a.length - (j + 1))
          case measure => omega
          case rel => exact ⟨j + 1, by omega, by go_num, rfl, take_eq_succ HTK.out HX.out (by rw [HY.out, HXY.out]), _, rfl⟩
        · have hxy' : (x != y) = true := by simp [hxy]
          have HXY := Lib.hid hxy
          clear hxy
          go_wp2_with fail
          go_quiet (fail)
          go_wp2_with fail
          go_ret
          refine ⟨ret_bool ?_, n + nq, World.drewN_drewN _ _ _⟩
          symm
          rw [decide_eq_false_iff_not]
          intro e
          have h1 := HX.out
          rw [e, HY.out] at h1
          injection h1 with h1
          exact HXY.out h1.symm
      · have HJ : Hid (a = b) := by
          have := HTK.out
          rw [List.take_of_length_le (by omega), List.take_of_length_le (by have := HLEN.out; omega)] at this
          exact this
        go_wp2_with fail
        go_ret
        exact ⟨ret_bool (by rw [decide_eq_true HJ.out]), _, rfl⟩
  · have hq : ((a.length : Int) != (b.length : Int)) = true := by
      have : ¬ (a.length : Int) = b.length := by omega
      simp [this]
    have HLEN := Lib.hid hlen
    clear hlen
    go_enter Tryz.func20, Tryz.ntmps20
    go_wp2_with fail
    go_ret
    refine ⟨ret_bool ?_, 0, rfl⟩
    symm
    rw [decide_eq_false_iff_not]
    intro e
    exact HLEN.out (by rw [e])
theorem load_elem {α : Type} (g : α → List Value) (s : Nat) (hg : ∀ x, (g x).length = s) (hs : 0 < s) {w : World} {A : Option Addr} {l : List α} (h : Row w A (l.flatMap g)) {k : Nat} {x : α} (hx : l[k]? = some x) :
    ∃ b off, A = some ⟨b, off, none⟩ ∧ (loadCellsFrom ⟨b, off + k * s, none⟩ 0 s #[]).run Tryz.prog w = .ok (g x).toArray w := by
  have hget : ∀ j, j < s → (l.flatMap g)[k * s + j]? = (g x)[j]? := flatMap_get g s hg l k x hx
  have h0 : (g x)[0]? = some ((g x)[0]'(by rw [hg]; exact hs)) := List.getElem?_eq_getElem _
  obtain ⟨b, off, hA, _⟩ := h (k * s + 0) _ ((hget 0 hs).trans h0)
  subst hA
  refine ⟨b, off, rfl, ?_⟩
  have := run_loadCells_list (P := Tryz.prog) w ⟨b, off + k * s, none⟩ (g x) (fun j v hv => by
    have hj : j < s := by
      have := (List.getElem?_eq_some_iff.1 hv).1
      rwa [hg] at this
    obtain ⟨b', off', hA, hc⟩ := h (k * s + j) v ((hget j hj).trans hv)
    simp only [Option.some.injEq, Addr.mk.injEq, and_true] at hA
    obtain ⟨rfl, rfl⟩ := hA
    rw [addr_add, Nat.add_assoc]
    exact hc)
  simpa [loadCells, hg] using this

theorem load_at {α : Type} (g : α → List Value) (s : Nat) (hg : ∀ x, (g x).length = s) (hs : 0 < s) {w : World} {b off : Nat} {l : List α} (h : Row w (some ⟨b, off, none⟩) (l.flatMap g)) {k : Nat} {x : α} (hx : l[k]? = some x) :
    (loadCellsFrom ⟨b, off + k * s, none⟩ 0 s #[]).run Tryz.prog w = .ok (g x).toArray w := by
  obtain ⟨b', off', e, hl⟩ := load_elem g s hg hs h hx
  simp only [Option.some.injEq, Addr.mk.injEq, and_true] at e
  obtain ⟨rfl, rfl⟩ := e
  exact hl
theorem neqUse (x0 x1 x2 x3 x4 y0 y1 y2 y3 y4 : Int) (w : World) : (binOp .neq 62 (.agg #[.int .i64 x0, .int .i64 x1, .int .i64 x2, .int .i64 x3, .int .i64 x4]) (.agg #[.int .i64 y0, .int .i64 y1, .int .i64 y2, .int .i64 y3, .int .i64 y4])).run Tryz.prog w = .ok (.bool (!(x0 == y0 && (x1 == y1 && (x2 == y2 && (x3 == y3 && x4 == y4)))))) w := by
  have h1 : Tryz.prog.stoodInHeld 62 = false := by kernel_rfl
  have hu := Tryz.underlying62
  go_simp
  by_cases e0 : x0 = y0 <;> by_cases e1 : x1 = y1 <;> by_cases e2 : x2 = y2 <;> by_cases e3 : x3 = y3 <;> by_cases e4 : x4 = y4 <;> simp [e0, e1, e2, e3, e4]
theorem guard62 : Tryz.prog.eqGuardType Tryz.prog.depth 62 = false := by kernel_rfl
attribute [-go_sem] loadCellsFrom
attribute [-go_sem] run_neq_struct
set_option maxRecDepth 20000 in
theorem sameUses (a b : List UseS) (A B : Option Addr) (ac bc : Nat) (w : World) (hl : a.length ≤ 4000000) (_hl2 : b.length ≤ 4000000) (ha : Row w A (a.flatMap UseS.cells)) (hb : Row w B (b.flatMap UseS.cells)) :
    Calls Tryz.prog 8 #[.slice A a.length ac, .slice B b.length bc] w fun e w' => e = .returned (.bool (decide (a = b))) ∧ ∃ n, w' = w.drewN n := by
  have HA := Lib.hid ha; have HB := Lib.hid hb
  clear ha hb
  by_cases hlen : a.length = b.length
  · have HLEN := Lib.hid hlen
    have hq : ((a.length : Int) != (b.length : Int)) = false := by simp [hlen]
    clear hlen
    go_enter Tryz.func8, Tryz.ntmps8
    go_wp2_with fail
    go_loopg [5] a.length (fun k i wr => SmRel a b w k i wr)
    case atStart => exact ⟨0, Nat.zero_le _, rfl, rfl, by simp, 0, rfl⟩
    case round =>
      obtain ⟨j, hj, rfl, rfl, htk, n, rfl⟩ := hrel
      have HTK := Lib.hid htk
      clear htk hq
      by_cases hlt : j < a.length
      · have hltb : j < b.length := by rw [← HLEN.out]; exact hlt
        obtain ⟨x, hx⟩ : ∃ x, a[j]? = some x := ⟨_, List.getElem?_eq_getElem hlt⟩
        obtain ⟨y, hy⟩ : ∃ y, b[j]? = some y := ⟨_, List.getElem?_eq_getElem hltb⟩
        obtain ⟨ab, aoff, hAe, hla⟩ := load_elem UseS.cells 5 (fun _ => rfl) (by decide) (l := a) HA.out hx
        subst hAe
        obtain ⟨bb, boff, hBe, hlb⟩ := load_elem UseS.cells 5 (fun _ => rfl) (by decide) (l := b) HB.out hy
        subst hBe
        have hla' : ∀ m, (loadCellsFrom ⟨ab, aoff + j * 5, none⟩ 0 5 #[]).run Tryz.prog (w.drewN m) = .ok #[.int .i64 x.kind, .int .i64 x.part, .int .i64 x.from_, .int .i64 x.to, .int .i64 x.worker] (w.drewN m) := fun m => (load_at (w := w.drewN m) UseS.cells 5 (fun _ => rfl) (by decide) (HA.out) hx).trans rfl
        have hlb' : ∀ m, (loadCellsFrom ⟨bb, boff + j * 5, none⟩ 0 5 #[]).run Tryz.prog (w.drewN m) = .ok #[.int .i64 y.kind, .int .i64 y.part, .int .i64 y.from_, .int .i64 y.to, .int .i64 y.worker] (w.drewN m) := fun m => (load_at (w := w.drewN m) UseS.cells 5 (fun _ => rfl) (by decide) (HB.out) hy).trans rfl
        clear hla hlb
        have HX := Lib.hid hx; have HY := Lib.hid hy
        clear hx hy
        have hl' : (j : Int) < a.length := by omega
        have hl2' : (j : Int) < b.length := by omega
        by_cases hxy : x = y
        · have hq5 : ∀ V, (binOp .neq 62 (.agg #[.int .i64 x.kind, .int .i64 x.part, .int .i64 x.from_, .int .i64 x.to, .int .i64 x.worker]) (.agg #[.int .i64 y.kind, .int .i64 y.part, .int .i64 y.from_, .int .i64 y.to, .int .i64 y.worker])).run Tryz.prog V = .ok (.bool false) V := fun V => by rw [neqUse, hxy]; simp
          have hg5 := guard62
          have HXY := Lib.hid hxy
          clear hxy
          go_wp2_with fail
          go_quiet (fail)
          go_wp2_with fail
          go_roundg (a.length - (j + 1))
          case measure => omega
          case rel => exact ⟨j + 1, by omega, by go_num, rfl, take_eq_succ HTK.out HX.out (by rw [HY.out, HXY.out]), _, rfl⟩
        · have hq5 : ∀ V, (binOp .neq 62 (.agg #[.int .i64 x.kind, .int .i64 x.part, .int .i64 x.from_, .int .i64 x.to, .int .i64 x.worker]) (.agg #[.int .i64 y.kind, .int .i64 y.part, .int .i64 y.from_, .int .i64 y.to, .int .i64 y.worker])).run Tryz.prog V = .ok (.bool true) V := fun V => by
            rw [neqUse]
            have : (x.kind == y.kind && (x.part == y.part && (x.from_ == y.from_ && (x.to == y.to && x.worker == y.worker)))) = false := by
              rw [Bool.eq_false_iff]
              intro h
              simp only [Bool.and_eq_true, beq_iff_eq] at h
              apply hxy
              cases x
              cases y
              simp_all
            rw [this]
            rfl
          have hg5 := guard62
          have HXY := Lib.hid hxy
          clear hxy
          go_wp2_with fail
          go_quiet (fail)
          go_wp2_with fail
          go_ret
          refine ⟨ret_bool ?_, n + nq, World.drewN_drewN _ _ _⟩
          symm
          rw [decide_eq_false_iff_not]
          intro e
          have h1 := HX.out
          rw [e, HY.out] at h1
          injection h1 with h1
          exact HXY.out h1.symm
      · have HJ : Hid (a = b) := by
          have := HTK.out
          rw [List.take_of_length_le (by omega), List.take_of_length_le (by have := HLEN.out; omega)] at this
          exact this
        go_wp2_with fail
        go_ret
        exact ⟨ret_bool (by rw [decide_eq_true HJ.out]), _, rfl⟩
  · have hq : ((a.length : Int) != (b.length : Int)) = true := by
      have : ¬ (a.length : Int) = b.length := by omega
      simp [this]
    have HLEN := Lib.hid hlen
    clear hlen
    go_enter Tryz.func8, Tryz.ntmps8
    go_wp2_with fail
    go_ret
    refine ⟨ret_bool ?_, 0, rfl⟩
    symm
    rw [decide_eq_false_iff_not]
    intro e
    exact HLEN.out (by rw [e])
end Go.Proofs.YteeefedoffplmaaGreat
