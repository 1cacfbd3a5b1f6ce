/- sameInts, sameBlames: contracts. Lists are at most 4000000 long. -/
import Derived.Test.YtpnegacfanbcfaaHist
import Derived.Laws.StructEq
namespace Go.Proofs.Ytpnegacfanbcfaa
open Go.RowKit Go.Maps

def SmRel {α : Type} (a b : List α) (w : World) (k : Nat) (i : Value) (wr : World) : Prop :=
  ∃ j : Nat, j ≤ a.length ∧ i = .int .i64 j ∧ k = a.length - j ∧ a.take j = b.take j ∧ ∃ n, wr = w.drewN n
theorem take_eq_succ {α : Type} {a b : List α} {j : Nat} {x : α} (h : a.take j = b.take j) (ha : a[j]? = some x) (hb : b[j]? = some x) : a.take (j + 1) = b.take (j + 1) := by
  rw [List.take_add_one, List.take_add_one, h, ha, hb]
set_option maxRecDepth 20000 in
theorem sameInts (a b : List Int) (A B : Option Addr) (ac bc : Nat) (w : World) (hl : a.length ≤ 4000000) (_hl2 : b.length ≤ 4000000) (ha : Row w A (intsZ a)) (hb : Row w B (intsZ b)) :
    Calls Try.prog 12 #[.slice A a.length ac, .slice B b.length bc] w fun e w' => e = .returned (.bool (decide (a = b))) ∧ ∃ n, w' = w.drewN n := by
  have HA := Lib.hid ha; have HB := Lib.hid hb
  clear ha hb
  by_cases hlen : a.length = b.length
  · have HLEN := Lib.hid hlen
    have hq : ((a.length : Int) != (b.length : Int)) = false := by simp [hlen]
    clear hlen
    go_enter Try.func12, Try.ntmps12
    go_wp2_with fail
    go_loopg [5] a.length (fun k i wr => SmRel a b w k i wr)
    case atStart => exact ⟨0, Nat.zero_le _, rfl, rfl, by simp, 0, rfl⟩
    case round =>
      obtain ⟨j, hj, rfl, rfl, htk, n, rfl⟩ := hrel
      have HTK := Lib.hid htk
      clear htk hq
      by_cases hlt : j < a.length
      · have hltb : j < b.length := by rw [← HLEN.out]; exact hlt
        obtain ⟨x, hx⟩ : ∃ x, a[j]? = some x := ⟨_, List.getElem?_eq_getElem hlt⟩
        obtain ⟨y, hy⟩ : ∃ y, b[j]? = some y := ⟨_, List.getElem?_eq_getElem hltb⟩
        obtain ⟨ab, aoff, hAe, hca⟩ := HA.out j (.int .i64 x) (by simp [intsZ, hx])
        obtain ⟨bb, boff, hBe, hcb⟩ := HB.out j (.int .i64 y) (by simp [intsZ, hy])
        have HX := Lib.hid hx; have HY := Lib.hid hy
        clear hx hy
        subst hAe hBe
        have hl' : (j : Int) < a.length := by omega
        have hl2' : (j : Int) < b.length := by omega
        by_cases hxy : x = y
        · have hxy' : (x != y) = false := by simp [hxy]
          have HXY := Lib.hid hxy
          clear hxy
          go_wp2_with fail
          go_quiet (fail)
          go_wp2_with fail
          go_roundg (a.length - (j + 1))
          case measure => omega
          case rel => exact ⟨j + 1, by omega, by go_num, rfl, take_eq_succ HTK.out HX.out (by rw [HY.out, HXY.out]), _, rfl⟩
        · have hxy' : (x != y) = true := by simp [hxy]
          have HXY := Lib.hid hxy
          clear hxy
          go_wp2_with fail
          go_quiet (fail)
          go_wp2_with fail
          go_ret
          refine ⟨ret_bool ?_, n + nq, World.drewN_drewN _ _ _⟩
          symm
          rw [decide_eq_false_iff_not]
          intro e
          have h1 := HX.out
          rw [e, HY.out] at h1
          injection h1 with h1
          exact HXY.out h1.symm
      · have HJ : Hid (a = b) := by
          have := HTK.out
          rw [List.take_of_length_le (by omega), List.take_of_length_le (by have := HLEN.out; omega)] at this
          exact this
        go_wp2_with fail
        go_ret
        exact ⟨ret_bool (by rw [decide_eq_true HJ.out]), _, rfl⟩
  · have hq : ((a.length : Int) != (b.length : Int)) = true := by
      have : ¬ (a.length : Int) = b.length := by omega
      simp [this]
    have HLEN := Lib.hid hlen
    clear hlen
    go_enter Try.func12, Try.ntmps12
    go_wp2_with fail
    go_ret
    refine ⟨ret_bool ?_, 0, rfl⟩
    symm
    rw [decide_eq_false_iff_not]
    intro e
    exact HLEN.out (by rw [e])
theorem load_at {α : Type} (g : α → List Value) (s : Nat) (hg : ∀ x, (g x).length = s) (hs : 0 < s) {w : World} {b off : Nat} {l : List α} (h : Row w (some ⟨b, off, none⟩) (l.flatMap g)) {k : Nat} {x : α} (hx : l[k]? = some x) :
    (loadCellsFrom ⟨b, off + k * s, none⟩ 0 s #[]).run Try.prog w = .ok (g x).toArray w := by
  obtain ⟨b', off', e, hl⟩ := load_elem g s hg hs h hx
  simp only [Option.some.injEq, Addr.mk.injEq, and_true] at e
  obtain ⟨rfl, rfl⟩ := e
  exact hl
theorem neqBlm (x0 x1 x2 y0 y1 y2 : Int) (w : World) : (binOp .neq 55 (.agg #[.int .i64 x0, .int .i64 x1, .int .i64 x2]) (.agg #[.int .i64 y0, .int .i64 y1, .int .i64 y2])).run Try.prog w = .ok (.bool (!(x0 == y0 && (x1 == y1 && x2 == y2)))) w := by
  have h1 : Try.prog.stoodInHeld 55 = false := by kernel_rfl
  have hu := Try.underlying55
  go_simp
  by_cases e0 : x0 = y0 <;> by_cases e1 : x1 = y1 <;> by_cases e2 : x2 = y2 <;> simp [e0, e1, e2]
theorem guard55 : Try.prog.eqGuardType Try.prog.depth 55 = false := by kernel_rfl
attribute [-go_sem] loadCellsFrom
attribute [-go_sem] run_neq_struct
set_option maxRecDepth 20000 in
theorem sameBlames (a b : List Blm) (A B : Option Addr) (ac bc : Nat) (w : World) (hl : a.length ≤ 4000000) (_hl2 : b.length ≤ 4000000) (ha : Row w A (blCells a)) (hb : Row w B (blCells b)) :
    Calls Try.prog 21 #[.slice A a.length ac, .slice B b.length bc] w fun e w' => e = .returned (.bool (decide (a = b))) ∧ ∃ n, w' = w.drewN n := by
  have HA := Lib.hid ha; have HB := Lib.hid hb
  clear ha hb
  by_cases hlen : a.length = b.length
  · have HLEN := Lib.hid hlen
    have hq : ((a.length : Int) != (b.length : Int)) = false := by simp [hlen]
    clear hlen
    go_enter Try.func21, Try.ntmps21
    go_wp2_with fail
    go_loopg [5] a.length (fun k i wr => SmRel a b w k i wr)
    case atStart => exact ⟨0, Nat.zero_le _, rfl, rfl, by simp, 0, rfl⟩
    case round =>
      obtain ⟨j, hj, rfl, rfl, htk, n, rfl⟩ := hrel
      have HTK := Lib.hid htk
      clear htk hq
      by_cases hlt : j < a.length
      · have hltb : j < b.length := by rw [← HLEN.out]; exact hlt
        obtain ⟨x, hx⟩ : ∃ x, a[j]? = some x := ⟨_, List.getElem?_eq_getElem hlt⟩
        obtain ⟨y, hy⟩ : ∃ y, b[j]? = some y := ⟨_, List.getElem?_eq_getElem hltb⟩
        obtain ⟨ab, aoff, hAe, hla⟩ := load_elem Blm.cells 3 (fun _ => rfl) (by decide) (l := a) HA.out hx
        subst hAe
        obtain ⟨bb, boff, hBe, hlb⟩ := load_elem Blm.cells 3 (fun _ => rfl) (by decide) (l := b) HB.out hy
        subst hBe
        have hla' : ∀ m, (loadCellsFrom ⟨ab, aoff + j * 3, none⟩ 0 3 #[]).run Try.prog (w.drewN m) = .ok #[.int .i64 x.at_, .int .i64 x.wit, .int .i64 x.why] (w.drewN m) := fun m => (load_at (w := w.drewN m) Blm.cells 3 (fun _ => rfl) (by decide) (HA.out) hx).trans rfl
        have hlb' : ∀ m, (loadCellsFrom ⟨bb, boff + j * 3, none⟩ 0 3 #[]).run Try.prog (w.drewN m) = .ok #[.int .i64 y.at_, .int .i64 y.wit, .int .i64 y.why] (w.drewN m) := fun m => (load_at (w := w.drewN m) Blm.cells 3 (fun _ => rfl) (by decide) (HB.out) hy).trans rfl
        clear hla hlb
        have HX := Lib.hid hx; have HY := Lib.hid hy
        clear hx hy
        have hl' : (j : Int) < a.length := by omega
        have hl2' : (j : Int) < b.length := by omega
        by_cases hxy : x = y
        · have hq5 : ∀ V, (binOp .neq 55 (.agg #[.int .i64 x.at_, .int .i64 x.wit, .int .i64 x.why]) (.agg #[.int .i64 y.at_, .int .i64 y.wit, .int .i64 y.why])).run Try.prog V = .ok (.bool false) V := fun V => by rw [neqBlm, hxy]; simp
          have hg5 := guard55
          have HXY := Lib.hid hxy
          clear hxy
          go_wp2_with fail
          go_quiet (fail)
          go_wp2_with fail
          go_roundg (a.length - (j + 1))
          case measure => omega
          case rel => exact ⟨j + 1, by omega, by go_num, rfl, take_eq_succ HTK.out HX.out (by rw [HY.out, HXY.out]), _, rfl⟩
        · have hq5 : ∀ V, (binOp .neq 55 (.agg #[.int .i64 x.at_, .int .i64 x.wit, .int .i64 x.why]) (.agg #[.int .i64 y.at_, .int .i64 y.wit, .int .i64 y.why])).run Try.prog V = .ok (.bool true) V := fun V => by
            rw [neqBlm]
            have : (x.at_ == y.at_ && (x.wit == y.wit && x.why == y.why)) = false := by
              rw [Bool.eq_false_iff]
              intro h
              simp only [Bool.and_eq_true, beq_iff_eq] at h
              apply hxy
              cases x
              cases y
              simp_all
            rw [this]
            rfl
          have hg5 := guard55
          have HXY := Lib.hid hxy
          clear hxy
          go_wp2_with fail
          go_quiet (fail)
          go_wp2_with fail
          go_ret
          refine ⟨ret_bool ?_, n + nq, World.drewN_drewN _ _ _⟩
          symm
          rw [decide_eq_false_iff_not]
          intro e
          have h1 := HX.out
          rw [e, HY.out] at h1
          injection h1 with h1
          exact HXY.out h1.symm
      · have HJ : Hid (a = b) := by
          have := HTK.out
          rw [List.take_of_length_le (by omega), List.take_of_length_le (by have := HLEN.out; omega)] at this
          exact this
        go_wp2_with fail
        go_ret
        exact ⟨ret_bool (by rw [decide_eq_true HJ.out]), _, rfl⟩
  · have hq : ((a.length : Int) != (b.length : Int)) = true := by
      have : ¬ (a.length : Int) = b.length := by omega
      simp [this]
    have HLEN := Lib.hid hlen
    clear hlen
    go_enter Try.func21, Try.ntmps21
    go_wp2_with fail
    go_ret
    refine ⟨ret_bool ?_, 0, rfl⟩
    symm
    rw [decide_eq_false_iff_not]
    intro e
    exact HLEN.out (by rw [e])
end Go.Proofs.Ytpnegacfanbcfaa
