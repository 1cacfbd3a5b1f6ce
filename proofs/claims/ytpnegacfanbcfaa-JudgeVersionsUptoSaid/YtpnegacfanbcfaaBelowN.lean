/- Has a snapshot a number below another one's (judge.below, skeinref20.less)? -/
import Derived.Test.YtpnegacfanbcfaaLays
namespace Go.Proofs.Ytpnegacfanbcfaa
open Go.RowKit Go.Maps

def belowB (a b : Ev) : Bool := (a.nums.zip b.nums).any fun p => decide (p.1 < p.2)
def BRel (a b : Ev) (w : World) (k : Nat) (i : Value) (wr : World) : Prop :=
  ∃ j : Nat, j ≤ a.nums.length ∧ i = .int .i64 j ∧ k = a.nums.length - j ∧ (∀ (j' : Nat) x y, j' < j → a.nums[j']? = some x → b.nums[j']? = some y → ¬ x < y) ∧ Below w.heap.size w wr ∧ wr.cell? ⟨w.heap.size + 1, 11, none⟩ = some (.slice b.nA b.nums.length b.nc)

attribute [-go_sem] loadCellsFrom
set_option maxRecDepth 100000 in
set_option maxHeartbeats 2000000 in
theorem judgeBelow (a b : Ev) (w : World) (ha : a.In w) (hb : b.In w) (hl : a.nums.length ≤ 3000) (hlen : a.nums.length = b.nums.length) :
    Calls Try.prog 69 #[a.val, b.val] w fun r w' => r = .returned (.bool (belowB a b)) ∧ Below w.heap.size w w' := by
  have HA := Lib.hid ha; have HB := Lib.hid hb; have HLEN := Lib.hid hlen
  clear ha hb hlen
  have h0 : Below w.heap.size w ((w.alloc (.cells a.arr 52)).alloc (.cells b.arr 52)) := ((Below.refl _ _).alloc (Nat.le_refl _) _).alloc (by simp) _
  have h1 : ((w.alloc (.cells a.arr 52)).alloc (.cells b.arr 52)).cell? ⟨w.heap.size + 1, 11, none⟩ = some (.slice b.nA b.nums.length b.nc) := by
    have := heap_alloc_new (w.alloc (.cells a.arr 52)) (.cells b.arr 52)
    rw [World.heap_size_alloc'] at this
    exact cell_of_row _ _ 11 _ _ _ this
  have H0 := Lib.hid h0; have H1 := Lib.hid h1
  clear h0 h1
  simp only [Ev.val, Ev.arr]
  go_enter Try.func69, Try.ntmps69
  go_wp2_with fail
  go_loopg [10] a.nums.length (fun k i wr => BRel a b w k i wr)
  case atStart => exact ⟨0, Nat.zero_le _, rfl, rfl, fun j' x y h => absurd h (Nat.not_lt_zero _), H0.out, H1.out⟩
  case round =>
    obtain ⟨j, hj, rfl, rfl, hno, hbw, hc⟩ := hrel
    have HNO := Lib.hid hno; have HBW := Lib.hid hbw; have HC := Lib.hid hc
    clear hno
    by_cases hlt : j < a.nums.length
    · have hltb : j < b.nums.length := by rw [← HLEN.out]; exact hlt
      obtain ⟨x, hx⟩ : ∃ x, a.nums[j]? = some x := ⟨_, List.getElem?_eq_getElem hlt⟩
      obtain ⟨y, hy⟩ : ∃ y, b.nums[j]? = some y := ⟨_, List.getElem?_eq_getElem hltb⟩
      obtain ⟨ab, aoff, hA, hca⟩ := (HA.out.n.below hbw) j (.int .i64 x) (by simp [intsZ, hx])
      obtain ⟨bb, boff, hB, hcb⟩ := (HB.out.n.below hbw) j (.int .i64 y) (by simp [intsZ, hy])
      have HX := Lib.hid hx; have HY := Lib.hid hy
      have HEA := Lib.hid hA; have HEB := Lib.hid hB
      clear hx hy hA hB hbw
      rw [HEB.out] at hc
      generalize hpa : a.nA = pA at *
      have HPA := Lib.hid hpa; clear hpa
      obtain rfl : pA = some ⟨ab, aoff, none⟩ := HEA.out
      by_cases hxy : x < y
      · go_wp2_with fail
        go_ret
        refine ⟨ret_bool ?_, HBW.out⟩
        symm
        unfold belowB
        rw [List.any_eq_true]
        exact ⟨(x, y), List.mem_of_getElem? (i := j) (by rw [List.getElem?_zip_eq_some]; exact ⟨HX.out, HY.out⟩), by simpa using hxy⟩
      · go_wp2_with fail
        go_roundg (a.nums.length - (j + 1))
        case measure => omega
        case rel =>
          refine ⟨j + 1, by omega, by go_num, rfl, fun j' x' y' hj' hx' hy' => ?_, HBW.out, HC.out⟩
          rcases Nat.lt_or_ge j' j with h | h
          · have := HNO.out j' x' y' h hx' hy'
            omega
          · obtain rfl : j' = j := by omega
            rw [HX.out] at hx'
            rw [HY.out] at hy'
            injection hx' with hx'
            injection hy' with hy'
            omega
    · have hjl : j = a.nums.length := by omega
      have HJ := Lib.hid hjl
      clear hjl hbw
      go_wp2_with fail
      go_ret
      refine ⟨ret_bool ?_, HBW.out⟩
      symm
      unfold belowB
      rw [List.any_eq_false]
      rintro ⟨x, y⟩ hp
      obtain ⟨i, hi⟩ := List.getElem?_of_mem hp
      rw [List.getElem?_zip_eq_some] at hi
      have := HNO.out i x y (by have := (List.getElem?_eq_some_iff.1 hi.1).1; have := HJ.out; omega) hi.1 hi.2
      simp
      omega
end Go.Proofs.Ytpnegacfanbcfaa
