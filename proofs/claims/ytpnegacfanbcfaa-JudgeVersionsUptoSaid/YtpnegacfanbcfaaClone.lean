/- slices.Clone at int and at Deed; the element types' rows of the table. -/
import Derived.Test.YtpnegacfanbcfaaAppend
import Derived.Lib.SliceRun
namespace Go.Proofs.Ytpnegacfanbcfaa
open Go.RowKit

theorem elemInt : ElemOk Try.prog 22 3 1 8 := elemOk_of (by kernel_rfl) (by decide) (.int .i64 0) (by kernel_rfl) rfl
theorem elemDeed : ElemOk Try.prog 23 27 8 64 := elemOk_of (by kernel_rfl) (by decide) (.agg #[.int .i64 0, .int .i64 0, .int .i64 0, .int .i64 0, .int .i64 0, .int .i64 0, .int .i64 0, .bool false]) (by kernel_rfl) rfl

theorem made_empty (w : World) (e size : Nat) : (w.alloc (.cells #[] e)).ownsRow w.heap.size e size (.slice (some ⟨w.heap.size, 0, none⟩) 0 0) 0 [] :=
  World.ownsRow_made w #[] 0 (Nat.le_refl _) (by simp [maxLen]) (by simp)

theorem cloneInts (A : Option Addr) (n c : Nat) (xs : List Value) (w : World) (hr : Row w A xs) (hl : xs.length = n) (h1 : ∀ u ∈ xs, u.oneCell' = true) (hn : n ≤ 1000000) (hA : A = none → n = 0) :
    Calls Try.prog 51 #[.slice A n c] w fun r w' => ∃ v, r = .returned v ∧ w'.ownsRow w.heap.size 3 1 v n xs ∧ Below w.heap.size w w' := by
  have heq : ∀ W : World, (binOp .eql 22 (.slice A n c) (.slice none 0 0)).run Try.prog W = .ok (.bool A.isNone) W := fun W => Lib.run_eql_slice_nil W 22 3 A n c 0 0 (by kernel_rfl)
  cases A with
  | none =>
    obtain rfl := hA rfl
    have : xs = [] := List.eq_nil_of_length_eq_zero hl
    subst this
    clear hA hl hn h1 hr
    go_enter Try.func51, Try.ntmps51
    go_wp2
    go_ret
    exact ⟨_, rfl, World.ownsRow_nil _ _ _ _, Below.refl _ _⟩
  | some ad =>
    have HL := Lib.hid hl; clear hl hA
    have HN := Lib.hid hn; clear hn
    have H1 := Lib.hid h1; clear h1
    have HR := Lib.hid hr; clear hr
    go_enter Try.func51, Try.ntmps51
    go_wp2_with (at_builtin; refine wpList_append_is rfl (.tmp 5) (.tmp 6) rfl elemInt rfl (made_empty w 3 1) (some ad) n c xs rfl (HR.out.alloc _) (by rw [HL.out]; omega) H1.out (by have := HN.out; unfold maxLen; omega) (by have := HN.out; omega) (by simp) (fun e => by cases e) ?_; intro v1 w1 hown1 hg1 hat1)
    go_ret
    refine ⟨v1, rfl, ?_, ?_⟩
    · have := hown1
      simpa using this
    · exact ((Below.refl _ _).alloc (Nat.le_refl _) _).grown hg1 (by simp) (fun k hk => by cases hk; exact Nat.le_refl _)

theorem cloneDeeds (A : Option Addr) (n c : Nat) (xs : List Value) (w : World) (hr : Row w A xs) (hl : xs.length = n * 8) (h1 : ∀ u ∈ xs, u.oneCell' = true) (hn : n ≤ 1000000) (hA : A = none → n = 0) :
    Calls Try.prog 28 #[.slice A n c] w fun r w' => ∃ v, r = .returned v ∧ w'.ownsRow w.heap.size 27 8 v n xs ∧ Below w.heap.size w w' := by
  have heq : ∀ W : World, (binOp .eql 23 (.slice A n c) (.slice none 0 0)).run Try.prog W = .ok (.bool A.isNone) W := fun W => Lib.run_eql_slice_nil W 23 27 A n c 0 0 (by kernel_rfl)
  cases A with
  | none =>
    obtain rfl := hA rfl
    have : xs = [] := List.eq_nil_of_length_eq_zero hl
    subst this
    clear hA hl hn h1 hr
    go_enter Try.func28, Try.ntmps28
    go_wp2
    go_ret
    exact ⟨_, rfl, World.ownsRow_nil _ _ _ _, Below.refl _ _⟩
  | some ad =>
    have HL := Lib.hid hl; clear hl hA
    have HN := Lib.hid hn; clear hn
    have H1 := Lib.hid h1; clear h1
    have HR := Lib.hid hr; clear hr
    go_enter Try.func28, Try.ntmps28
    go_wp2_with (at_builtin; refine wpList_append_is rfl (.tmp 5) (.tmp 6) rfl elemDeed rfl (made_empty w 27 8) (some ad) n c xs rfl (HR.out.alloc _) HL.out H1.out (by have := HN.out; unfold maxLen; omega) (by have := HN.out; omega) (by simp) (fun e => by cases e) ?_; intro v1 w1 hown1 hg1 hat1)
    go_ret
    refine ⟨v1, rfl, ?_, ?_⟩
    · have := hown1
      simpa using this
    · exact ((Below.refl _ _).alloc (Nat.le_refl _) _).grown hg1 (by simp) (fun k hk => by cases hk; exact Nat.le_refl _)
end Go.Proofs.Ytpnegacfanbcfaa
