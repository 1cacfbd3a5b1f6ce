/- sync/atomic's Pointer.Store at a board's table; board.New of no pairs. Conditions: the cells are there and are not frozen. -/
import Derived.Test.YteeefedoffplmaaGreatSlot
namespace Go.Proofs.YteeefedoffplmaaGreat
open Go.RowKit

theorem run_call_storeP {P : Program} {f : FuncId} {fn : Func} (hf : P.funcs[f]? = some fn) (hname : (fn.name == "runtime.NumGoroutine") = false) (hb : fn.body.isNone = true) (hn : Extern.findNext fn = none)
    (he : Extern.find fn = some Extern.Atomic.storeT) {a : Addr} {p : Option Addr} {u : Value} {w : World} (hc : w.cell? a = some u) (hz : w.frozen? a = false) :
    (callFunc f #[.pointer (some a), .pointer p]).run P w = .ok (.value (.tuple #[])) (w.setCell a (.pointer p)) := by
  rw [run_callFunc_extern hf hname hb hn he]
  change (Sem.run P (do
    store (← asAddr (.pointer (some a))) (.pointer p) .atomic
    pure Extern.Atomic.none_) w).andThen _ = _
  simp [Extern.Atomic.none_, asAddr, hc, hz, run_store P w a (.pointer p) .atomic rfl, Result.andThen]
set_option maxRecDepth 100000 in
theorem storeP_any (b i : Nat) (p : Addr) (u z : Value) (w : World) (hc : w.cell? ⟨b, i, none⟩ = some u) (hf : w.frozen? ⟨b, i, none⟩ = false) (hp : w.cell? p = some z) :
    Calls Tryz.prog 103 #[.pointer (some ⟨b, i, none⟩), .pointer (some p)] w fun e w' => e = .returned (.tuple #[]) ∧ w.setCell ⟨b, i, none⟩ (.pointer (some p)) = w' := by
  have hl := run_call_storeP (P := Tryz.prog) Tryz.func171 (by kernel_rfl) (by kernel_rfl) (by kernel_rfl) (by kernel_rfl) (p := some p) hc hf
  have hcv : (convert 168 173 (.pointer (some p))).run Tryz.prog w = .ok (.pointer (some p)) w := run_convert_to_unsafe (t := 170) (by kernel_rfl) (by kernel_rfl) (by kernel_rfl) hp
  go_enter Tryz.func103, Tryz.ntmps103
  go_wp2
  go_end0
  exact ⟨rfl, rfl⟩
set_option maxRecDepth 100000 in
theorem boardNew_any (w : World) :
    Calls Tryz.prog 41 #[.slice none 0 0] w fun e w' => ∃ b t, e = .returned (.tuple #[ptr b, .int .i64 0]) ∧ w.heap.size ≤ t ∧ w.heap.size ≤ b ∧ b ≠ t ∧ Blk w' t [.slice none 0 0] 170 ∧ Blk w' b [ptr t] 177 ∧ Only [] w w' := by
  have h0 : (w.alloc (.cells #[.slice none 0 0] 170)).cell? ⟨w.heap.size, 0, none⟩ = some (.slice none 0 0) := (Blk.new w [.slice none 0 0] 170).cell rfl
  have h1 : ((w.alloc (.cells #[.slice none 0 0] 170)).alloc (.cells #[.pointer none] 177)).cell? ⟨w.heap.size, 0, none⟩ = some (.slice none 0 0) := ((Blk.new w [.slice none 0 0] 170).alloc _).cell rfl
  have hb : Blk ((w.alloc (.cells #[.slice none 0 0] 170)).alloc (.cells #[.pointer none] 177)) (w.heap.size + 1) [.pointer none] 177 := by
    have := Blk.new (w.alloc (.cells #[.slice none 0 0] 170)) [.pointer none] 177
    rw [World.size_alloc] at this
    exact this
  have hst := storeP_any (w.heap.size + 1) 0 ⟨w.heap.size, 0, none⟩ _ _ _ (hb.cell rfl) (hb.frozen 0) h1
  have HB := Lib.hid hb
  unfold ptr
  clear hb
  go_enter Tryz.func41, Tryz.ntmps41
  go_wp2_with fail
  refine wp_loop_rounds 1 ?_
  rw [rounds_succ]
  go_wp2_with fail
  refine wp_loop_rounds 1 ?_
  rw [rounds_succ]
  go_wp2_with (go_at_call 103; refine hst.mono ?_; rintro e w' ⟨rfl, rfl⟩)
  go_ret2
  have hb2 := Blk.new (w.alloc (.cells #[.slice none 0 0] 170)) [.pointer (some ⟨w.heap.size, 0, none⟩)] 177
  rw [World.size_alloc] at hb2
  exact ⟨_, _, rfl, Nat.le_refl _, by omega, by omega, (Blk.new w [.slice none 0 0] 170).alloc _, hb2, ((Only.refl _ _).alloc _).alloc _⟩
end Go.Proofs.YteeefedoffplmaaGreat
