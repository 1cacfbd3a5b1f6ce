/- Words for memory: whole blocks, what a step leaves alone. No condition. -/
import Derived.Test.YteeefedoffplmaaGreatRows
import Derived.WalkKit
import Derived.Lib.Hide
import Derived.WalkLawsBesides
import Derived.WalkSpells
import Derived.Deep.OwnRows
import Derived.Deep.Draws
import Derived.Deep.AppendLies
import Derived.Deep.QuietTactic
import Derived.BigQuiet
import Derived.Laws.OwnMore
import Derived.Laws.LoneSync
namespace Go.Proofs.YteeefedoffplmaaGreat
open Go.RowKit

/-- block b of w is these cells, whole. -/
def Blk (w : World) (b : Nat) (cs : List Value) (t : TypeId) : Prop := w.heap[b]? = some (.cells cs.toArray t (0, 0))
theorem Blk.lt {w : World} {b : Nat} {cs : List Value} {t : TypeId} (h : Blk w b cs t) : b < w.heap.size := (Array.getElem?_eq_some_iff.1 h).1
theorem Blk.cell {w : World} {b : Nat} {cs : List Value} {t : TypeId} (h : Blk w b cs t) {i : Nat} {v : Value} (hv : cs[i]? = some v) : w.cell? ⟨b, i, none⟩ = some v := by
  unfold Blk at h
  simp [World.cell?, h, hv]
theorem Blk.frozen {w : World} {b : Nat} {cs : List Value} {t : TypeId} (h : Blk w b cs t) (i : Nat) : w.frozen? ⟨b, i, none⟩ = false := by
  unfold Blk at h
  simp [World.frozen?, h]
theorem Blk.set {w : World} {b : Nat} {cs : List Value} {t : TypeId} (h : Blk w b cs t) (i : Nat) (v : Value) : Blk (w.setCell ⟨b, i, none⟩ v) b (cs.set i v) t := by
  unfold Blk at h ⊢
  have := heap_setCell_same w b i cs.toArray t v h
  simpa using this
theorem Blk.other {w : World} {b b' : Nat} {cs : List Value} {t : TypeId} (h : Blk w b cs t) (hne : b ≠ b') (i : Nat) (v : Value) : Blk (w.setCell ⟨b', i, none⟩ v) b cs t := by
  unfold Blk at h ⊢
  rw [heap_setCell_other _ _ _ _ hne]
  exact h

/-- w' is w but for new blocks and for the blocks of X. -/
structure Only (X : List Nat) (w w' : World) : Prop where
  os : w'.os = w.os
  tape : w'.tape = w.tape
  output : w'.output = w.output
  size : w.heap.size ≤ w'.heap.size
  block : ∀ k, k < w.heap.size → k ∉ X → w'.heap[k]? = w.heap[k]?
theorem Only.refl (X : List Nat) (w : World) : Only X w w := ⟨rfl, rfl, rfl, Nat.le_refl _, fun _ _ _ => rfl⟩
theorem Only.trans {X : List Nat} {a b c : World} (h : Only X a b) (k : Only X b c) : Only X a c :=
  ⟨k.os.trans h.os, k.tape.trans h.tape, k.output.trans h.output, Nat.le_trans h.size k.size, fun i hi hx => (k.block i (Nat.lt_of_lt_of_le hi h.size) hx).trans (h.block i hi hx)⟩
theorem Only.mono {X Y : List Nat} {a b : World} (h : Only X a b) (hx : ∀ k, k ∈ X → k ∈ Y) : Only Y a b := ⟨h.os, h.tape, h.output, h.size, fun i hi hy => h.block i hi fun e => hy (hx i e)⟩
/-- new blocks do not matter. -/
theorem Only.fresh {X Y : List Nat} {a b : World} (h : Only X a b) (hx : ∀ k, k ∈ X → k < a.heap.size → k ∈ Y) : Only Y a b := ⟨h.os, h.tape, h.output, h.size, fun i hi hy => h.block i hi fun e => hy (hx i e hi)⟩
theorem Only.drew (X : List Nat) (w : World) : Only X w w.drew := ⟨rfl, rfl, rfl, Nat.le_refl _, fun _ _ _ => rfl⟩
theorem Only.drewN {X : List Nat} {a w : World} (h : Only X a w) (n : Nat) : Only X a (w.drewN n) := ⟨h.os, h.tape, h.output, h.size, h.block⟩
theorem Only.drew' {X : List Nat} {a w : World} (h : Only X a w) : Only X a w.drew := ⟨h.os, h.tape, h.output, h.size, h.block⟩
theorem Only.alloc {X : List Nat} {a w : World} (h : Only X a w) (o : Obj) : Only X a (w.alloc o) := by
  have hb := (Below.refl w.heap.size w).alloc (Nat.le_refl _) o
  exact h.trans ⟨hb.os, hb.tape, hb.output, hb.size, fun k hk _ => hb.block k hk⟩
theorem Only.setCell {X : List Nat} {a w : World} (h : Only X a w) {p : Addr} (hp : p.block ∈ X ∨ a.heap.size ≤ p.block) (v : Value) : Only X a (w.setCell p v) := by
  refine ⟨h.os, h.tape, h.output, by simpa using h.size, fun k hk hx => ?_⟩
  rw [heap_setCell_other _ _ _ _ (fun e => by
    subst e
    rcases hp with hp | hp
    · exact hx hp
    · omega)]
  exact h.block k hk hx
theorem Only.of_below {X : List Nat} {a b : World} (h : Below a.heap.size a b) : Only X a b := ⟨h.os, h.tape, h.output, h.size, fun k hk _ => h.block k hk⟩
theorem Only.below {a b : World} (h : Only [] a b) : Below a.heap.size a b := ⟨h.os, h.tape, h.output, h.size, fun k hk => h.block k hk (by simp)⟩
theorem Only.of_grown {X : List Nat} {a b : World} {row : Option Nat} (h : a.grownBy b row) (hx : ∀ k, row = some k → k ∈ X ∨ a.heap.size ≤ k) : Only X a b :=
  ⟨h.os, h.tape, h.output, h.size, fun k hk hn => h.block k hk fun e => by
    rcases hx k e.symm with h1 | h1
    · exact hn h1
    · omega⟩
theorem Blk.only {X : List Nat} {w w' : World} {b : Nat} {cs : List Value} {t : TypeId} (h : Blk w b cs t) (ho : Only X w w') (hb : b ∉ X) : Blk w' b cs t := (ho.block b h.lt hb).trans h
theorem Blk.alloc {w : World} {b : Nat} {cs : List Value} {t : TypeId} (h : Blk w b cs t) (o : Obj) : Blk (w.alloc o) b cs t := h.only (X := []) ((Only.refl _ _).alloc o) (by simp)
theorem Blk.new (w : World) (cs : List Value) (t : TypeId) : Blk (w.alloc (.cells cs.toArray t)) w.heap.size cs t := heap_alloc_new w _
theorem Blk.drew {w : World} {b : Nat} {cs : List Value} {t : TypeId} (h : Blk w b cs t) : Blk w.drew b cs t := h
theorem Blk.drewN {w : World} {b : Nat} {cs : List Value} {t : TypeId} (h : Blk w b cs t) (n : Nat) : Blk (w.drewN n) b cs t := h

theorem ret_bool {a b : Bool} (h : a = b) : Ending.returned (.bool a) = .returned (.bool b) := by rw [h]
theorem ret_int {k : IntKind} {a b : Int} (h : a = b) : Ending.returned (.int k a) = .returned (.int k b) := by rw [h]
theorem ret_int2 {k l : IntKind} {a b : Int} {x y : Int} (h : a = b) (h' : x = y) : Ending.returned (.tuple #[.int k a, .int l x]) = .returned (.tuple #[.int k b, .int l y]) := by rw [h, h']
theorem addr_add (b off j : Nat) : (⟨b, off, none⟩ : Addr).add j = ⟨b, off + j, none⟩ := by unfold Addr.add; split <;> simp_all

/-- a number that an int64 holds. -/
def In64 (x : Int) : Prop := -9223372036854775808 ≤ x ∧ x ≤ 9223372036854775807
end Go.Proofs.YteeefedoffplmaaGreat

/- The words of sync/atomic's Int64, and a nil worker's Step and Number. Conditions: the cell holds an int64 and is not frozen. -/
namespace Go.Proofs.YteeefedoffplmaaGreat
open Go.RowKit

/-- sync/atomic.SwapT: the number is stored, the old one handed back. -/
theorem run_call_swap {P : Program} {f : FuncId} {fn : Func} (hf : P.funcs[f]? = some fn) (hname : (fn.name == "runtime.NumGoroutine") = false) (hb : fn.body.isNone = true) (hn : Extern.findNext fn = none) (k : IntKind)
    (he : Extern.find fn = some (Extern.Atomic.swapT (.int k))) {a : Addr} {x y : Int} {w : World} (hc : w.cell? a = some (.int k x)) (hz : w.frozen? a = false) :
    (callFunc f #[.pointer (some a), .int k y]).run P w = .ok (.value (.int k x)) (w.setCell a (.int k y)) := by
  rw [run_callFunc_extern hf hname hb hn he]
  change (Sem.run P (do
    let a' ← asAddr (.pointer (some a))
    let old ← Extern.Atomic.read (.int k) a'
    store a' (.int k y) .atomic
    pure old) w).andThen _ = _
  simp [Extern.Atomic.read, asAddr, hc, hz, run_store P w a (.int k y) .atomic rfl, Result.andThen]

section
variable (b i : Nat) (x : Int) (w : World)
theorem atomLoad (hc : w.cell? ⟨b, i, none⟩ = some (.int .i64 x)) :
    Calls Tryz.prog 51 #[.pointer (some ⟨b, i, none⟩)] w fun e w' => e = .returned (.int .i64 x) ∧ w = w' := by
  have hl := run_call_load (P := Tryz.prog) Tryz.func113 (by kernel_rfl) (by kernel_rfl) (by kernel_rfl) .i64 (by kernel_rfl) hc
  go_enter Tryz.func51, Tryz.ntmps51
  go_wp2
  go_ret
  exact ⟨rfl, rfl⟩
theorem atomStore (y : Int) (hc : w.cell? ⟨b, i, none⟩ = some (.int .i64 x)) (hf : w.frozen? ⟨b, i, none⟩ = false) :
    Calls Tryz.prog 100 #[.pointer (some ⟨b, i, none⟩), .int .i64 y] w fun e w' => e = .returned (.tuple #[]) ∧ w.setCell ⟨b, i, none⟩ (.int .i64 y) = w' := by
  have hl := run_call_store (P := Tryz.prog) Tryz.func169 (by kernel_rfl) (by kernel_rfl) (by kernel_rfl) (by kernel_rfl) (k := .i64) (y := y) hc hf
  go_enter Tryz.func100, Tryz.ntmps100
  go_wp2
  go_end0
  exact ⟨rfl, rfl⟩
theorem atomCas (y : Int) (hc : w.cell? ⟨b, i, none⟩ = some (.int .i64 x)) (hf : w.frozen? ⟨b, i, none⟩ = false) :
    Calls Tryz.prog 135 #[.pointer (some ⟨b, i, none⟩), .int .i64 x, .int .i64 y] w fun e w' => e = .returned (.bool true) ∧ w.setCell ⟨b, i, none⟩ (.int .i64 y) = w' := by
  have hl := run_call_cas_hit (P := Tryz.prog) Tryz.func190 (by kernel_rfl) (by kernel_rfl) (by kernel_rfl) .i64 (by kernel_rfl) (y := y) hc hf
  go_enter Tryz.func135, Tryz.ntmps135
  go_wp2
  go_ret
  exact ⟨rfl, rfl⟩
theorem atomCasMiss (o y : Int) (hne : ¬ x = o) (hc : w.cell? ⟨b, i, none⟩ = some (.int .i64 x)) (hf : w.frozen? ⟨b, i, none⟩ = false) :
    Calls Tryz.prog 135 #[.pointer (some ⟨b, i, none⟩), .int .i64 o, .int .i64 y] w fun e w' => e = .returned (.bool false) ∧ w = w' := by
  have hl := run_call_cas_miss (P := Tryz.prog) Tryz.func190 (by kernel_rfl) (by kernel_rfl) (by kernel_rfl) .i64 (by kernel_rfl) (o := o) (y := y) hc hf hne
  go_enter Tryz.func135, Tryz.ntmps135
  go_wp2
  go_ret
  exact ⟨rfl, rfl⟩
theorem atomAdd (y : Int) (hc : w.cell? ⟨b, i, none⟩ = some (.int .i64 x)) (hf : w.frozen? ⟨b, i, none⟩ = false) :
    Calls Tryz.prog 227 #[.pointer (some ⟨b, i, none⟩), .int .i64 y] w fun e w' => e = .returned (.int .i64 (wrap64 (x + y))) ∧ w.setCell ⟨b, i, none⟩ (.int .i64 (wrap64 (x + y))) = w' := by
  have hl := run_call_add (P := Tryz.prog) Tryz.func242 (by kernel_rfl) (by kernel_rfl) (by kernel_rfl) .i64 (by kernel_rfl) (y := y) (s := wrap64 (x + y)) hc hf (by rw [← IntWalk.i64_left]; rfl)
  go_enter Tryz.func227, Tryz.ntmps227
  go_wp2
  go_ret
  exact ⟨rfl, rfl⟩
theorem atomSwap (y : Int) (hc : w.cell? ⟨b, i, none⟩ = some (.int .i64 x)) (hf : w.frozen? ⟨b, i, none⟩ = false) :
    Calls Tryz.prog 163 #[.pointer (some ⟨b, i, none⟩), .int .i64 y] w fun e w' => e = .returned (.int .i64 x) ∧ w.setCell ⟨b, i, none⟩ (.int .i64 y) = w' := by
  have hl := run_call_swap (P := Tryz.prog) Tryz.func204 (by kernel_rfl) (by kernel_rfl) (by kernel_rfl) .i64 (by kernel_rfl) (y := y) hc hf
  go_enter Tryz.func163, Tryz.ntmps163
  go_wp2
  go_ret
  exact ⟨rfl, rfl⟩
theorem step_nil : Calls Tryz.prog 71 #[.pointer none] w fun e w' => e = .returned (.tuple #[]) ∧ w = w' := by
  go_enter Tryz.func71, Tryz.ntmps71
  go_wp2
  exact bodyPost_ret (v := .tuple #[]) (by simp [results, Tryz.results71, go_sem]) rfl ⟨rfl, rfl⟩
theorem number_nil : Calls Tryz.prog 157 #[.pointer none] w fun e w' => e = .returned (.int .i64 0) ∧ w = w' := by
  go_enter Tryz.func157, Tryz.ntmps157
  go_wp2
  go_ret
  exact ⟨rfl, rfl⟩
end
end Go.Proofs.YteeefedoffplmaaGreat
