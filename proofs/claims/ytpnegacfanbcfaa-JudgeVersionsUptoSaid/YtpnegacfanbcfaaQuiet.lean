/- A region that draws its order, reads, and calls what only lays blocks: one walk, in the order of the text. -/
import Derived.Test.YtpnegacfanbcfaaWords
namespace Go.Proofs.Ytpnegacfanbcfaa
open Go.RowKit

/-- a world that has come of w by growth alone. -/
structure BelowOf (w : World) where
  v : World
  h : Below w.heap.size w v

instance (w : World) : Inhabited (BelowOf w) := ⟨⟨w, Below.refl _ _⟩⟩

theorem wp_region_quiet_below {P : Program} {id : Nat} {Q : Exit → Act → World → Prop} {a : Act} {w : World} {l : List Oper} (hm : P.follows .mixedOrders = true) (hB : Region.lexB .any l.toArray = true)
    (h : wpQuiet P l.toArray (fun w' => ∃ p : BelowOf w, w' = p.v) (fun a' => ∀ w', (∃ p : BelowOf w, w' = p.v) → Q .normal a' w') l a) : (Code.region id l.toArray true).wp P Q a w :=
  wp_region_quiet (C := fun w' => ∃ p : BelowOf w, w' = p.v) hm hB ⟨⟨w.drew, (Below.refl _ _).drew⟩, rfl⟩ (by simpa using h)

theorem calls_below {P : Program} {f : FuncId} {args : Array Value} {w : World} (p : BelowOf w) {v : Value}
    (h : Calls P f args p.v fun e w' => e = .returned v ∧ Below p.v.heap.size p.v w') : Calls P f args p.v fun e w'' => e = .returned v ∧ ∃ q : BelowOf w, w'' = q.v :=
  h.mono fun _ w' ⟨he, hb⟩ => ⟨he, ⟨w', p.h.trans (hb.mono p.h.size)⟩, rfl⟩
theorem BelowOf.cell {w : World} (p : BelowOf w) {a : Addr} {v : Value} (h : w.cell? a = some v) : p.v.cell? a = some v := cell_below p.h a v h
theorem BelowOf.heap {w : World} (p : BelowOf w) {b : Nat} {o : Obj} (h : w.heap[b]? = some o) : p.v.heap[b]? = some o := (p.h.block b (Array.getElem?_eq_some_iff.1 h).1).trans h
theorem BelowOf.le {w : World} (p : BelowOf w) : w.heap.size ≤ p.v.heap.size := p.h.size
theorem BelowOf.le_alloc {w : World} (p : BelowOf w) (o : Obj) : w.heap.size ≤ (p.v.alloc o).heap.size := Nat.le_trans p.h.size (by simp)
theorem BelowOf.grown {w w2 : World} (p : BelowOf w) {v : Value} (hg : p.v.grownBy w2 v.ownBlock) (hv : ∀ k, v.ownBlock = some k → w.heap.size ≤ k) : ∃ q : BelowOf w, w2 = q.v := ⟨⟨w2, p.h.grown hg p.h.size hv⟩, rfl⟩
theorem BelowOf.grown_alloc {w w2 : World} (p : BelowOf w) (o : Obj) {v : Value} (hg : (p.v.alloc o).grownBy w2 v.ownBlock) (hv : ∀ k, v.ownBlock = some k → w.heap.size ≤ k) : ∃ q : BelowOf w, w2 = q.v := ⟨⟨w2, (p.h.alloc p.h.size o).grown hg (by have := p.h.size; simp; omega) hv⟩, rfl⟩
end Go.Proofs.Ytpnegacfanbcfaa
