/- Does an event publish a version: the contract with the answer a literal. -/
import Derived.Test.YtpnegacfanbcfaaHist
import Derived.Test.YtpnegacfanbcfaaQuiet
namespace Go.Proofs.Ytpnegacfanbcfaa
open Go.RowKit Go.Maps
theorem judgeWrites_is (e : Ev) (v : Bool) (hv : writesB e = v) (w : World) : Calls Try.prog 39 #[e.val] w fun r w' => r = .returned (.bool v) ∧ Below w.heap.size w w' := by
  rw [← hv]
  exact judgeWrites e w
theorem judgeWritesV (e : Ev) (w : World) : Calls Try.prog 39 #[.agg e.arr] w fun r w' => r = .returned (.bool (writesB e)) ∧ Below w.heap.size w w' := judgeWrites e w

/-- what lies between the two tests of a pair of one part. -/
def NNRel (l : List Ev) (B H : Nat) (lA : Option Addr) (lc : Nat) (rv tv bv : Value) (outs : List Blm) (a b : Ev) (p6 p7 : Nat) (w wc : World) : Prop :=
  (∃ ov, HSt l B H lA lc rv tv bv ov outs wc) ∧ Keeps B H w wc ∧ wc.heap[p6]? = some (.cells a.arr 52 (0, 0)) ∧ wc.heap[p7]? = some (.cells b.arr 52 (0, 0))
theorem Keeps.ev {B H k : Nat} {w w' : World} {arr : Array Value} {x : Array Value} (h : Keeps B H w w') (hk : w.heap[k]? = some (.cells arr 52 (0, 0))) (hH : w.heap[H]? = some (.cells x 98 (0, 0))) : w'.heap[k]? = some (.cells arr 52 (0, 0)) := by
  rw [h.k k (Array.getElem?_eq_some_iff.1 hk).1 (fun e => by subst e; rw [hk] at hH; cases hH) (fun cs hc => by rw [hk] at hc; cases hc)]
  exact hk
theorem nn_of_keeps {l : List Ev} {B H : Nat} {lA : Option Addr} {lc : Nat} {rv tv bv ov : Value} {outs outs' : List Blm} {a b : Ev} {p6 p7 : Nat} {w w0 wc : World} (hs : ∃ ov, HSt l B H lA lc rv tv bv ov outs' wc) (h0 : Keeps B H w w0) (hk : Keeps B H w0 wc)
    (h6 : w0.heap[p6]? = some (.cells a.arr 52 (0, 0))) (h7 : w0.heap[p7]? = some (.cells b.arr 52 (0, 0))) (hst : HSt l B H lA lc rv tv bv ov outs w0) : NNRel l B H lA lc rv tv bv outs' a b p6 p7 w wc :=
  ⟨hs, h0.trans hk, hk.ev h6 hst.x, hk.ev h7 hst.x⟩
theorem len_ite1 {α : Type} (b : Bool) (x : α) : (if b = true then [x] else []).length ≤ 1 := by cases b <;> simp
end Go.Proofs.Ytpnegacfanbcfaa
