/- (*history).beside: what its walks carry. -/
import Derived.Test.YtpnegacfanbcfaaHist
import Derived.Deep.DeepCutAuto
import Derived.RegionTactic
import Derived.BigRegion
import Derived.ChangeAlike
import Derived.Test.YtpnegacfanbcfaaQuiet
namespace Go.Proofs.Ytpnegacfanbcfaa
open Go.RowKit Go.Maps

def besideL (i k : Int) (a b : Ev) : List Blm :=
  if a.kind = 4 then
    if b.kind = 4 then (if (decide (k < i) && ((belowB a b && belowB b a) || (aheadB b.end_ a.begin_ && belowB a b) || (aheadB a.end_ b.begin_ && belowB b a))) = true then [⟨i, k, 7⟩] else [])
    else (if (aheadB b.end_ a.begin_ && decide (a.nums.getD b.part.toNat 0 < b.number)) = true then [⟨i, k, 6⟩] else [])
  else if b.kind = 4 then (if (aheadB b.end_ a.begin_ && writesB a && decide (a.number ≤ b.nums.getD a.part.toNat 0)) = true then [⟨i, k, 6⟩] else [])
  else if a.part = b.part then (if (decide (k < i) && writesB a && writesB b && decide (a.number = b.number)) = true then [⟨i, k, 2⟩] else []) ++ (if (aheadB b.end_ a.begin_ && (decide (a.number < b.number) || (decide (a.number = b.number) && writesB a))) = true then [⟨i, k, 5⟩] else [])
  else []

theorem Ev.cells_length (e : Ev) : e.cells.length = 13 := rfl
/-- an event out of the history's list. -/
theorem load_ev {w : World} {A : Option Addr} {l : List Ev} (h : Row w A (evCells l)) {k : Nat} {e : Ev} (hx : l[k]? = some e) :
    ∃ b off, A = some ⟨b, off, none⟩ ∧ (loadCellsFrom ⟨b, off + k * 13, none⟩ 0 13 #[]).run Try.prog w = .ok e.arr w := load_elem Ev.cells 13 Ev.cells_length (by decide) h hx
theorem Row.ev_at {w : World} {A : Option Addr} {l : List Ev} (h : Row w A (evCells l)) {k : Nat} {e : Ev} (hx : l[k]? = some e) (b off : Nat) (hA : A = some ⟨b, off, none⟩) : (loadCellsFrom ⟨b, off + k * 13, none⟩ 0 13 #[]).run Try.prog w = .ok e.arr w := by
  obtain ⟨b', off', h1, h2⟩ := load_ev h hx
  rw [hA] at h1
  simp only [Option.some.injEq, Addr.mk.injEq, and_true] at h1
  obtain ⟨rfl, rfl⟩ := h1
  exact h2

/-- both events lie in blocks of the call's own. -/
def TwoRel (a b : Ev) (w : World) (p q : Value) (wr : World) : Prop :=
  ∃ p6 p7, p = .pointer (some ⟨p6, 0, none⟩) ∧ q = .pointer (some ⟨p7, 0, none⟩) ∧ wr.heap[p6]? = some (.cells a.arr 52 (0, 0)) ∧ wr.heap[p7]? = some (.cells b.arr 52 (0, 0)) ∧ Below w.heap.size w wr

def BesidePost (l : List Ev) (B H : Nat) (lA : Option Addr) (lc : Nat) (rv tv bv : Value) (outs : List Blm) (w : World) (e : Ending) (w' : World) : Prop :=
  e = .returned (.tuple #[]) ∧ Keeps B H w w' ∧ ∃ ov, HSt l B H lA lc rv tv bv ov outs w'

end Go.Proofs.Ytpnegacfanbcfaa

/- Does an event publish a version: the contract with the answer a literal. -/
namespace Go.Proofs.Ytpnegacfanbcfaa
open Go.RowKit Go.Maps
theorem judgeWrites_is (e : Ev) (v : Bool) (hv : writesB e = v) (w : World) : Calls Try.prog 39 #[e.val] w fun r w' => r = .returned (.bool v) ∧ Below w.heap.size w w' := by
  rw [← hv]
  exact judgeWrites e w
theorem judgeWritesV (e : Ev) (w : World) : Calls Try.prog 39 #[.agg e.arr] w fun r w' => r = .returned (.bool (writesB e)) ∧ Below w.heap.size w w' := judgeWrites e w

/-- what lies between the two tests of a pair of one part. -/
def NNRel (l : List Ev) (B H : Nat) (lA : Option Addr) (lc : Nat) (rv tv bv : Value) (outs : List Blm) (a b : Ev) (p6 p7 : Nat) (w wc : World) : Prop :=
  (∃ ov, HSt l B H lA lc rv tv bv ov outs wc) ∧ Keeps B H w wc ∧ wc.heap[p6]? = some (.cells a.arr 52 (0, 0)) ∧ wc.heap[p7]? = some (.cells b.arr 52 (0, 0))
theorem Keeps.ev {B H k : Nat} {w w' : World} {arr : Array Value} {x : Array Value} (h : Keeps B H w w') (hk : w.heap[k]? = some (.cells arr 52 (0, 0))) (hH : w.heap[H]? = some (.cells x 98 (0, 0))) : w'.heap[k]? = some (.cells arr 52 (0, 0)) := by
  rw [h.k k (Array.getElem?_eq_some_iff.1 hk).1 (fun e => by subst e; rw [hk] at hH; cases hH) (fun cs hc => by rw [hk] at hc; cases hc)]
  exact hk
theorem nn_of_keeps {l : List Ev} {B H : Nat} {lA : Option Addr} {lc : Nat} {rv tv bv ov : Value} {outs outs' : List Blm} {a b : Ev} {p6 p7 : Nat} {w w0 wc : World} (hs : ∃ ov, HSt l B H lA lc rv tv bv ov outs' wc) (h0 : Keeps B H w w0) (hk : Keeps B H w0 wc)
    (h6 : w0.heap[p6]? = some (.cells a.arr 52 (0, 0))) (h7 : w0.heap[p7]? = some (.cells b.arr 52 (0, 0))) (hst : HSt l B H lA lc rv tv bv ov outs w0) : NNRel l B H lA lc rv tv bv outs' a b p6 p7 w wc :=
  ⟨hs, h0.trans hk, hk.ev h6 hst.x, hk.ev h7 hst.x⟩
theorem len_ite1 {α : Type} (b : Bool) (x : α) : (if b = true then [x] else []).length ≤ 1 := by cases b <;> simp
end Go.Proofs.Ytpnegacfanbcfaa
