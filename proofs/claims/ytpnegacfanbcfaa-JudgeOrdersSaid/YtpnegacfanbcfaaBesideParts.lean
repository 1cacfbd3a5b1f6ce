/- (*history).beside: what its walks carry. -/
import Derived.Test.YtpnegacfanbcfaaHist
import Derived.Deep.DeepCutAuto
import Derived.RegionTactic
import Derived.BigRegion
import Derived.ChangeAlike
namespace Go.Proofs.Ytpnegacfanbcfaa
open Go.RowKit Go.Maps

def besideL (i k : Int) (a b : Ev) : List Blm :=
  if a.kind = 4 then
    if b.kind = 4 then (if (decide (k < i) && ((belowB a b && belowB b a) || (aheadB b.end_ a.begin_ && belowB a b) || (aheadB a.end_ b.begin_ && belowB b a))) = true then [⟨i, k, 7⟩] else [])
    else (if (aheadB b.end_ a.begin_ && decide (a.nums.getD b.part.toNat 0 < b.number)) = true then [⟨i, k, 6⟩] else [])
  else if b.kind = 4 then (if (aheadB b.end_ a.begin_ && writesB a && decide (a.number ≤ b.nums.getD a.part.toNat 0)) = true then [⟨i, k, 6⟩] else [])
  else if a.part = b.part then (if (decide (k < i) && writesB a && writesB b && decide (a.number = b.number)) = true then [⟨i, k, 2⟩] else []) ++ (if (aheadB b.end_ a.begin_ && (decide (a.number < b.number) || (decide (a.number = b.number) && writesB a))) = true then [⟨i, k, 5⟩] else [])
  else []

theorem Ev.cells_length (e : Ev) : e.cells.length = 13 := rfl
/-- an event out of the history's list. -/
theorem load_ev {w : World} {A : Option Addr} {l : List Ev} (h : Row w A (evCells l)) {k : Nat} {e : Ev} (hx : l[k]? = some e) :
    ∃ b off, A = some ⟨b, off, none⟩ ∧ (loadCellsFrom ⟨b, off + k * 13, none⟩ 0 13 #[]).run Try.prog w = .ok e.arr w := load_elem Ev.cells 13 Ev.cells_length (by decide) h hx
theorem Row.ev_at {w : World} {A : Option Addr} {l : List Ev} (h : Row w A (evCells l)) {k : Nat} {e : Ev} (hx : l[k]? = some e) (b off : Nat) (hA : A = some ⟨b, off, none⟩) : (loadCellsFrom ⟨b, off + k * 13, none⟩ 0 13 #[]).run Try.prog w = .ok e.arr w := by
  obtain ⟨b', off', h1, h2⟩ := load_ev h hx
  rw [hA] at h1
  simp only [Option.some.injEq, Addr.mk.injEq, and_true] at h1
  obtain ⟨rfl, rfl⟩ := h1
  exact h2

/-- both events lie in blocks of the call's own. -/
def TwoRel (a b : Ev) (w : World) (p q : Value) (wr : World) : Prop :=
  ∃ p6 p7, p = .pointer (some ⟨p6, 0, none⟩) ∧ q = .pointer (some ⟨p7, 0, none⟩) ∧ wr.heap[p6]? = some (.cells a.arr 52 (0, 0)) ∧ wr.heap[p7]? = some (.cells b.arr 52 (0, 0)) ∧ Below w.heap.size w wr

def BesidePost (l : List Ev) (B H : Nat) (lA : Option Addr) (lc : Nat) (rv tv bv : Value) (outs : List Blm) (w : World) (e : Ending) (w' : World) : Prop :=
  e = .returned (.tuple #[]) ∧ Keeps B H w w' ∧ ∃ ov, HSt l B H lA lc rv tv bv ov outs w'

end Go.Proofs.Ytpnegacfanbcfaa
