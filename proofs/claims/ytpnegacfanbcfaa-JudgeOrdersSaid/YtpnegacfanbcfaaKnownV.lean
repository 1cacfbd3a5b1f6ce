/- The chapter's examples: what Order and Versions answer of them, in plain Lean. -/
import Derived.Test.YtpnegacfanbcfaaVersQ
namespace Go.Proofs.Ytpnegacfanbcfaa
open Go.RowKit Go.Maps

def kStore : Deed := ⟨1, 4, 2, 0, 1, 0, 0, false⟩
def kA : List Deed := [kStore, ⟨2, 3, 1, 0, 0, 0, 0, false⟩]
def kB : List Deed := [kStore, ⟨2, 2, 1, 0, 0, 0, 1, false⟩, ⟨3, 3, 1, 0, 0, 0, 0, false⟩]
def kC : List Deed := [⟨1, 1, 3, 0, 2, 0, 2, false⟩, ⟨2, 0, 3, 0, 5, 0, 0, false⟩, ⟨3, 3, 1, 0, 0, 0, 2, false⟩]
theorem kA_err : orderErr [0] kA = 0 := by decide
theorem kB_err : orderErr [0] kB = 0 := by decide
theorem kC_err : orderErr [0] kC = 0 := by decide
theorem kA_ans : orderAns [0] kA = some [1, 0] := by decide
theorem kB_ans : orderAns [0] kB = none := by decide
theorem kC_ans : orderAns [0] kC = some [0, 2] := by kernel_rfl
theorem deedFit : ∀ l ∈ [kA, kB, kC], ∀ d ∈ l, d.Ok := by
  intro l hl d hd
  simp only [List.mem_cons, List.not_mem_nil, or_false] at hl
  rcases hl with rfl | rfl | rfl <;> simp only [kA, kB, kC, kStore, List.mem_cons, List.not_mem_nil, or_false] at hd <;> rcases hd with rfl | rfl | rfl <;> constructor <;> constructor <;> decide

def kW : Ev := ⟨0, 1, 4, 2, 0, 5, 2, true, 50, true, 51, none, 0, [], none, 0, []⟩
def kR (b e n : Int) : Ev := ⟨0, b, e, 1, 0, 5, n, true, 50, false, 0, none, 0, [], none, 0, []⟩
def kS : List (List (Int × Int)) := [[(5, 50)]]
theorem sort_one (l : List Blm) (x : Blm) (h : l = [x]) : sortB l = [x] := by rw [h]; simp [sortB]
theorem kX : versionsL kS [kW, kR 2 3 1] = [] := by
  have : allU [kW, kR 2 3 1] kS 2 = [] := by decide
  unfold versionsL
  exact (congrArg sortB this).trans sortB_nil
theorem kY : versionsL kS [kW, kR 5 6 1] = [⟨1, 0, 5⟩] := sort_one _ _ (by decide)
theorem kZ : versionsL kS [kW, kR 5 6 2] = [⟨1, -1, 4⟩] := sort_one _ _ (by decide)
theorem kU : versionsL kS [kW, kR 5 6 3] = [⟨1, -1, 3⟩] := sort_one _ _ (by decide)
end Go.Proofs.Ytpnegacfanbcfaa
