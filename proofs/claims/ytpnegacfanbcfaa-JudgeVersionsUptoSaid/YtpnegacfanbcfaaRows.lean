/-
  No cell of these rows narrows 'for every input' (looked for: loops, veiled, ifaces, maps, wideKeys, modest, calm, conditions, laid).
  DERIVED. THE GIVEN ROWS OF THIS SEAT. 4 by the template 'for every input the law returns true; each argument reads behind the call as it read before'; 0 by the template 'total and deterministic' (their statements: YtpnegacfanbcfaaTotals.lean).
  GIVEN WITH THE SEED: the statements are not yours to turn. If you find one false, say at which input.
  Laid BY PROGRAM, IN A SANDBOX (cutbox-rows.mjs): the forced cells as the released guide's own fill.sh prints them over the translation 20b1386c258c6226… (all of the seat's roots in one cut). By AI agents, Wed Nov 11 2026. No macro, syntax, notation, axiom, sorry.
-/
import Derived.Test.YtpnegacfanbcfaaChecked
import GoSem.Claim
import GoSem.ClaimJoined
import GoSem.ClaimMapViews
import Derived.JoinedTies
import Derived.KernelRfl
namespace Go.Proofs.Ytpnegacfanbcfaa
/- THE CELL 'sum', in the pinned program and in every row, IS THE sha256 OF THE DUMP (.gsa) THAT YtpnegacfanbcfaaProg.lean LOADS. Nothing in Lean hashes anything: it is a label: what it is worth is what the hold of that sum in a sandbox is worth. -/
noncomputable def Try.pinned : Pinned := { name := "ytpnegacfanbcfaa", sum := "20b1386c258c6226bc010626ea9950959ef439901de7786872e22cd443125e7d", checked := Try.checked }
namespace Rows
def none {H : Type} : Left H := { results := [], args := [] }

/-- 'skeinlaw20.JudgeOrders': WHATEVER THE INPUT: true; the input reads as it did. -/
def judgeOrdersSpec : ChangeSpec := { name := "judgeOrders", fn := fun _ => fun
  | [d1, d2] => { results := [.lit (.bool true)], args := [d1, d2] }
  | _ => none }
def judgeOrdersRow : OpenClaim := { program := "ytpnegacfanbcfaa", sum := "20b1386c258c6226bc010626ea9950959ef439901de7786872e22cd443125e7d", func := "skein/skeinlaw20.JudgeOrders", spec := "judgeOrders", inPlace := ["maps.clone"], unfollowed := true, recurses := true, plainKeys := false, apart := false }
def JudgeOrdersSaid : Prop := judgeOrdersRow.holds Try.pinned (OpenSpec.ofChange judgeOrdersSpec)

/-- ITS FALSE NEIGHBOUR: 'it returns false'. Refute it at one input. -/
def judgeOrdersWrong : ChangeSpec := { name := "judgeOrders", fn := fun _ => fun
  | [d1, d2] => { results := [.lit (.bool false)], args := [d1, d2] }
  | _ => none }
def JudgeOrdersWrongFalsely : Prop := judgeOrdersRow.holds Try.pinned (OpenSpec.ofChange judgeOrdersWrong)

/-- 'skeinlaw20.JudgeFits': WHATEVER THE INPUT: true; the input reads as it did. -/
def judgeFitsSpec : ChangeSpec := { name := "judgeFits", fn := fun _ => fun
  | [d1, d2] => { results := [.lit (.bool true)], args := [d1, d2] }
  | _ => none }
def judgeFitsRow : OpenClaim := { program := "ytpnegacfanbcfaa", sum := "20b1386c258c6226bc010626ea9950959ef439901de7786872e22cd443125e7d", func := "skein/skeinlaw20.JudgeFits", spec := "judgeFits", inPlace := ["maps.clone"], unfollowed := true, recurses := true, plainKeys := false, apart := false }
def JudgeFitsSaid : Prop := judgeFitsRow.holds Try.pinned (OpenSpec.ofChange judgeFitsSpec)

/-- ITS FALSE NEIGHBOUR: 'it returns false'. Refute it at one input. -/
def judgeFitsWrong : ChangeSpec := { name := "judgeFits", fn := fun _ => fun
  | [d1, d2] => { results := [.lit (.bool false)], args := [d1, d2] }
  | _ => none }
def JudgeFitsWrongFalsely : Prop := judgeFitsRow.holds Try.pinned (OpenSpec.ofChange judgeFitsWrong)

/-- 'skeinlaw20.JudgeVersions': WHATEVER THE INPUT: true; the input reads as it did. -/
def judgeVersionsSpec : ChangeSpec := { name := "judgeVersions", fn := fun _ => fun
  | [d1, d2] => { results := [.lit (.bool true)], args := [d1, d2] }
  | _ => none }
def judgeVersionsRow : OpenClaim := { program := "ytpnegacfanbcfaa", sum := "20b1386c258c6226bc010626ea9950959ef439901de7786872e22cd443125e7d", func := "skein/skeinlaw20.JudgeVersions", spec := "judgeVersions", inPlace := ["maps.clone"], unfollowed := true, recurses := true, plainKeys := false, apart := false }
def JudgeVersionsSaid : Prop := judgeVersionsRow.holds Try.pinned (OpenSpec.ofChange judgeVersionsSpec)

/-- ITS FALSE NEIGHBOUR: 'it returns false'. Refute it at one input. -/
def judgeVersionsWrong : ChangeSpec := { name := "judgeVersions", fn := fun _ => fun
  | [d1, d2] => { results := [.lit (.bool false)], args := [d1, d2] }
  | _ => none }
def JudgeVersionsWrongFalsely : Prop := judgeVersionsRow.holds Try.pinned (OpenSpec.ofChange judgeVersionsWrong)

/-- 'skeinlaw20.JudgeLess': WHATEVER THE INPUT: true; the input reads as it did. -/
def judgeLessSpec : ChangeSpec := { name := "judgeLess", fn := fun _ => fun
  | [d1, d2, d3] => { results := [.lit (.bool true)], args := [d1, d2, d3] }
  | _ => none }
def judgeLessRow : OpenClaim := { program := "ytpnegacfanbcfaa", sum := "20b1386c258c6226bc010626ea9950959ef439901de7786872e22cd443125e7d", func := "skein/skeinlaw20.JudgeLess", spec := "judgeLess", inPlace := ["maps.clone"], unfollowed := true, recurses := true, plainKeys := false, apart := false }
def JudgeLessSaid : Prop := judgeLessRow.holds Try.pinned (OpenSpec.ofChange judgeLessSpec)

/-- ITS FALSE NEIGHBOUR: 'it returns false'. Refute it at one input. -/
def judgeLessWrong : ChangeSpec := { name := "judgeLess", fn := fun _ => fun
  | [d1, d2, d3] => { results := [.lit (.bool false)], args := [d1, d2, d3] }
  | _ => none }
def JudgeLessWrongFalsely : Prop := judgeLessRow.holds Try.pinned (OpenSpec.ofChange judgeLessWrong)

/- THE SECOND FORM. 'bulk': how many values and letters a reading holds, each counted each time it is reached (what is shared counts as often as it is met; a slice's spare places count too). A statement '..UptoSaid' is the law's where the arguments, and the package variables that the reading takes, are together of bulk at most 1048576: NARROWER than '..Said'. Prove '..Said' where nothing that the law and all that it calls make is longer than what came in: it says more and counts as full. Else prove '..UptoSaid'. A law counts once. -/
mutual
def uptoBulk {H : Type} : DataW H → Nat
  | .lit (.string bytes) => bytes.length + 1
  | .lit _ => 1
  | .nil => 1
  | .ptr d => uptoBulk d + 1
  | .slice elems spare => uptoBulkAll elems + uptoBulkAll spare + 1
  | .agg parts => uptoBulkAll parts + 1
  | .iface _ d => uptoBulk d + 1
  | .map entries => uptoBulkEntries entries + 1
  | .held _ => 1
def uptoBulkAll {H : Type} : List (DataW H) → Nat
  | [] => 0
  | d :: r => uptoBulk d + uptoBulkAll r
def uptoBulkEntries {H : Type} : List (Lit × DataW H) → Nat
  | [] => 0
  | x :: r => uptoBulkEntry x + uptoBulkEntries r
def uptoBulkEntry {H : Type} : Lit × DataW H → Nat
  | (.string bytes, d) => bytes.length + uptoBulk d + 1
  | (_, d) => uptoBulk d + 1
 end
def uptoSmall : (H : Type) → List (DataW H) → Bool := fun _ ds => decide (uptoBulkAll ds ≤ 1048576)
def OpenSpec.upto (s : _root_.Go.ChangeSpec) : _root_.Go.OpenSpec := { _root_.Go.OpenSpec.ofChange s with cond := some uptoSmall }

/-- 'skeinlaw20.JudgeOrders', WHERE WHAT IT READS IS OF BULK AT MOST 1048576: true; the input reads as it did. -/
def judgeOrdersUptoRow : OpenClaim := { program := "ytpnegacfanbcfaa", sum := "20b1386c258c6226bc010626ea9950959ef439901de7786872e22cd443125e7d", func := "skein/skeinlaw20.JudgeOrders", spec := "judgeOrders", inPlace := ["maps.clone"], unfollowed := true, recurses := true, plainKeys := false, apart := false, narrowed := true }
def JudgeOrdersUptoSaid : Prop := judgeOrdersUptoRow.holds Try.pinned (OpenSpec.upto judgeOrdersSpec)

/-- 'skeinlaw20.JudgeFits', WHERE WHAT IT READS IS OF BULK AT MOST 1048576: true; the input reads as it did. -/
def judgeFitsUptoRow : OpenClaim := { program := "ytpnegacfanbcfaa", sum := "20b1386c258c6226bc010626ea9950959ef439901de7786872e22cd443125e7d", func := "skein/skeinlaw20.JudgeFits", spec := "judgeFits", inPlace := ["maps.clone"], unfollowed := true, recurses := true, plainKeys := false, apart := false, narrowed := true }
def JudgeFitsUptoSaid : Prop := judgeFitsUptoRow.holds Try.pinned (OpenSpec.upto judgeFitsSpec)

/-- 'skeinlaw20.JudgeVersions', WHERE WHAT IT READS IS OF BULK AT MOST 1048576: true; the input reads as it did. -/
def judgeVersionsUptoRow : OpenClaim := { program := "ytpnegacfanbcfaa", sum := "20b1386c258c6226bc010626ea9950959ef439901de7786872e22cd443125e7d", func := "skein/skeinlaw20.JudgeVersions", spec := "judgeVersions", inPlace := ["maps.clone"], unfollowed := true, recurses := true, plainKeys := false, apart := false, narrowed := true }
def JudgeVersionsUptoSaid : Prop := judgeVersionsUptoRow.holds Try.pinned (OpenSpec.upto judgeVersionsSpec)

/-- 'skeinlaw20.JudgeLess', WHERE WHAT IT READS IS OF BULK AT MOST 1048576: true; the input reads as it did. -/
def judgeLessUptoRow : OpenClaim := { program := "ytpnegacfanbcfaa", sum := "20b1386c258c6226bc010626ea9950959ef439901de7786872e22cd443125e7d", func := "skein/skeinlaw20.JudgeLess", spec := "judgeLess", inPlace := ["maps.clone"], unfollowed := true, recurses := true, plainKeys := false, apart := false, narrowed := true }
def JudgeLessUptoSaid : Prop := judgeLessUptoRow.holds Try.pinned (OpenSpec.upto judgeLessSpec)

end Rows
end Go.Proofs.Ytpnegacfanbcfaa
