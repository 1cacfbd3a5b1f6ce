/- JudgeVersions answers true for every input of bulk at most 1048576; what it reads stays. Closed. -/
import Derived.Test.YtpnegacfanbcfaaVW
import Derived.Test.YtpnegacfanbcfaaOpens
import Derived.Test.YtpnegacfanbcfaaChecked
import Derived.ProofKit
import Derived.OpenShut
import Derived.JoinedCond
namespace Go.Proofs.Ytpnegacfanbcfaa
open Go.RowKit Go.ChangeShapes Go.WideShapes Go.ChangeAt

theorem tryOwn : ownKnob Try.prog.godebug = none := by kernel_rfl
theorem tryLaidOut : laidOutB Try.prog = true := by kernel_rfl

set_option maxRecDepth 100000 in
set_option maxHeartbeats 1000000 in
theorem versions_contract (H : Type) (enc : TypeId × Value → H) (W : World) (base : Nat) (args : Array Value) (ds gs : List (DataW H)) (before : List MemPlace)
    (hval : ∀ (j : Nat) t v, Try.f5.params[j]? = some t → args[j]? = some v → Value.okWide Try.prog W .any base t v)
    (hW : DataW.Whole enc Try.prog Try.f5.params.toList Rows.judgeVersionsSpec.vars false W args.toList ds gs before) (hk : Rows.uptoSmall H (ds ++ gs) = true) :
    Calls Try.prog 5 args W fun e W' => ∃ v, e = .returned v ∧ Rows.judgeVersionsSpec.post enc Try.prog Try.f5 false true false false W args v W' := by
  have hW' := hW
  obtain ⟨p, q, hA0, hV, rfl, hfz, hnd⟩ := hW
  have hA : DataW.TrodAll enc Try.prog W 0 (fun _ => true) true Try.f5.params.toList args.toList ds p := hA0
  rw [Try.params5] at hA hval
  obtain ⟨v0, vs0, d0, ds0, p0, q0, hargs, rfl, rfl, h0, r0⟩ := trodAll_cons hA
  obtain ⟨v1, vs1, d1, ds1, p1, q1, rfl, rfl, rfl, h1, r1⟩ := trodAll_cons r0
  obtain ⟨rfl, rfl, rfl⟩ := trodAll_nil r1
  obtain rfl : args = #[v0, v1] := by
    apply Array.toList_inj.1
    rw [hargs]
  obtain ⟨rfl, rfl⟩ := trodVars_none hV
  have h0k := h0
  have h1k := h1
  obtain ⟨fu0, hf0⟩ := h0
  obtain ⟨fu1, hf1⟩ := h1
  obtain ⟨a0, l0, c0, rfl⟩ := okWide_slice Try.underlying38 (hval 0 38 v0 (by simp) (by simp))
  obtain ⟨a1, l1, c1, rfl⟩ := okWide_slice Try.underlying39 (hval 1 39 v1 (by simp) (by simp))
  obtain ⟨sA, starts, heads, sc, e0, g1, g2, g3, g4, g5, g6⟩ := openStarts hf0
  obtain ⟨lA, l, lc, e1, k1, k2, k3, k4, k5, k6⟩ := openEvents hf1
  cases e0
  cases e1
  clear hA0
  simp only [List.append_nil] at hW' hk
  have hb := bulks.bound hk
  have b0 := Nat.le_trans (bulks.part_le (by simp : d0 ∈ [d0, d1])) hb
  have b1 := Nat.le_trans (bulks.part_le (by simp : d1 ∈ [d0, d1])) hb
  simp only at g5 g6 k2 k6
  have hL : LIn l starts heads a1 a0 W := ⟨k1, fun e he => (k2 e he).1, fun e he => (k2 e he).2.1, g1, fun s hs x hx => (g2 s hs x hx).1, Nat.le_trans k6 b1, Nat.le_trans g5 b0, fun s hs => Nat.le_trans (g6 s hs) b0, fun e he => ⟨Nat.le_trans (k2 e he).2.2.1 b1, Nat.le_trans (k2 e he).2.2.2 b1⟩⟩
  have hlt : ∀ x ∈ p0 ++ p1, x.block < W.heap.size := fun x hx => by simpa using hW'.lt x hx
  refine (versions_walk l starts heads a1 a0 c1 c0 W hL).mono fun e W' ⟨he, hbl⟩ => ?_
  subst he
  exact ⟨_, rfl, ⟨_, _, _, [], _, [], hW', trodAll_cons_mk (shut_bool Try.underlying4 _) trodAll_mk0,
    trodAll_cons_mk (Below.trod tryLaidOut (by kernel_rfl) (of_decide_eq_true (by kernel_rfl)) h0k hbl (fun x hx => hlt x (List.mem_append_left _ hx))) (trodAll_cons_mk (Below.trod tryLaidOut (by kernel_rfl) (of_decide_eq_true (by kernel_rfl)) h1k hbl (fun x hx => hlt x (List.mem_append_right _ hx))) trodAll_mk0), rfl, hbl.frame _, fun h => by cases h⟩⟩
set_option maxRecDepth 100000 in
theorem versions_lifted (os : Os) (started : os.Started) (H : Type) (enc : TypeId × Value → H) (F : Stop.Interp) :
    ReturnsInHanded {} Try.checked os 5 .any ((Rows.OpenSpec.upto Rows.judgeVersionsSpec).pre6 enc Try.prog Try.f5 Rows.judgeVersionsUptoRow.domain false) (((Rows.OpenSpec.upto Rows.judgeVersionsSpec).at F).post enc Try.prog Try.f5 false true false false) := by
  refine returnsInHanded_of_cond (C := Try.checked) (s := Rows.OpenSpec.upto Rows.judgeVersionsSpec) (k := Rows.uptoSmall) rfl tryOwn started (by kernel_rfl) Try.func5
    (OpenSpec.witness (enc := enc) (C := Try.checked) (s := Rows.OpenSpec.upto Rows.judgeVersionsSpec) (k := Rows.uptoSmall) rfl false ⟨#[], #[.slice none 0 0, .slice none 0 0], []⟩ 8 (by kernel_rfl) (by kernel_rfl) (by kernel_rfl)
      (x := ([.nil, .nil], [], [])) (by kernel_rfl) rfl (by kernel_rfl)) ?_
  intro W base args ds gs before hval hW _ hk _
  exact versions_contract H enc W base args ds gs before hval hW hk

theorem judgeVersions_upto : Rows.JudgeVersionsUptoSaid :=
  OpenClaim.holds_of_cond 5 Try.f5 rfl rfl rfl rfl rfl rfl rfl ⟨rfl, rfl, rfl, rfl, rfl⟩ rfl rfl rfl rfl rfl (by kernel_rfl) Try.func5 (by kernel_rfl)
    (of_decide_eq_true (by kernel_rfl)) (by unfold Func.isWrapper; first | (rw [if_pos (by decide +kernel)]; kernel_rfl) | (rw [if_neg (by decide +kernel)]; exact ⟨rfl, rfl⟩))
    (fun os started H enc _ F => versions_lifted os started H enc F)
end Go.Proofs.Ytpnegacfanbcfaa
