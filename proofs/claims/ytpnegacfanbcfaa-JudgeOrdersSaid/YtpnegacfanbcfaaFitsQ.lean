/- The law of JudgeFits, plain: what Order answers, in the words of fits. -/
import Derived.Test.YtpnegacfanbcfaaFitsP
namespace Go.Proofs.Ytpnegacfanbcfaa
open Go.RowKit Go.Maps

theorem num_at {l : List Deed} {k : Nat} {d : Deed} (hd : l[k]? = some d) : (num l).seen[(num l).ci.getD k 0]? = some d.a ∧ (num l).ci.getD k 0 < (num l).seen.length := by
  obtain ⟨i, h1, h2⟩ := (num_ok l).at_ k d hd
  have e : (num l).ci.getD k 0 = i := by rw [List.getD_eq_getElem?_getD, h1]; rfl
  rw [e]
  exact ⟨h2, (List.getElem?_eq_some_iff.1 h2).1⟩
theorem num_ciOk {l : List Deed} (ha : ∀ d ∈ l, 0 ≤ d.a) : CiOk l (num l).ci := by
  intro j k d e hd he
  have h1 := num_at hd
  have h2 := num_at he
  have a1 := ha d (List.mem_of_getElem? hd)
  have a2 := ha e (List.mem_of_getElem? he)
  constructor
  · intro h
    rw [h, h2.1] at h1
    have := h1.1
    injection this with this
    rw [this]
  · intro h
    have hde : d.a = e.a := by omega
    rw [hde] at h1
    exact (List.getElem?_inj h1.2 (num_ok l).nd).1 (h1.1.trans h2.1.symm)
theorem num_done {l : List Deed} (s : St) : s.inn &&& (num l).en = (num l).en ↔ ∀ k d, l[k]? = some d → d.end_ ≠ 0 → s.inn.testBit k = true := by
  constructor
  · intro h k d hd he
    have hb := ((num_ok l).bit k).2 ⟨d, hd, he⟩
    rw [← h, Nat.testBit_and, Bool.and_eq_true] at hb
    exact hb.1
  · intro h
    apply Nat.eq_of_testBit_eq
    intro k
    rw [Nat.testBit_and]
    cases hb : (num l).en.testBit k with
    | false => simp
    | true =>
      obtain ⟨d, hd, he⟩ := ((num_ok l).bit k).1 hb
      simp [h k d hd he]
theorem start_rel {first : List Int} {l : List Deed} (_hl : l.length ≤ 64) (ha : ∀ d ∈ l, 0 ≤ d.a ∧ d.a < first.length) : FRel l (num l).ci (start first (num l).seen) (List.replicate l.length false) first := by
  have hle := (num_ok l).le
  refine ⟨by simp, fun k hk => by simp [start, List.getD, hk], fun k d hd => ?_, fun k d hd => ?_⟩
  · obtain ⟨h1, h2⟩ := num_at hd
    unfold cellOf start
    simp only
    rw [List.getD_eq_getElem?_getD, List.getElem?_append_left (by rw [List.length_map]; exact h2), List.getElem?_map, h1]
    rfl
  · obtain ⟨h1, h2⟩ := num_at hd
    have := ha d (List.mem_of_getElem? hd)
    constructor
    · simp only [start, List.length_append, List.length_map, List.length_replicate]
      omega
    · omega
theorem right_a {first : List Int} {l : List Deed} (h : orderErr first l = 0) : l.length ≤ 64 ∧ ∀ d ∈ l, 0 ≤ d.a ∧ d.a < first.length := by
  unfold orderErr at h
  split at h
  · cases h
  · rename_i h1
    split at h
    · cases h
    · rename_i h2
      refine ⟨by omega, fun d hd => ?_⟩
      rw [Bool.not_eq_false, List.all_eq_true] at h2
      have := h2 d hd
      simp only [rightB, Bool.and_eq_true, decide_eq_true_eq] at this
      exact ⟨this.2.2.1, this.2.2.2.1⟩
/-- an answer fits. -/
theorem order_fits {first : List Int} {l : List Deed} {t : List Nat} (h : orderErr first l = 0) (ht : orderAns first l = some t) : fitsGo l (t.map fun (i : Nat) => (i : Int)) (List.replicate l.length false) first = true := by
  obtain ⟨hl, ha⟩ := right_a h
  unfold orderAns at ht
  rw [if_pos h] at ht
  exact found_fits (num_ciOk fun d hd => (ha d hd).1) (fun s => (num_done s).1) t _ _ _ (start_rel hl ha) ht
/-- where there is none, nothing fits. -/
theorem order_none {first : List Int} {l : List Deed} (h : orderErr first l = 0) (ht : orderAns first l = none) (o : List Int) : fitsGo l o (List.replicate l.length false) first = false := by
  obtain ⟨hl, ha⟩ := right_a h
  rw [Bool.eq_false_iff]
  intro hf
  obtain ⟨t, he⟩ := fits_found (num_ciOk fun d hd => (ha d hd).1) (fun s => (num_done s).2) o _ _ _ (start_rel hl ha) hf
  unfold orderAns at ht
  rw [if_pos h, he] at ht
  cases ht
end Go.Proofs.Ytpnegacfanbcfaa
