/- The numbers of the cells, the first state, what Order answers. Plain Lean. -/
import Derived.Test.YtpnegacfanbcfaaOpen
import Derived.Test.YtpnegacfanbcfaaMapsLen
namespace Go.Proofs.Ytpnegacfanbcfaa
open Go.RowKit Go.Maps

structure Num where
  seen : List Int
  ci : List Nat
  en : Nat
def Num.step (s : Num) (d : Deed) : Num :=
  ⟨if d.a ∈ s.seen then s.seen else s.seen ++ [d.a], s.ci ++ [s.seen.idxOf d.a], if d.end_ = 0 then s.en else s.en ||| 2 ^ s.ci.length⟩
def num (l : List Deed) : Num := l.foldl Num.step ⟨[], [], 0⟩
theorem num_take_succ (l : List Deed) (k : Nat) (d : Deed) (h : l[k]? = some d) : num (l.take (k + 1)) = (num (l.take k)).step d := by
  unfold num
  rw [List.take_add_one, List.foldl_append, h]
  rfl
theorem num_snoc (l : List Deed) (d : Deed) : num (l ++ [d]) = (num l).step d := by
  unfold num
  rw [List.foldl_append]
  rfl

/-- what holds of the numbers behind each deed. -/
structure NumOk (l : List Deed) (s : Num) : Prop where
  ci : s.ci.length = l.length
  le : s.seen.length ≤ l.length
  lt : ∀ i ∈ s.ci, i < s.seen.length
  at_ : ∀ (k : Nat) (d : Deed), l[k]? = some d → ∃ i, s.ci[k]? = some i ∧ s.seen[i]? = some d.a
  nd : s.seen.Nodup
  mem : ∀ a ∈ s.seen, ∃ d : Deed, d ∈ l ∧ d.a = a
  bit : ∀ k : Nat, s.en.testBit k = true ↔ ∃ d : Deed, l[k]? = some d ∧ d.end_ ≠ 0
  en : s.en < 2 ^ l.length

theorem idxOf_get (s : List Int) (a : Int) (h : a ∈ s) : s[s.idxOf a]? = some a := by
  rw [List.getElem?_eq_getElem (List.idxOf_lt_length_of_mem h)]
  rw [List.getElem_idxOf]
theorem NumOk.step {l : List Deed} {s : Num} (h : NumOk l s) (d : Deed) : NumOk (l ++ [d]) (s.step d) := by
  have hseen : ∀ a ∈ s.seen, a ∈ (s.step d).seen := by
    intro a ha
    simp only [Num.step]
    split
    · exact ha
    · exact List.mem_append_left _ ha
  have hpre : ∀ (i : Nat) (a : Int), s.seen[i]? = some a → (s.step d).seen[i]? = some a := by
    intro i a ha
    simp only [Num.step]
    split
    · exact ha
    · rw [List.getElem?_append_left (List.getElem?_eq_some_iff.1 ha).1]
      exact ha
  have hnew : (s.step d).seen[s.seen.idxOf d.a]? = some d.a := by
    simp only [Num.step]
    split
    · rename_i hm
      exact idxOf_get _ _ hm
    · rename_i hm
      rw [List.idxOf_eq_length hm]
      simp
  have hle : s.seen.length ≤ (s.step d).seen.length := by
    simp only [Num.step]
    split <;> simp
  refine ⟨by simp [Num.step, h.ci], ?_, ?_, ?_, ?_, ?_, ?_, ?_⟩
  · have := h.le
    simp only [Num.step, List.length_append, List.length_cons, List.length_nil]
    split
    · omega
    · simp
      omega
  · intro i hi
    simp only [Num.step, List.mem_append, List.mem_singleton] at hi
    rcases hi with hi | rfl
    · exact Nat.lt_of_lt_of_le (h.lt i hi) hle
    · exact (List.getElem?_eq_some_iff.1 hnew).1
  · intro k e hk
    by_cases hlt : k < l.length
    · rw [List.getElem?_append_left hlt] at hk
      obtain ⟨i, h1, h2⟩ := h.at_ k e hk
      exact ⟨i, by simp only [Num.step]; rw [List.getElem?_append_left (by rw [h.ci]; exact hlt)]; exact h1, hpre _ _ h2⟩
    · have hkl : k = l.length := by
        have := (List.getElem?_eq_some_iff.1 hk).1
        simp at this
        omega
      subst hkl
      simp at hk
      subst hk
      exact ⟨s.seen.idxOf d.a, by simp [Num.step, ← h.ci], hnew⟩
  · simp only [Num.step]
    split
    · exact h.nd
    · rename_i hm
      rw [List.nodup_append]
      exact ⟨h.nd, by simp, fun a ha b hb => by simp at hb; subst hb; rintro rfl; exact hm ha⟩
  · intro a ha
    simp only [Num.step] at ha
    split at ha
    · obtain ⟨e, he, r⟩ := h.mem a ha
      exact ⟨e, by simp [he], r⟩
    · rcases List.mem_append.1 ha with ha | ha
      · obtain ⟨e, he, r⟩ := h.mem a ha
        exact ⟨e, by simp [he], r⟩
      · simp at ha
        exact ⟨d, by simp, ha.symm⟩
  · intro k
    have hb := h.bit k
    by_cases he : d.end_ = 0
    · simp only [Num.step, he, if_true]
      rw [hb]
      constructor
      · rintro ⟨e, h1, h2⟩
        exact ⟨e, by rw [List.getElem?_append_left (List.getElem?_eq_some_iff.1 h1).1]; exact h1, h2⟩
      · rintro ⟨e, h1, h2⟩
        by_cases hlt : k < l.length
        · rw [List.getElem?_append_left hlt] at h1
          exact ⟨e, h1, h2⟩
        · have hkl : k = l.length := by
            have := (List.getElem?_eq_some_iff.1 h1).1
            simp at this
            omega
          subst hkl
          simp at h1
          subst h1
          exact absurd he h2
    · simp only [Num.step, he, if_false]
      rw [Nat.testBit_or, Nat.testBit_two_pow, Bool.or_eq_true, hb, decide_eq_true_eq, h.ci]
      constructor
      · rintro (⟨e, h1, h2⟩ | rfl)
        · exact ⟨e, by rw [List.getElem?_append_left (List.getElem?_eq_some_iff.1 h1).1]; exact h1, h2⟩
        · exact ⟨d, by simp, he⟩
      · rintro ⟨e, h1, h2⟩
        by_cases hlt : k < l.length
        · rw [List.getElem?_append_left hlt] at h1
          exact .inl ⟨e, h1, h2⟩
        · right
          have := (List.getElem?_eq_some_iff.1 h1).1
          simp at this
          omega
  · have h1 := h.en
    simp only [Num.step, List.length_append, List.length_cons, List.length_nil]
    have h2 : 2 ^ l.length < 2 ^ (l.length + 1) := Nat.pow_lt_pow_right (by omega) (by omega)
    split
    · exact Nat.lt_trans h1 h2
    · rw [h.ci]
      exact Nat.or_lt_two_pow (Nat.lt_trans h1 h2) h2
theorem num_ok_take (l : List Deed) (k : Nat) : NumOk (l.take k) (num (l.take k)) := by
  induction k with
  | zero => exact ⟨rfl, Nat.le_refl _, by simp [num], by simp, by simp [num], by simp [num], by simp [num], by simp [num]⟩
  | succ k ih =>
    cases h : l[k]? with
    | none =>
      have h1 : l.length ≤ k := by simpa using h
      rw [List.take_of_length_le h1] at ih
      rw [List.take_of_length_le (by omega)]
      exact ih
    | some d =>
      rw [num_take_succ l k d h, List.take_add_one, h]
      exact ih.step d
theorem num_ok (l : List Deed) : NumOk l (num l) := by
  have := num_ok_take l l.length
  rwa [List.take_length] at this

/-- the first state: the cells by their numbers. -/
def start (first : List Int) (seen : List Int) : St := ⟨0, (seen.map fun a => first.getD a.toNat 0) ++ List.replicate (64 - seen.length) 0⟩
theorem start_ok {first seen : List Int} (h : seen.length ≤ 64) (hf : ∀ x ∈ first, inI64 x) : (start first seen).Ok := by
  refine ⟨by simp [start], by simp [start]; omega, fun x hx => ?_⟩
  simp only [start, List.mem_append, List.mem_map, List.mem_replicate] at hx
  rcases hx with ⟨a, _, rfl⟩ | ⟨_, rfl⟩
  · rw [List.getD]
    cases hc : first[a.toNat]? with
    | none => simp [inI64]
    | some v => exact hf _ (List.mem_of_getElem? hc)
  · simp [inI64]
theorem start_new (first seen : List Int) (a v : Int) (h : seen.length < 64) (hv : first[a.toNat]? = some v) :
    (start first seen).vals.toArray.setIfInBounds (1 + seen.length) (.int .i64 v) = (start first (seen ++ [a])).vals.toArray := by
  simp only [St.vals, start, List.setIfInBounds_toArray, Nat.add_comm 1, List.set_cons_succ]
  congr 2
  rw [List.map_append, List.set_append_right _ _ (by simp)]
  simp only [List.length_map, Nat.sub_self, List.map_append, List.map_cons, List.map_nil, List.length_append, List.length_cons, List.length_nil, List.append_assoc, List.cons_append, List.nil_append]
  congr 1
  rw [show 64 - seen.length = (64 - (seen.length + 1)) + 1 by omega, List.replicate_succ]
  simp [List.getD, hv]
theorem start_zero (first : List Int) : (start first []).vals.toArray = (Value.int .u64 0 :: List.replicate 64 (.int .i64 0)).toArray := by
  simp [St.vals, start]

def z71a : Array Value := (Value.int .u64 0 :: List.replicate 64 (.int .i64 0)).toArray
theorem zero71a (w : World) : (zeroValue 71).run Try.prog w = .ok (.agg z71a) w := by kernel_rfl
theorem wpList_alloc_agg {P : Program} {ops : Array Oper} {rest : List Oper} {o : Oper} {a : Act} {w : World} {Q : Exit → Act → World → Prop} (hgd : o.guard = none) (ty : TypeId) (ho : o.op = .alloc ty) (z : Array Value) (hz : ∀ w, (zeroValue ty).run P w = .ok (.agg z) w)
    (h : wpList P ops Q rest (a.put o.dst (.pointer (some ⟨w.heap.size, 0, none⟩))) (w.alloc (.cells z ty))) : wpList P ops Q (o :: rest) a w := wpList_alloc_is hgd ty ho (.agg z) hz h
theorem deedCells_length (l : List Deed) : (deedCells l).length = l.length * 8 := by
  unfold deedCells
  induction l with
  | nil => rfl
  | cons d l ih => rw [List.flatMap_cons, List.length_append, ih, Deed.cells_length, List.length_cons]; omega
theorem deedCells_oneCell (l : List Deed) : ∀ u ∈ deedCells l, u.oneCell' = true := by
  intro u hu
  obtain ⟨d, _, hd⟩ := List.mem_flatMap.1 hu
  simp only [Deed.cells, List.mem_cons, List.not_mem_nil, or_false] at hd
  rcases hd with rfl | rfl | rfl | rfl | rfl | rfl | rfl | rfl <;> rfl

def rightB (n : Nat) (d : Deed) : Bool := decide (1 ≤ d.kind) && (decide (d.kind ≤ 7) && (decide (0 ≤ d.a) && (decide (d.a < n) && timesB d.begin_ d.end_)))
def orderErr (first : List Int) (l : List Deed) : Int :=
  if first.length = 0 ∨ 256 < first.length ∨ 64 < l.length then 201 else if (l.all (rightB first.length)) = false then 200 else if (l.any fun d => decide (8 < opensAt l d.begin_)) = true then 201 else 0
def orderAns (first : List Int) (l : List Deed) : Option (List Nat) :=
  if orderErr first l = 0 then least l (num l).ci (num l).en (start first (num l).seen) else none
def seenF (seen : List Int) (a : Int) : Option Value := if a ∈ seen then some (.int .i64 (seen.idxOf a : Nat)) else none
theorem seenF_new (seen : List Int) (a : Int) (h : a ∉ seen) : (fun y => if y = a then some (Value.int .i64 (seen.length : Nat)) else seenF seen y) = seenF (seen ++ [a]) := by
  funext y
  simp only [seenF, List.mem_append, List.mem_singleton]
  by_cases hy : y = a
  · subst hy
    simp [List.idxOf_append, h]
  · by_cases hm : y ∈ seen
    · simp [hy, hm, List.idxOf_append]
    · simp [hy, hm]
end Go.Proofs.Ytpnegacfanbcfaa
