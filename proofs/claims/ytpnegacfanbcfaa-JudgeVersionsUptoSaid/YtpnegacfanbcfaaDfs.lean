/- The least order, as a plain search without memory; its equation. Plain Lean, no program. -/
import Derived.Test.YtpnegacfanbcfaaWords
namespace Go.Proofs.Ytpnegacfanbcfaa
open Go.RowKit

def inI64 (x : Int) : Prop := -9223372036854775808 ≤ x ∧ x ≤ 9223372036854775807
def aheadB (e b : Int) : Bool := !(e == 0) && decide (e < b)

structure St where
  inn : Nat
  cells : List Int
deriving DecidableEq

def cellOf (ci : List Nat) (s : St) (k : Nat) : Int := s.cells.getD (ci.getD k 0) 0
def nextSt (ci : List Nat) (s : St) (k : Nat) (d : Deed) : St := ⟨s.inn ||| 2 ^ k, s.cells.set (ci.getD k 0) (doesNext d (cellOf ci s k))⟩
/-- may nothing that is not in yet hold up what begins then? -/
def freeB (l : List Deed) (s : St) (b : Int) : Bool := l.zipIdx.all fun p => s.inn.testBit p.2 || !aheadB p.1.end_ b
def tryK (rec : St → Option (List Nat)) (l : List Deed) (ci : List Nat) (s : St) (k : Nat) : Option (List Nat) :=
  match l[k]? with
  | none => none
  | some d => if (!s.inn.testBit k && freeB l s d.begin_ && doesOk d (cellOf ci s k)) = true then (rec (nextSt ci s k d)).map (k :: ·) else none
def dfs (l : List Deed) (ci : List Nat) (ended : Nat) : Nat → St → Option (List Nat)
  | 0, s => if s.inn &&& ended = ended then some [] else none
  | m + 1, s => if s.inn &&& ended = ended then some [] else (List.range l.length).findSome? (tryK (dfs l ci ended m) l ci s)
def missing (n : Nat) (s : St) : Nat := (List.range n).countP fun k => !s.inn.testBit k
def least (l : List Deed) (ci : List Nat) (ended : Nat) (s : St) : Option (List Nat) := dfs l ci ended (missing l.length s) s

theorem testBit_or_pow (a k j : Nat) : (a ||| 2 ^ k).testBit j = (a.testBit j || decide (k = j)) := by
  rw [Nat.testBit_or, Nat.testBit_two_pow]

theorem countP_next (p : Nat → Bool) (k : Nat) : ∀ n, k < n → p k = true → (List.range n).countP p = (List.range n).countP (fun j => p j && !decide (k = j)) + 1
  | 0, h, _ => absurd h (Nat.not_lt_zero _)
  | n + 1, h, hp => by
    rw [List.range_succ, List.countP_append, List.countP_append]
    by_cases hk : k = n
    · subst hk
      have : (List.range k).countP (fun j => p j && !decide (k = j)) = (List.range k).countP p := by
        apply List.countP_congr
        intro j hj
        have : k ≠ j := by have := List.mem_range.1 hj; omega
        simp [this]
      rw [this]
      simp [hp]
    · have ih := countP_next p k n (by omega) hp
      have : ([n].countP fun j => p j && !decide (k = j)) = [n].countP p := by
        apply List.countP_congr
        intro j hj
        simp at hj
        subst hj
        simp [hk]
      omega

theorem missing_next (n : Nat) (ci : List Nat) (s : St) (k : Nat) (d : Deed) (hk : k < n) (hb : s.inn.testBit k = false) : missing n s = missing n (nextSt ci s k d) + 1 := by
  unfold missing nextSt
  rw [countP_next _ k n hk (by simp [hb])]
  congr 1
  apply List.countP_congr
  intro j _
  rw [testBit_or_pow]
  cases s.inn.testBit j <;> simp

theorem findSome_congr {α β : Type} {f g : α → Option β} : ∀ (l : List α), (∀ x ∈ l, f x = g x) → l.findSome? f = l.findSome? g
  | [], _ => rfl
  | a :: l, h => by
    rw [List.findSome?_cons, List.findSome?_cons, h a (by simp), findSome_congr l (fun x hx => h x (by simp [hx]))]

theorem least_eq (l : List Deed) (ci : List Nat) (ended : Nat) (s : St) :
    least l ci ended s = if s.inn &&& ended = ended then some [] else (List.range l.length).findSome? (tryK (least l ci ended) l ci s) := by
  unfold least
  cases hm : missing l.length s with
  | zero =>
    unfold dfs
    split
    · rfl
    · symm
      rw [List.findSome?_eq_none_iff]
      intro k hk
      have hb : s.inn.testBit k = true := by
        have := List.countP_eq_zero.1 hm k hk
        simpa using this
      unfold tryK
      split
      · rfl
      · simp [hb]
  | succ m =>
    rw [dfs]
    split
    · rfl
    · apply findSome_congr
      intro k hk
      have hk' := List.mem_range.1 hk
      unfold tryK
      split
      · rfl
      · rename_i d hd
        by_cases hc : (!s.inn.testBit k && freeB l s d.begin_ && doesOk d (cellOf ci s k)) = true
        · rw [if_pos hc, if_pos hc]
          have hb : s.inn.testBit k = false := by
            simp only [Bool.and_eq_true, Bool.not_eq_true'] at hc
            exact hc.1.1
          have := missing_next l.length ci s k d hk' hb
          show Option.map _ _ = Option.map _ (dfs l ci ended (missing l.length (nextSt ci s k d)) (nextSt ci s k d))
          rw [show missing l.length (nextSt ci s k d) = m by omega]
        · rw [if_neg hc, if_neg hc]

theorem least_done {l : List Deed} {ci : List Nat} {ended : Nat} {s : St} (h : s.inn &&& ended = ended) : least l ci ended s = some [] := by rw [least_eq, if_pos h]
theorem findSome_range_first {β : Type} {f : Nat → Option β} {r : β} {n j : Nat} (hj : j < n) (h0 : ∀ i, i < j → f i = none) (h1 : f j = some r) : (List.range n).findSome? f = some r := by
  have e : List.range n = List.range j ++ List.range' j (n - j) := by
    rw [List.range_eq_range', List.range_eq_range', show n = j + (n - j) by omega, ← List.range'_append_1]
    simp
  rw [e, List.findSome?_append, List.findSome?_eq_none_iff.2 (fun i hi => h0 i (List.mem_range.1 hi))]
  rw [show n - j = (n - j - 1) + 1 by omega, List.range'_succ, List.findSome?_cons, h1]
  rfl
theorem least_first {l : List Deed} {ci : List Nat} {ended : Nat} {s : St} (h : ¬ s.inn &&& ended = ended) {j : Nat} {r : List Nat} (hj : j < l.length) (h0 : ∀ i, i < j → tryK (least l ci ended) l ci s i = none)
    (h1 : tryK (least l ci ended) l ci s j = some r) : least l ci ended s = some r := by rw [least_eq, if_neg h]; exact findSome_range_first hj h0 h1
theorem least_none {l : List Deed} {ci : List Nat} {ended : Nat} {s : St} (h : ¬ s.inn &&& ended = ended) (h0 : ∀ i, i < l.length → tryK (least l ci ended) l ci s i = none) : least l ci ended s = none := by
  rw [least_eq, if_neg h, List.findSome?_eq_none_iff]
  exact fun i hi => h0 i (List.mem_range.1 hi)
theorem tryK_in {rec : St → Option (List Nat)} {l : List Deed} {ci : List Nat} {s : St} {k : Nat} (h : s.inn.testBit k = true) : tryK rec l ci s k = none := by unfold tryK; split <;> simp [h]
theorem tryK_held {rec : St → Option (List Nat)} {l : List Deed} {ci : List Nat} {s : St} {k i : Nat} {d e : Deed} (hd : l[k]? = some d) (he : l[i]? = some e) (h : s.inn.testBit i = false) (ha : aheadB e.end_ d.begin_ = true) : tryK rec l ci s k = none := by
  unfold tryK
  rw [hd]
  have : freeB l s d.begin_ = false := by
    rw [freeB, List.all_eq_false]
    exact ⟨(e, i), List.mem_zipIdx_iff_getElem?.2 he, by simp [h, ha]⟩
  simp [this]
theorem freeB_of {l : List Deed} {s : St} {b : Int} (h : ∀ i e, l[i]? = some e → s.inn.testBit i = true ∨ aheadB e.end_ b = false) : freeB l s b = true := by
  rw [freeB, List.all_eq_true]
  rintro ⟨e, i⟩ hp
  have := h i e (List.mem_zipIdx_iff_getElem?.1 hp)
  rcases this with h1 | h1 <;> simp [h1]
theorem tryK_not {rec : St → Option (List Nat)} {l : List Deed} {ci : List Nat} {s : St} {k : Nat} {d : Deed} (hd : l[k]? = some d) (h : doesOk d (cellOf ci s k) = false) : tryK rec l ci s k = none := by
  unfold tryK; rw [hd]; simp [h]
theorem tryK_yes {rec : St → Option (List Nat)} {l : List Deed} {ci : List Nat} {s : St} {k : Nat} {d : Deed} (hd : l[k]? = some d) (h1 : s.inn.testBit k = false) (h2 : freeB l s d.begin_ = true) (h3 : doesOk d (cellOf ci s k) = true) :
    tryK rec l ci s k = (rec (nextSt ci s k d)).map (k :: ·) := by unfold tryK; rw [hd]; simp [h1, h2, h3]
end Go.Proofs.Ytpnegacfanbcfaa
