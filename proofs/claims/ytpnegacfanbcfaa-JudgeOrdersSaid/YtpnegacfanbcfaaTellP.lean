/- The versions that are told: plain, and as a row of maps. -/
import Derived.Test.YtpnegacfanbcfaaFam
namespace Go.Proofs.Ytpnegacfanbcfaa
open Go.RowKit Go.Maps

def tab0 : Tab := fun _ => none
def lastT (acc : List Tab) : Tab := acc.getLast?.getD tab0
def tellsL (F : Int → List Ev) : Nat → List Tab → List Tab
  | 0, acc => acc
  | k + 1, acc => match F ((acc.length : Int) + 1) with
    | [e] => tellsL F k (acc ++ [laysT (lastT acc) e])
    | _ => acc
/-- the versions of a part. -/
def told (l : List Ev) (parts : Int) (start : List (Int × Int)) (part : Int) : List Tab := tellsL (pubF l parts part) (l.length + 1) [tab0.puts start]

def upTo (l : List Ev) (parts part : Int) (K : Int) : Nat := (l.filter fun e => pubB parts part e && (decide (2 ≤ e.number) && decide (e.number ≤ K))).length
theorem upTo_succ (l : List Ev) (parts part : Int) (K : Int) (hK : 1 ≤ K) : upTo l parts part (K + 1) = upTo l parts part K + (pubF l parts part (K + 1)).length := by
  unfold upTo pubF
  induction l with
  | nil => rfl
  | cons e l ih =>
    simp only [List.filter_cons]
    by_cases hp : pubB parts part e = true
    · by_cases h1 : e.number = K + 1
      · have h2 : 2 ≤ e.number := by omega
        have h3 : e.number ≤ K + 1 := by omega
        have h4 : ¬ e.number ≤ K := by omega
        simp only [hp, h1, decide_true, Bool.and_true, Bool.true_and, if_true, List.length_cons]
        have h5 : (decide (2 ≤ K + 1) && decide (K + 1 ≤ K + 1)) = true := by simp; omega
        have h6 : (decide (2 ≤ K + 1) && decide (K + 1 ≤ K)) = false := by simp; omega
        rw [h5, h6]
        simp only [if_true, Bool.false_eq_true, if_false, List.length_cons]
        omega
      · have h7 : (decide (2 ≤ e.number) && decide (e.number ≤ K + 1)) = (decide (2 ≤ e.number) && decide (e.number ≤ K)) := by
          congr 1
          rw [decide_eq_decide]
          omega
        simp only [hp, h1, h7, decide_false, Bool.and_false, Bool.true_and, Bool.false_eq_true, if_false]
        by_cases h8 : (decide (2 ≤ e.number) && decide (e.number ≤ K)) = true
        · simp only [h8, if_true, List.length_cons]
          omega
        · rw [Bool.not_eq_true] at h8
          simp only [h8, Bool.false_eq_true, if_false]
          exact ih
    · rw [Bool.not_eq_true] at hp
      simp only [hp, Bool.false_and, Bool.false_eq_true, if_false]
      exact ih
theorem upTo_le (l : List Ev) (parts part : Int) (K : Int) : upTo l parts part K ≤ l.length := List.length_filter_le _ _
theorem singles_le {l : List Ev} {parts part : Int} : ∀ (K : Nat), (∀ n : Nat, 2 ≤ n → n ≤ K + 1 → (pubF l parts part n).length = 1) → K ≤ upTo l parts part ((K : Int) + 1)
  | 0, _ => Nat.zero_le _
  | K + 1, h => by
    have ih := singles_le K (fun n h1 h2 => h n h1 (by omega))
    have e := upTo_succ l parts part ((K : Int) + 1) (by omega)
    have h1 := h (K + 2) (by omega) (by omega)
    have e1 : ((K : Int) + 1 + 1) = ((K + 2 : Nat) : Int) := by omega
    have e2 : (((K + 1 : Nat) : Int) + 1) = ((K + 2 : Nat) : Int) := by omega
    rw [e1, h1] at e
    rw [e2, e]
    omega

theorem elemMap : ElemOk Try.prog 100 72 1 8 := elemOk_of (by kernel_rfl) (by decide) (.map none) (by kernel_rfl) rfl
def mapCells (bs : List Nat) : List Value := bs.map fun b => .map (some b)
theorem mapCells_length (bs : List Nat) : (mapCells bs).length = bs.length := by simp [mapCells]
/-- a row of maps that hold tables. -/
structure Tells (w : World) (B : Nat) (v : Value) (bs : List Nat) (acc : List Tab) : Prop where
  len : bs.length = acc.length
  own : w.ownsRow B 72 1 v acc.length (mapCells bs)
  ms : ∀ (j : Nat) b t, bs[j]? = some b → acc[j]? = some t → B ≤ b ∧ MapIs Try.prog 3 (Value.int .i64 ·) w b (tabV t)
theorem Tells.below {w w' : World} {B : Nat} {v : Value} {bs : List Nat} {acc : List Tab} (h : Tells w B v bs acc) (hb : Below w.heap.size w w') : Tells w' B v bs acc :=
  ⟨h.len, own_below h.own hb, fun j b t h1 h2 => ⟨(h.ms j b t h1 h2).1, (h.ms j b t h1 h2).2.below hb⟩⟩
theorem own_made_one (w : World) (B e : Nat) (u : Value) (hB : B ≤ w.heap.size) : (w.alloc (.cells #[u] e)).ownsRow B e 1 (.slice (some ⟨w.heap.size, 0, none⟩) 1 1) 1 [u] :=
  ⟨rfl, .inr ⟨w.heap.size, 1, #[u], rfl, hB, heap_alloc_new w _, Nat.le_refl _, by unfold maxLen; omega, rfl, rfl⟩⟩
theorem map_grown {w w' : World} {B e size n b : Nat} {v : Value} {xs : List Value} {f : Int → Option Value} (hm : MapIs Try.prog 3 (Value.int .i64 ·) w b f) (ho : w.ownsRow B e size v n xs) (hg : w.grownBy w' v.ownBlock) : MapIs Try.prog 3 (Value.int .i64 ·) w' b f := by
  obtain ⟨es, c, hr⟩ := hm.raw
  exact hm.kept (hg.block b hm.lt (fun e1 => own_ne ho (fun cs hc => by rw [hr] at hc; cases hc) e1.symm))
theorem Tells.snoc {w w2 : World} {B b : Nat} {v v2 : Value} {bs : List Nat} {acc : List Tab} {t : Tab} (h : Tells w B v bs acc) (hm : MapIs Try.prog 3 (Value.int .i64 ·) w b (tabV t)) (hb : B ≤ b)
    (ho2 : w2.ownsRow B 72 1 v2 (acc.length + 1) (mapCells bs ++ [.map (some b)])) (hg2 : w.grownBy w2 v.ownBlock) : Tells w2 B v2 (bs ++ [b]) (acc ++ [t]) := by
  refine ⟨by simp [h.len], by simpa [mapCells] using ho2, fun j b' t' h1 h2 => ?_⟩
  rcases Nat.lt_trichotomy j acc.length with hj | hj | hj
  · rw [List.getElem?_append_left (by rw [h.len]; exact hj)] at h1
    rw [List.getElem?_append_left hj] at h2
    obtain ⟨g1, g2⟩ := h.ms j b' t' h1 h2
    exact ⟨g1, map_grown g2 h.own hg2⟩
  · subst hj
    rw [← h.len, List.getElem?_concat_length] at h1
    rw [List.getElem?_concat_length] at h2
    injection h1 with h1
    injection h2 with h2
    subst h1 h2
    exact ⟨hb, map_grown hm h.own hg2⟩
  · rw [List.getElem?_eq_none (by simp; omega)] at h2
    cases h2
theorem lastT_snoc (acc : List Tab) (t : Tab) : lastT (acc ++ [t]) = t := by simp [lastT]

/-- how far the telling has come. -/
structure TInv (l : List Ev) (parts part : Int) (start : List (Int × Int)) (M : Nat) (w : World) (m : Nat) (now out : Value) (wr : World) : Prop where
  ex : ∃ bs acc b, Tells wr w.heap.size out bs acc ∧ now = .map (some b) ∧ w.heap.size ≤ b ∧ MapIs Try.prog 3 (Value.int .i64 ·) wr b (tabV (lastT acc)) ∧ acc.length + m = l.length + 2 ∧ 1 ≤ acc.length ∧
    told l parts start part = tellsL (pubF l parts part) m acc ∧ ∀ n : Nat, 2 ≤ n → n ≤ acc.length → (pubF l parts part n).length = 1
  fam : ∃ f, MapIs Try.prog 3 (Value.int .i64 ·) wr M f ∧ Fam wr M f (pubF l parts part)
  b : Below w.heap.size w wr
def TellRel (l : List Ev) (parts part : Int) (start : List (Int × Int)) (M : Nat) (w : World) (k : Nat) (now out : Value) (wr : World) : Prop := TInv l parts part start M w k now out wr
def TellPost (l : List Ev) (parts part : Int) (start : List (Int × Int)) (w : World) (e : Ending) (w' : World) : Prop :=
  ∃ v bs, e = .returned v ∧ Tells w' w.heap.size v bs (told l parts start part) ∧ Below w.heap.size w w'
theorem tellsL_stop {F : Int → List Ev} {m : Nat} {acc : List Tab} (h : (F ((acc.length : Int) + 1)).length ≠ 1) : tellsL F m acc = acc := by
  cases m with
  | zero => rfl
  | succ m =>
    unfold tellsL
    split
    · rename_i e he
      rw [he] at h
      exact absurd rfl h
    · rfl
theorem tellsL_go {F : Int → List Ev} {m : Nat} {acc : List Tab} {e : Ev} (h : F ((acc.length : Int) + 1) = [e]) : tellsL F (m + 1) acc = tellsL F m (acc ++ [laysT (lastT acc) e]) := by
  rw [tellsL, h]
end Go.Proofs.Ytpnegacfanbcfaa
