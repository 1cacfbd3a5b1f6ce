/- A part's published events by number: a map whose values are rows of the call's own. -/
import Derived.Test.YtpnegacfanbcfaaWr
import Derived.Test.YtpnegacfanbcfaaBesideParts
namespace Go.Proofs.Ytpnegacfanbcfaa
open Go.RowKit Go.Maps

def pubB (parts part : Int) (e : Ev) : Bool := isB e parts && writesB e && decide (e.part = part) && !decide (e.end_ = 0)
def pubF (l : List Ev) (parts part : Int) (n : Int) : List Ev := l.filter fun e => pubB parts part e && decide (e.number = n)
def nilV : Value := .slice none 0 0
/-- each key's value is a row of the call's own that holds its events; no two share a block. -/
structure Fam (w : World) (B : Nat) (f : Int → Option Value) (F : Int → List Ev) : Prop where
  own : ∀ n, w.ownsRow B 52 13 ((f n).getD nilV) (F n).length (evCells (F n))
  apart : ∀ n m g, n ≠ m → ((f n).getD nilV).ownBlock = some g → ((f m).getD nilV).ownBlock ≠ some g
theorem evCells_length (l : List Ev) : (evCells l).length = l.length * 13 := by
  unfold evCells
  induction l with
  | nil => rfl
  | cons d l ih => rw [List.flatMap_cons, List.length_append, ih, List.length_cons, Ev.cells_length]; omega
theorem evCells_snoc (l : List Ev) (e : Ev) : evCells (l ++ [e]) = evCells l ++ e.cells := by simp [evCells]
theorem elemEv : ElemOk Try.prog 39 52 13 136 := elemOk_of (by kernel_rfl) (by decide) (.agg #[.int .i64 0, .int .i64 0, .int .i64 0, .int .i64 0, .int .i64 0, .int .i64 0, .int .i64 0, .bool false, .int .i64 0, .bool false, .int .i64 0, .slice none 0 0, .slice none 0 0]) (by kernel_rfl) rfl
theorem Fam.start (w : World) (B : Nat) (parts part : Int) : Fam w B (fun _ => none) (pubF [] parts part) := by
  refine ⟨fun n => ?_, fun n m g _ h => ?_⟩
  · exact ⟨rfl, .inl ⟨rfl, rfl⟩⟩
  · simp [nilV, Value.ownBlock] at h
theorem Fam.below {w w' : World} {B : Nat} {f : Int → Option Value} {F : Int → List Ev} (h : Fam w B f F) (hb : Below w.heap.size w w') : Fam w' B f F := ⟨fun n => own_below (h.own n) hb, h.apart⟩
theorem Fam.congr {w : World} {B : Nat} {f : Int → Option Value} {F F' : Int → List Ev} (h : Fam w B f F) (e : ∀ n, F' n = F n) : Fam w B f F' := by
  have : F' = F := funext e
  rw [this]
  exact h
theorem Fam.step {w w2 w3 : World} {B M : Nat} {f : Int → Option Value} {F : Int → List Ev} (h : Fam w B f F) (n : Int) (e : Ev) {v2 : Value}
    (ho2 : w2.ownsRow B 52 13 v2 ((F n).length + 1) (evCells (F n) ++ e.cells)) (hg2 : w.grownBy w2 ((f n).getD nilV).ownBlock) (hat : v2.ownBlock = ((f n).getD nilV).ownBlock ∨ v2.ownBlock = some w.heap.size)
    (hM : ∃ es c, w2.heap[M]? = some (.map es c)) (hg3 : w2.grownBy w3 (some M)) :
    Fam w3 B (fun y => if y = n then some v2 else f y) (fun y => if y = n then F n ++ [e] else F y) := by
  have hlt : ∀ m g, ((f m).getD nilV).ownBlock = some g → g < w.heap.size := fun m g hg => ((h.own m).lt g hg).2
  refine ⟨fun m => ?_, fun m m' g hne hg => ?_⟩
  · by_cases hm : m = n
    · subst hm
      simp only [if_true, Option.getD_some, List.length_append, List.length_cons, List.length_nil, evCells_snoc]
      exact own_grown_map ho2 hM hg3
    · simp only [if_neg hm]
      refine own_grown_map (own_grown (h.own m) hg2 fun g hg e => ?_) hM hg3
      exact h.apart m n g hm hg e
  · by_cases hm : m = n
    · subst hm
      have hm' : m' ≠ m := fun e => hne e.symm
      simp only [if_true, Option.getD_some] at hg
      simp only [if_neg hm']
      rcases hat with hat | hat
      · rw [hat] at hg
        exact h.apart m m' g hne hg
      · rw [hat] at hg
        injection hg with hg
        subst hg
        intro e
        exact absurd (hlt m' _ e) (Nat.lt_irrefl _)
    · simp only [if_neg hm] at hg
      by_cases hm' : m' = n
      · subst hm'
        simp only [if_true, Option.getD_some]
        rcases hat with hat | hat
        · rw [hat]
          exact h.apart m m' g hne hg
        · rw [hat]
          intro e
          injection e with e
          have := hlt m g hg
          omega
      · simp only [if_neg hm']
        exact h.apart m m' g hne hg
theorem pubF_snoc_yes {l : List Ev} {parts part : Int} {e : Ev} (h : pubB parts part e = true) (n : Int) : pubF (l ++ [e]) parts part n = if n = e.number then pubF l parts part e.number ++ [e] else pubF l parts part n := by
  unfold pubF
  rw [List.filter_append]
  by_cases hn : n = e.number
  · subst hn
    simp [h]
  · simp [h, hn, Ne.symm hn]
theorem pubF_snoc_no {l : List Ev} {parts part : Int} {e : Ev} (h : pubB parts part e = false) (n : Int) : pubF (l ++ [e]) parts part n = pubF l parts part n := by
  unfold pubF
  rw [List.filter_append]
  simp [h]
theorem take_snoc' {α : Type} {l : List α} {j : Nat} {e : α} (h : l[j]? = some e) : l.take (j + 1) = l.take j ++ [e] := by
  rw [List.take_add_one, h]
  rfl

structure PubInv (l : List Ev) (parts part : Int) (w : World) (j : Nat) (wr : World) : Prop where
  ex : ∃ f, MapIs Try.prog 3 (Value.int .i64 ·) wr w.heap.size f ∧ Fam wr w.heap.size f (pubF (l.take j) parts part)
  b : Below w.heap.size w wr
def PubRel (l : List Ev) (parts part : Int) (w : World) (k : Nat) (i : Value) (wr : World) : Prop :=
  ∃ j : Nat, j ≤ l.length ∧ i = .int .i64 j ∧ k = l.length - j ∧ PubInv l parts part w j wr
def PubPost (l : List Ev) (parts part : Int) (w : World) (e : Ending) (w' : World) : Prop :=
  e = .returned (.map (some w.heap.size)) ∧ PubInv l parts part w l.length w'
theorem PubInv.no {l : List Ev} {parts part : Int} {w wr w' : World} {j : Nat} {e : Ev} (h : PubInv l parts part w j wr) (hj : l[j]? = some e) (hno : pubB parts part e = false) (hb : Below wr.heap.size wr w') : PubInv l parts part w (j + 1) w' := by
  obtain ⟨⟨f, hm, hf⟩, hbw⟩ := h
  refine ⟨⟨f, hm.below hb, (hf.below hb).congr fun n => ?_⟩, hbw.trans (hb.mono hbw.size)⟩
  rw [take_snoc' hj, pubF_snoc_no hno]
theorem PubInv.yes {l : List Ev} {parts part : Int} {w wr wa w2 w3 : World} {j : Nat} {e : Ev} {f : Int → Option Value} {v2 : Value} (hm3 : MapIs Try.prog 3 (Value.int .i64 ·) w3 w.heap.size (fun y => if y = e.number then some v2 else f y))
    (hf : Fam wa w.heap.size f (pubF (l.take j) parts part)) (hbw : Below w.heap.size w wr) (hba : Below wr.heap.size wr wa) (hj : l[j]? = some e) (hyes : pubB parts part e = true)
    (ho2 : w2.ownsRow w.heap.size 52 13 v2 ((pubF (l.take j) parts part e.number).length + 1) (evCells (pubF (l.take j) parts part e.number) ++ e.cells)) (hg2 : wa.grownBy w2 ((f e.number).getD nilV).ownBlock)
    (hat : v2.ownBlock = ((f e.number).getD nilV).ownBlock ∨ v2.ownBlock = some wa.heap.size) (hM : ∃ es c, w2.heap[w.heap.size]? = some (.map es c)) (hg3 : w2.grownBy w3 (some w.heap.size)) : PubInv l parts part w (j + 1) w3 := by
  refine ⟨⟨_, hm3, (hf.step e.number e ho2 hg2 hat hM hg3).congr fun n => ?_⟩, ?_⟩
  · rw [take_snoc' hj, pubF_snoc_yes hyes]
  · have h1 : Below w.heap.size w wa := hbw.trans (hba.mono hbw.size)
    have h2 : Below w.heap.size w w2 := h1.grown hg2 h1.size fun k hk => ((hf.own e.number).lt k hk).1
    exact h2.grown hg3 h2.size fun k hk => by injection hk with hk; omega
theorem pub_append {wa w2 : World} {M B : Nat} {f : Int → Option Value} {v : Value} {n : Nat} {xs : List Value} (hm : MapIs Try.prog 3 (Value.int .i64 ·) wa M f) (ho : wa.ownsRow B 52 13 v n xs) (hg : wa.grownBy w2 v.ownBlock) (x : Int) (hx : inI64 x) (v2 : Value) :
    ∃ w3, (Instr.mapUpdate 119 (.map (some M)) (.int .i64 x) v2).run Try.prog w2 = .ok () w3 ∧ MapIs Try.prog 3 (Value.int .i64 ·) w3 M (fun y => if y = x then some v2 else f y) ∧ w2.grownBy w3 (some M) ∧ ∃ es c, w2.heap[M]? = some (.map es c) := by
  obtain ⟨es, c, hr⟩ := hm.raw
  have hb : w2.heap[M]? = wa.heap[M]? := hg.block M hm.lt (fun e => own_ne ho (fun cs hc => by rw [hr] at hc; cases hc) e.symm)
  obtain ⟨w3, h1, h2, h3⟩ := (hm.kept hb).run_update keyed3' int_enc_inj Try.underlying119 x (key3' hx) v2
  exact ⟨w3, h1, h2, h3, es, c, hb.trans hr⟩
end Go.Proofs.Ytpnegacfanbcfaa
