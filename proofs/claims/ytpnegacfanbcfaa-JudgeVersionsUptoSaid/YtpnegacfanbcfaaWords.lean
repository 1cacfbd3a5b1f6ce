/- Words for memory and the judge's plain functions: what a deed alone does. No condition. -/
import Derived.Test.YtpnegacfanbcfaaRows
import Derived.WalkKit
import Derived.Lib.Hide
import Derived.WalkLawsBesides
import Derived.WalkSpells
import Derived.Deep.OwnRows
import Derived.Deep.Draws
import Derived.Deep.AppendLies
import Derived.Deep.QuietTactic
import Derived.BigQuiet
import Derived.Laws.OwnMore
namespace Go.Proofs.Ytpnegacfanbcfaa
open Go.RowKit

theorem ret_bool {a b : Bool} (h : a = b) : Ending.returned (.bool a) = .returned (.bool b) := by rw [h]
theorem ret_int {k : IntKind} {a b : Int} (h : a = b) : Ending.returned (.int k a) = .returned (.int k b) := by rw [h]
theorem ret_int_bool {k : IntKind} {a b : Int} {x y : Bool} (h : a = b) (h' : x = y) : Ending.returned (.tuple #[.int k a, .bool x]) = .returned (.tuple #[.int k b, .bool y]) := by rw [h, h']

theorem below_drewN {B : Nat} {a w : World} (h : Below B a w) (n : Nat) : Below B a (w.drewN n) := ⟨h.os, h.tape, h.output, h.size, h.block⟩

structure Deed where
  begin_ : Int
  end_ : Int
  kind : Int
  a : Int
  b : Int
  c : Int
  n : Int
  ok : Bool

def Deed.cells (d : Deed) : List Value := [.int .i64 d.begin_, .int .i64 d.end_, .int .i64 d.kind, .int .i64 d.a, .int .i64 d.b, .int .i64 d.c, .int .i64 d.n, .bool d.ok]
def Deed.val (d : Deed) : Value := .agg #[.int .i64 d.begin_, .int .i64 d.end_, .int .i64 d.kind, .int .i64 d.a, .int .i64 d.b, .int .i64 d.c, .int .i64 d.n, .bool d.ok]

/-- the slice value '.slice A _ _' leads to the cells xs. -/
def Row (w : World) (A : Option Addr) (xs : List Value) : Prop :=
  ∀ j u, xs[j]? = some u → ∃ b off, A = some ⟨b, off, none⟩ ∧ w.cell? ⟨b, off + j, none⟩ = some u
theorem cell_lt {w : World} {a : Addr} {v : Value} (h : w.cell? a = some v) : a.block < w.heap.size := block_lt_of_cell h
theorem Row.keep {w w' : World} {A : Option Addr} {xs : List Value} (h : Row w A xs) (hk : ∀ a v, w.cell? a = some v → w'.cell? a = some v) : Row w' A xs :=
  fun j u hu => let ⟨b, off, e, hc⟩ := h j u hu; ⟨b, off, e, hk _ _ hc⟩
theorem cell_below {w w' : World} (hb : Below w.heap.size w w') (a : Addr) (v : Value) (h : w.cell? a = some v) : w'.cell? a = some v := (hb.cell (cell_lt h)).trans h
theorem Row.below {w w' : World} {A : Option Addr} {xs : List Value} (h : Row w A xs) (hb : Below w.heap.size w w') : Row w' A xs := h.keep (cell_below hb)
theorem Row.drewN {w : World} {A : Option Addr} {xs : List Value} (h : Row w A xs) (n : Nat) : Row (w.drewN n) A xs := h
theorem Row.alloc {w : World} {A : Option Addr} {xs : List Value} (h : Row w A xs) (o : Obj) : Row (w.alloc o) A xs := h.below ((Below.refl _ _).alloc (Nat.le_refl _) _)
theorem cell_grown_map {w w' : World} {M : Nat} {es : Array MapEntry} {c : Nat} (hM : w.heap[M]? = some (.map es c)) (hg : w.grownBy w' (some M)) (a : Addr) (v : Value) (h : w.cell? a = some v) : w'.cell? a = some v :=
  hg.cell h (fun e => by
    injection e with e
    rw [← e] at hM
    simp [World.cell?, hM] at h)
theorem Row.nil (w : World) (A : Option Addr) : Row w A [] := fun j u hu => by simp at hu

def deedCells (l : List Deed) : List Value := l.flatMap Deed.cells
theorem Deed.cells_length (d : Deed) : d.cells.length = 8 := rfl
theorem flatMap_get {α : Type} (f : α → List Value) (s : Nat) (hf : ∀ x, (f x).length = s) : ∀ (l : List α) (k : Nat) (x : α), l[k]? = some x → ∀ j, j < s → (l.flatMap f)[k * s + j]? = (f x)[j]?
  | [], k, x, h => by simp at h
  | y :: l, 0, x, h => fun j hj => by
    simp at h
    subst h
    simp [List.getElem?_append, hf, hj]
  | y :: l, k + 1, x, h => fun j hj => by
    have ih := flatMap_get f s hf l k x (by simpa using h) j hj
    rw [List.flatMap_cons, List.getElem?_append_right (by rw [hf, Nat.succ_mul]; omega), hf, ← ih]
    congr 1
    rw [Nat.succ_mul]
    omega

theorem Row.deed {w : World} {A : Option Addr} {l : List Deed} (h : Row w A (deedCells l)) {k : Nat} {d : Deed} (hd : l[k]? = some d) :
    ∃ b off, A = some ⟨b, off, none⟩ ∧ w.cell? ⟨b, off + k * 8, none⟩ = some (.int .i64 d.begin_) ∧ w.cell? ⟨b, off + k * 8 + 1, none⟩ = some (.int .i64 d.end_) ∧
      w.cell? ⟨b, off + k * 8 + 2, none⟩ = some (.int .i64 d.kind) ∧ w.cell? ⟨b, off + k * 8 + 3, none⟩ = some (.int .i64 d.a) ∧ w.cell? ⟨b, off + k * 8 + 4, none⟩ = some (.int .i64 d.b) ∧
      w.cell? ⟨b, off + k * 8 + 5, none⟩ = some (.int .i64 d.c) ∧ w.cell? ⟨b, off + k * 8 + 6, none⟩ = some (.int .i64 d.n) ∧ w.cell? ⟨b, off + k * 8 + 7, none⟩ = some (.bool d.ok) := by
  have g : ∀ j, j < 8 → (deedCells l)[k * 8 + j]? = d.cells[j]? := flatMap_get Deed.cells 8 Deed.cells_length l k d hd
  obtain ⟨b, off, hA, _⟩ := h (k * 8 + 0) _ ((g 0 (by omega)).trans rfl)
  subst hA
  have hj : ∀ j u, j < 8 → d.cells[j]? = some u → w.cell? ⟨b, off + k * 8 + j, none⟩ = some u := by
    intro j u hj hu
    obtain ⟨b', off', hA, hc⟩ := h (k * 8 + j) u ((g j hj).trans hu)
    simp only [Option.some.injEq, Addr.mk.injEq, and_true] at hA
    obtain ⟨rfl, rfl⟩ := hA
    rw [Nat.add_assoc]
    exact hc
  exact ⟨b, off, rfl, hj 0 _ (by omega) rfl, hj 1 _ (by omega) rfl, hj 2 _ (by omega) rfl, hj 3 _ (by omega) rfl, hj 4 _ (by omega) rfl, hj 5 _ (by omega) rfl, hj 6 _ (by omega) rfl, hj 7 _ (by omega) rfl⟩

/-- what a deed alone leaves in its cell, what it answers. -/
def doesNext (d : Deed) (v : Int) : Int :=
  if d.kind = 2 then d.b else if d.kind = 3 then wrap64 (v + d.b) else if d.kind = 4 then d.b else if d.kind = 5 then (if v = d.b then d.c else v) else if d.kind = 6 then max v d.b else if d.kind = 7 then min v d.b else v
def doesN (d : Deed) (v : Int) : Int :=
  if d.kind = 1 then v else if d.kind = 3 then wrap64 (v + d.b) else if d.kind = 4 then v else if d.kind = 6 then max v d.b else if d.kind = 7 then min v d.b else 0
def doesIs (d : Deed) (v : Int) : Bool := decide (d.kind = 5) && decide (v = d.b)
def doesOk (d : Deed) (v : Int) : Bool := decide (d.end_ = 0) || (decide (doesN d v = d.n) && (doesIs d v == d.ok))
end Go.Proofs.Ytpnegacfanbcfaa
