/- The history's memory; a blame is put behind the others. -/
import Derived.Test.YtpnegacfanbcfaaBelowN
import Derived.Test.YtpnegacfanbcfaaOrderParts
namespace Go.Proofs.Ytpnegacfanbcfaa
open Go.RowKit Go.Maps

structure Blm where
  at_ : Int
  wit : Int
  why : Int
deriving DecidableEq
def Blm.cells (b : Blm) : List Value := [.int .i64 b.at_, .int .i64 b.wit, .int .i64 b.why]
def blCells (l : List Blm) : List Value := l.flatMap Blm.cells
theorem blCells_length (l : List Blm) : (blCells l).length = l.length * 3 := by
  unfold blCells
  induction l with
  | nil => rfl
  | cons d l ih => rw [List.flatMap_cons, List.length_append, ih, List.length_cons]; simp [Blm.cells]; omega
theorem elemBlame : ElemOk Try.prog 44 55 3 24 := elemOk_of (by kernel_rfl) (by decide) (.agg #[.int .i64 0, .int .i64 0, .int .i64 0]) (by kernel_rfl) rfl
theorem elemBool : ElemOk Try.prog 82 4 1 1 := elemOk_of (by kernel_rfl) (by decide) (.bool false) (by kernel_rfl) rfl

/-- only the history's block, rows of blames of the call's own, and new blocks have turned. -/
structure Keeps (B H : Nat) (w w' : World) : Prop where
  b : Below B w w'
  k : ∀ k, k < w.heap.size → k ≠ H → (∀ cs, w.heap[k]? ≠ some (.cells cs 55 (0, 0))) → w'.heap[k]? = w.heap[k]?
section
variable {B H : Nat} {w w' w'' : World}
theorem Keeps.refl (w : World) : Keeps B H w w := ⟨Below.refl _ _, fun _ _ _ _ => rfl⟩
theorem Keeps.trans (h : Keeps B H w w') (h' : Keeps B H w' w'') : Keeps B H w w'' :=
  ⟨h.b.trans h'.b, fun k hk hne hn => by
    have e := h.k k hk hne hn
    rw [h'.k k (Nat.lt_of_lt_of_le hk h.b.size) hne (fun cs hc => hn cs (by rw [← e]; exact hc)), e]⟩
theorem Keeps.of_below (hb : Below w.heap.size w w') (hB : B ≤ w.heap.size) : Keeps B H w w' := ⟨hb.mono hB, fun k hk _ _ => hb.block k hk⟩
theorem Keeps.own {e size n : Nat} {v : Value} {xs : List Value} (h : Keeps B H w w') (ho : w.ownsRow B e size v n xs) (he : e ≠ 55) (hH : ∀ cs, w.heap[H]? ≠ some (.cells cs e (0, 0))) : w'.ownsRow B e size v n xs := by
  refine ⟨ho.1, ?_⟩
  rcases ho.2 with hn | ⟨g, cap, cur, rfl, hb, hg, rest⟩
  · exact .inl hn
  · refine .inr ⟨g, cap, cur, rfl, hb, ?_, rest⟩
    rw [h.k g (Array.getElem?_eq_some_iff.1 hg).1 (fun e1 => by subst e1; exact hH _ hg) (fun cs hc => by
      rw [hg] at hc
      injection hc with hc
      injection hc with _ hc
      exact he hc)]
    exact hg
theorem Keeps.map {α : Type} {k : TypeId} {enc : α → Value} {b : Nat} {f : α → Option Value} (h : Keeps B H w w') (hm : MapIs Try.prog k enc w b f) (hH : ∃ cs t fr, w.heap[H]? = some (.cells cs t fr)) : MapIs Try.prog k enc w' b f := by
  obtain ⟨es, c, hr⟩ := hm.raw
  refine hm.kept (h.k b hm.lt ?_ ?_)
  · rintro rfl
    obtain ⟨cs, t, fr, hc⟩ := hH
    rw [hr] at hc
    cases hc
  · intro cs hc
    rw [hr] at hc
    cases hc
end

/-- the history's block and its blames. -/
structure HSt (l : List Ev) (B H : Nat) (lA : Option Addr) (lc : Nat) (rv tv bv ov : Value) (outs : List Blm) (w : World) : Prop where
  hB : B ≤ H
  x : w.heap[H]? = some (.cells #[.slice lA l.length lc, rv, tv, bv, ov] 98 (0, 0))
  o : w.ownsRow B 55 3 ov outs.length (blCells outs)
def BlamePost (l : List Ev) (B H : Nat) (lA : Option Addr) (lc : Nat) (rv tv bv : Value) (outs : List Blm) (w : World) (e : Ending) (w' : World) : Prop :=
  e = .returned (.tuple #[]) ∧ Keeps B H w w' ∧ ∃ ov, HSt l B H lA lc rv tv bv ov outs w'
theorem HSt.lt {l : List Ev} {B H : Nat} {lA : Option Addr} {lc : Nat} {rv tv bv ov : Value} {outs : List Blm} {w : World} (h : HSt l B H lA lc rv tv bv ov outs w) : H < w.heap.size := (Array.getElem?_eq_some_iff.1 h.x).1
theorem HSt.below {l : List Ev} {B H : Nat} {lA : Option Addr} {lc : Nat} {rv tv bv ov : Value} {outs : List Blm} {w w' : World} (h : HSt l B H lA lc rv tv bv ov outs w) (hb : Below w.heap.size w w') : HSt l B H lA lc rv tv bv ov outs w' :=
  ⟨h.hB, (hb.block _ h.lt).trans h.x, own_below h.o hb⟩

theorem row_new (w : World) (cs : List Value) (t : TypeId) : Row (w.alloc (.cells cs.toArray t)) (some ⟨w.heap.size, 0, none⟩) cs := fun j u hu =>
  ⟨w.heap.size, 0, rfl, by rw [Nat.zero_add, cell_of_row _ _ j _ _ _ (heap_alloc_new w _)]; simpa using hu⟩
theorem blCells_snoc (l : List Blm) (b : Blm) : blCells (l ++ [b]) = blCells l ++ b.cells := by simp [blCells]

attribute [-go_sem] loadCellsFrom
set_option maxRecDepth 100000 in
set_option maxHeartbeats 2000000 in
theorem judgeBlame (l : List Ev) (B H : Nat) (lA : Option Addr) (lc : Nat) (rv tv bv ov : Value) (outs : List Blm) (a b c : Int) (w : World) (hh : HSt l B H lA lc rv tv bv ov outs w) (hn : outs.length ≤ 3000000) :
    Calls Try.prog 68 #[.pointer (some ⟨H, 0, none⟩), .int .i64 a, .int .i64 b, .int .i64 c] w (BlamePost l B H lA lc rv tv bv (outs ++ [⟨a, b, c⟩]) w) := by
  obtain ⟨oA, oc, rfl, hrow, hnil⟩ := row_of_own hh.o
  have HH := Lib.hid hh; have HN := Lib.hid hn
  have c4 : w.cell? ⟨H, 4, none⟩ = some (.slice oA outs.length oc) := cell_of_row _ _ _ _ _ _ hh.x
  have hlt := hh.lt
  clear hrow hnil hh hn
  go_enter Try.func68, Try.ntmps68
  have hb0 : Below w.heap.size w (w.alloc (.cells #[.int .i64 a, .int .i64 b, .int .i64 c] 55)) := (Below.refl _ _).alloc (Nat.le_refl _) _
  have hh1 := HH.out.below hb0
  have HH1 := Lib.hid hh1; have HB0 := Lib.hid hb0
  clear hb0 hh1
  go_wp2_with (at_builtin; refine wpList_append_is rfl (.tmp 12) (.tmp 17) rfl elemBlame rfl HH1.out.o _ 1 _ [.int .i64 a, .int .i64 b, .int .i64 c] rfl (row_new w _ _) rfl (by simp [Value.oneCell']) (by have := HN.out; unfold maxLen; omega) (by have := HN.out; omega) (by have := HH.out.hB; have := HH.out.lt; simp; omega) (fun e => by cases e) ?_; intro v6 w6 ho6 hg6 hat6; obtain ⟨A6, c6, rfl, _, _⟩ := row_of_own ho6; have hx6 : w6.heap[H]? = some (.cells #[.slice lA l.length lc, rv, tv, bv, .slice oA outs.length oc] 98 (0, 0)) := (hg6.block _ HH1.out.lt (fun e => own_ne HH1.out.o (fun cs hc => by rw [HH1.out.x] at hc; injection hc with hc; injection hc with _ hc; cases hc) e.symm)).trans HH1.out.x; have y4 : w6.cell? ⟨H, 4, none⟩ = some (.slice oA outs.length oc) := cell_of_row _ _ _ _ _ _ hx6; have yz : w6.frozen? ⟨H, 4, none⟩ = false := frozen_block hx6; have HX6 := Lib.hid hx6; have HG6 := Lib.hid hg6; have HO6 := Lib.hid ho6; clear hx6 hg6 ho6 hat6)
  go_end0
  have hlt' := HH.out.lt
  have hHB := HH.out.hB
  refine ⟨rfl, ⟨?_, fun k hk hne hn => ?_⟩, .slice A6 (outs.length + 1) c6, hHB, ?_, ?_⟩
  · exact ((HB0.out.mono (by omega)).grown HG6.out (by simp; omega) (fun k hk => (HH1.out.o.lt k hk).1)).setCell (by show B ≤ H; omega) _
  · refine (Below.heap_setCell _ _ _ _ hne).trans ((HG6.out.block k (by simp; omega) (fun e => ?_)).trans (HB0.out.block k hk))
    obtain ⟨cs, hc⟩ := own_block_cells HH1.out.o e.symm
    rw [HB0.out.block k hk] at hc
    exact hn cs hc
  · exact set_block HX6.out _
  · rw [List.length_append, blCells_snoc]
    exact own_setCell HO6.out (fun cs hc => by
      rw [HX6.out] at hc
      injection hc with hc
      injection hc with _ hc
      cases hc) _
end Go.Proofs.Ytpnegacfanbcfaa
