/- What the search's memory is, and that it stays so. -/
import Derived.Test.YtpnegacfanbcfaaSt
import Derived.Test.YtpnegacfanbcfaaClone
import Derived.Deep.WholeRow
import Derived.Laws.Tables
namespace Go.Proofs.Ytpnegacfanbcfaa
open Go.RowKit Go.Maps

structure Deed.Ok (d : Deed) : Prop where
  begin_ : inI64 d.begin_
  end_ : inI64 d.end_
  kind : inI64 d.kind
  a : inI64 d.a
  b : inI64 d.b
  c : inI64 d.c
  n : inI64 d.n

theorem doesNext_fit {d : Deed} (h : d.Ok) {v : Int} (hv : inI64 v) : inI64 (doesNext d v) := by
  obtain ⟨_, _, _, _, hb, hc, _⟩ := h
  unfold doesNext
  have hw : inI64 (wrap64 (v + d.b)) := by
    have := wrap64_wf (v + d.b)
    simp only [Lit.wf, Bool.and_eq_true, decide_eq_true_eq] at this
    exact this
  unfold inI64 at *
  grind

def ints (l : List Nat) : List Value := l.map fun (i : Nat) => .int .i64 (i : Int)
theorem ints_oneCell (l : List Nat) : ∀ u ∈ ints l, u.oneCell' = true := by
  intro u hu
  obtain ⟨x, _, rfl⟩ := List.mem_map.1 hu
  rfl

/-- the search's memory: its fields, the deeds, their cells' numbers, and a map of states from which there is no order. -/
structure Env (l : List Deed) (ci : List Nat) (ended X M : Nat) (lA cA : Option Addr) (lc cc : Nat) (w : World) : Prop where
  x : w.heap[X]? = some (.cells #[.slice lA l.length lc, .slice cA ci.length cc, .int .u64 ended, .map (some M)] 68 (0, 0))
  rl : Row w lA (deedCells l)
  rc : Row w cA (ints ci)
  m : ∃ f, MapIs Try.prog 71 St.val w M f ∧ ∀ s v, f s = some v → v = .agg #[] ∧ least l ci ended s = none

section
variable {l : List Deed} {ci : List Nat} {ended X M : Nat} {lA cA : Option Addr} {lc cc : Nat} {w w' : World}
theorem Env.raw (h : Env l ci ended X M lA cA lc cc w) : ∃ es c, w.heap[M]? = some (.map es c) := let ⟨_, hm, _⟩ := h.m; hm.raw
theorem Env.ne (h : Env l ci ended X M lA cA lc cc w) : X ≠ M := by
  obtain ⟨es, c, hM⟩ := h.raw
  rintro rfl
  rw [h.x] at hM
  cases hM
theorem Env.ltX (h : Env l ci ended X M lA cA lc cc w) : X < w.heap.size := (Array.getElem?_eq_some_iff.1 h.x).1
theorem Env.ltM (h : Env l ci ended X M lA cA lc cc w) : M < w.heap.size := let ⟨_, _, hM⟩ := h.raw; (Array.getElem?_eq_some_iff.1 hM).1
theorem Env.grown (h : Env l ci ended X M lA cA lc cc w) (hg : w.grownBy w' (some M)) (hm : ∃ f, MapIs Try.prog 71 St.val w' M f ∧ ∀ s v, f s = some v → v = .agg #[] ∧ least l ci ended s = none) : Env l ci ended X M lA cA lc cc w' := by
  obtain ⟨es, c, hM⟩ := h.raw
  refine ⟨?_, h.rl.keep (cell_grown_map hM hg), h.rc.keep (cell_grown_map hM hg), hm⟩
  rw [hg.block X h.ltX (fun e => h.ne (by injection e))]
  exact h.x
theorem grownBy_of_below {row : Option Nat} (hb : Below w.heap.size w w') : w.grownBy w' row := ⟨hb.os, hb.tape, hb.output, hb.size, fun k hk _ => hb.block k hk⟩
theorem Env.below (h : Env l ci ended X M lA cA lc cc w) (hb : Below w.heap.size w w') : Env l ci ended X M lA cA lc cc w' :=
  h.grown (grownBy_of_below hb) (let ⟨f, h1, h2⟩ := h.m; ⟨f, h1.below hb, h2⟩)
theorem Env.drewN (h : Env l ci ended X M lA cA lc cc w) (n : Nat) : Env l ci ended X M lA cA lc cc (w.drewN n) := ⟨h.x, h.rl, h.rc, h.m⟩
theorem Env.alloc (h : Env l ci ended X M lA cA lc cc w) (o : Obj) : Env l ci ended X M lA cA lc cc (w.alloc o) := h.below ((Below.refl _ _).alloc (Nat.le_refl _) _)
theorem Env.cells (h : Env l ci ended X M lA cA lc cc w) : w.cell? ⟨X, 0, none⟩ = some (.slice lA l.length lc) ∧ w.cell? ⟨X, 1, none⟩ = some (.slice cA ci.length cc) ∧ w.cell? ⟨X, 2, none⟩ = some (.int .u64 ended) ∧ w.cell? ⟨X, 3, none⟩ = some (.map (some M)) := by
  have hx := h.x
  refine ⟨?_, ?_, ?_, ?_⟩ <;> (rw [cell_of_row w X _ _ _ _ hx]; rfl)
end

theorem load_block {w : World} {b : Nat} {cs : Array Value} {t : TypeId} {fr : Nat × Nat} (h : w.heap[b]? = some (.cells cs t fr)) {n : Nat} (hn : cs.size = n) : (loadCellsFrom ⟨b, 0, none⟩ 0 n #[]).run Try.prog w = .ok cs w := by
  subst hn
  have := run_loadCells_list (P := Try.prog) w ⟨b, 0, none⟩ cs.toList (fun j v hv => by
    rw [addr_add, Nat.zero_add, cell_of_row _ _ j cs t fr h]
    simpa using hv)
  simpa [loadCells] using this
theorem load_deed {w : World} {A : Option Addr} {l : List Deed} (h : Row w A (deedCells l)) {k : Nat} {d : Deed} (hd : l[k]? = some d) :
    ∃ b off, A = some ⟨b, off, none⟩ ∧ (loadCellsFrom ⟨b, off + k * 8, none⟩ 0 8 #[]).run Try.prog w = .ok #[.int .i64 d.begin_, .int .i64 d.end_, .int .i64 d.kind, .int .i64 d.a, .int .i64 d.b, .int .i64 d.c, .int .i64 d.n, .bool d.ok] w := by
  obtain ⟨b, off, hA, h0, h1, h2, h3, h4, h5, h6, h7⟩ := h.deed hd
  refine ⟨b, off, hA, ?_⟩
  have := run_loadCells_list (P := Try.prog) w ⟨b, off + k * 8, none⟩ d.cells (fun j v hv => by
    rw [addr_add]
    have hj : j < 8 := by have := (List.getElem?_eq_some_iff.1 hv).1; simpa [Deed.cells] using this
    match j, hj with
    | 0, _ => simp [Deed.cells] at hv; subst hv; exact h0
    | 1, _ => simp [Deed.cells] at hv; subst hv; exact h1
    | 2, _ => simp [Deed.cells] at hv; subst hv; exact h2
    | 3, _ => simp [Deed.cells] at hv; subst hv; exact h3
    | 4, _ => simp [Deed.cells] at hv; subst hv; exact h4
    | 5, _ => simp [Deed.cells] at hv; subst hv; exact h5
    | 6, _ => simp [Deed.cells] at hv; subst hv; exact h6
    | 7, _ => simp [Deed.cells] at hv; subst hv; exact h7)
  simpa [loadCells, Deed.cells] using this

theorem wpList_alloc_is {P : Program} {ops : Array Oper} {rest : List Oper} {o : Oper} {a : Act} {w : World} {Q : Exit → Act → World → Prop} (hgd : o.guard = none) (ty : TypeId) (ho : o.op = .alloc ty) (z : Value) (hz : ∀ w, (zeroValue ty).run P w = .ok z w)
    (h : wpList P ops Q rest (a.put o.dst (.pointer (some ⟨w.heap.size, 0, none⟩))) (w.alloc (.cells z.cells ty))) : wpList P ops Q (o :: rest) a w :=
  wpList_plain hgd fun _ hK => by
    unfold Oper.wp execOp
    simp only [ho, Instr.alloc, newVar, newRow, newObj, Sem.run_bind, Sem.run_pure, hz, Result.andThen_ok]
    exact hK _ _ h
end Go.Proofs.Ytpnegacfanbcfaa
