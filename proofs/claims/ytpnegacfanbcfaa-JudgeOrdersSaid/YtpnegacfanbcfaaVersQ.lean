/- judge.Versions: what its second and third loop carry. -/
import Derived.Test.YtpnegacfanbcfaaVersP
namespace Go.Proofs.Ytpnegacfanbcfaa
open Go.RowKit Go.Maps

theorem own_apart {w : World} {B B' e e' size size' n n' : Nat} {v v' : Value} {xs xs' : List Value} (h : w.ownsRow B e size v n xs) (h' : w.ownsRow B' e' size' v' n' xs') (hne : e ≠ e') : ∀ g, v.ownBlock = some g → v'.ownBlock ≠ some g := by
  intro g hg hg'
  obtain ⟨cs, hc⟩ := own_block_cells h hg
  obtain ⟨cs', hc'⟩ := own_block_cells h' hg'
  rw [hc] at hc'
  injection hc' with hc'
  injection hc' with _ hc'
  exact hne hc'

structure V2 (l : List Ev) (starts : List (List (Int × Int))) (lA : Option Addr) (lc : Nat) (w0 : World) (rv bv : Value) (j : Nat) (tv : Value) (wr : World) : Prop where
  x : wr.heap[w0.heap.size + 1]? = some (.cells #[.slice lA l.length lc, rv, tv, bv, .slice none 0 0] 98 (0, 0))
  r : wr.ownsRow w0.heap.size 4 1 rv l.length (rightCells l starts.length)
  t : ∃ tvs, wr.ownsRow w0.heap.size 100 1 tv j tvs ∧ ∀ (p : Nat) v, tvs[p]? = some v → ∃ bs, Tells wr w0.heap.size v bs (toldAt l starts p)
  z : wr.ownsRow w0.heap.size 4 1 bv starts.length (busyCells l starts.length)
  b : Below w0.heap.size w0 wr
section
variable {l : List Ev} {starts : List (List (Int × Int))} {lA : Option Addr} {lc : Nat} {rv bv tv : Value} {j : Nat} {w0 wr w' : World}
theorem V2.lt (h : V2 l starts lA lc w0 rv bv j tv wr) : w0.heap.size + 1 < wr.heap.size := (Array.getElem?_eq_some_iff.1 h.x).1
theorem V2.below (h : V2 l starts lA lc w0 rv bv j tv wr) (hb : Below wr.heap.size wr w') : V2 l starts lA lc w0 rv bv j tv w' := by
  obtain ⟨tvs, ht, hts⟩ := h.t
  exact ⟨(hb.block _ h.lt).trans h.x, own_below h.r hb, ⟨tvs, own_below ht hb, fun p v hp => let ⟨bs, hb'⟩ := hts p v hp; ⟨bs, hb'.below hb⟩⟩, own_below h.z hb, h.b.trans (hb.mono h.b.size)⟩
theorem Tells.base {B B' : Nat} {v : Value} {bs : List Nat} {acc : List Tab} (h : Tells wr B v bs acc) (hB : B' ≤ B) : Tells wr B' v bs acc :=
  ⟨h.len, own_base h.own hB, fun j b t h1 h2 => ⟨Nat.le_trans hB (h.ms j b t h1 h2).1, (h.ms j b t h1 h2).2⟩⟩
theorem Row.evEnd {A : Option Addr} {k : Nat} {e : Ev} (h : Row wr A (evCells l)) (hx : l[k]? = some e) : ∀ b off, A = some ⟨b, off, none⟩ → wr.cell? ⟨b, off + k * 13 + 2, none⟩ = some (.int .i64 e.end_) := by
  intro b off hA
  obtain ⟨b', off', hA', hc⟩ := h (k * 13 + 2) (.int .i64 e.end_) ((flatMap_get Ev.cells 13 Ev.cells_length l k e hx 2 (by omega)).trans rfl)
  rw [hA] at hA'
  simp only [Option.some.injEq, Addr.mk.injEq, and_true] at hA'
  obtain ⟨rfl, rfl⟩ := hA'
  rw [Nat.add_assoc]
  exact hc
theorem Tells.grown {B : Nat} {v v1 : Value} {bs : List Nat} {acc : List Tab} {B' n : Nat} {xs : List Value} (h : Tells wr B v bs acc) (ho : wr.ownsRow B' 100 1 v1 n xs) (hg : wr.grownBy w' v1.ownBlock) : Tells w' B v bs acc :=
  ⟨h.len, own_grown h.own hg (fun g hg' e => own_apart h.own ho (by decide) g hg' e), fun j b t h1 h2 => ⟨(h.ms j b t h1 h2).1, map_grown (h.ms j b t h1 h2).2 ho hg⟩⟩
theorem Tells.setCell {B H i : Nat} {v : Value} {bs : List Nat} {acc : List Tab} {cs : Array Value} (h : Tells wr B v bs acc) (hH : wr.heap[H]? = some (.cells cs 98 (0, 0))) (u : Value) : Tells (wr.setCell ⟨H, i, none⟩ u) B v bs acc :=
  ⟨h.len, own_setCell h.own (fun cs' hc => by rw [hH] at hc; cases hc) u, fun j b t h1 h2 => ⟨(h.ms j b t h1 h2).1, (h.ms j b t h1 h2).2.kept (Below.heap_setCell _ _ _ _ (fun e => by
    obtain ⟨es, c, hr⟩ := (h.ms j b t h1 h2).2.raw
    have e' : b = H := e
    rw [e', hH] at hr
    cases hr))⟩⟩
theorem V2.append {v tv2 : Value} {tvs : List Value} {bs : List Nat} (h : V2 l starts lA lc w0 rv bv j tv wr) (ht : wr.ownsRow w0.heap.size 100 1 tv j tvs) (hts : ∀ (p : Nat) v, tvs[p]? = some v → ∃ bs, Tells wr w0.heap.size v bs (toldAt l starts p))
    (hv : Tells wr w0.heap.size v bs (toldAt l starts j)) (hg : wr.grownBy w' tv.ownBlock) (ho : w'.ownsRow w0.heap.size 100 1 tv2 (j + 1) (tvs ++ [v])) :
    V2 l starts lA lc w0 rv bv (j + 1) tv2 (w'.setCell ⟨w0.heap.size + 1, 2, none⟩ tv2) := by
  have n98 : ∀ cs, wr.heap[w0.heap.size + 1]? ≠ some (.cells cs 100 (0, 0)) := fun cs hc => by rw [h.x] at hc; cases hc
  have hx := (hg.block _ h.lt (fun e => own_ne ht n98 e.symm)).trans h.x
  have n4 : ∀ cs, w'.heap[w0.heap.size + 1]? ≠ some (.cells cs 4 (0, 0)) := fun cs hc => by rw [hx] at hc; cases hc
  have n100 : ∀ cs, w'.heap[w0.heap.size + 1]? ≠ some (.cells cs 100 (0, 0)) := fun cs hc => by rw [hx] at hc; cases hc
  have hl : tvs.length = j := by have := ht.1; omega
  refine ⟨set_block hx _, own_setCell (own_grown h.r hg (fun g hg' e => own_apart h.r ht (by decide) g hg' e)) n4 _, ⟨_, own_setCell ho n100 _, fun p u hp => ?_⟩, own_setCell (own_grown h.z hg (fun g hg' e => own_apart h.z ht (by decide) g hg' e)) n4 _, ?_⟩
  · rcases Nat.lt_trichotomy p tvs.length with hp' | hp' | hp'
    · rw [List.getElem?_append_left hp'] at hp
      obtain ⟨bs', hb'⟩ := hts p u hp
      exact ⟨bs', (hb'.grown ht hg).setCell hx _⟩
    · subst hp'
      rw [List.getElem?_concat_length] at hp
      injection hp with hp
      subst hp
      rw [hl]
      exact ⟨bs, (hv.grown ht hg).setCell hx _⟩
    · rw [List.getElem?_eq_none (by simp; omega)] at hp
      cases hp
  · have := h.lt
    exact (h.b.grown hg (by omega) (fun k hk => (ht.lt k hk).1)).setCell (by show w0.heap.size ≤ w0.heap.size + 1; omega) _
theorem V2.env (h : V2 l starts lA lc w0 rv bv starts.length tv wr) : VEnv l starts w0.heap.size rv tv bv w0 wr ∧ HSt l w0.heap.size (w0.heap.size + 1) lA lc rv tv bv (.slice none 0 0) [] wr :=
  ⟨⟨rfl, h.b, h.r, h.t, h.z⟩, ⟨by omega, h.x, ⟨rfl, .inl ⟨rfl, rfl⟩⟩⟩⟩
theorem V1.two {rv : Value} (h : V1 l starts lA lc w0 l.length l.length rv wr) : V2 l starts lA lc w0 rv (.slice (some ⟨w0.heap.size, 0, none⟩) starts.length starts.length) 0 (.slice none 0 0) wr := by
  have h1 := h.o
  have h2 := h.y
  rw [List.take_length] at h1 h2
  exact ⟨h.x, own_base h1 (by omega), ⟨[], ⟨rfl, .inl ⟨rfl, rfl⟩⟩, fun p v hp => by simp at hp⟩, h2, h.b⟩
end
def V2Rel (l : List Ev) (starts : List (List (Int × Int))) (lA : Option Addr) (lc : Nat) (w0 : World) (rv bv : Value) (k : Nat) (i : Value) (wr : World) : Prop :=
  ∃ j : Nat, j ≤ starts.length ∧ i = .int .i64 j ∧ k = starts.length - j ∧ ∃ tv, V2 l starts lA lc w0 rv bv j tv wr
def V2End (l : List Ev) (starts : List (List (Int × Int))) (lA : Option Addr) (lc : Nat) (w0 : World) (rv bv : Value) (j : Nat) (wr : World) : Prop := ∃ tv, V2 l starts lA lc w0 rv bv j tv wr
def V3 (l : List Ev) (starts : List (List (Int × Int))) (lA : Option Addr) (lc : Nat) (w0 : World) (rv tv bv : Value) (outs : List Blm) (wr : World) : Prop :=
  VEnv l starts w0.heap.size rv tv bv w0 wr ∧ ∃ ov, HSt l w0.heap.size (w0.heap.size + 1) lA lc rv tv bv ov outs wr
def V3Rel (l : List Ev) (starts : List (List (Int × Int))) (lA : Option Addr) (lc : Nat) (w0 : World) (rv tv bv : Value) (k : Nat) (i : Value) (wr : World) : Prop :=
  ∃ j : Nat, j ≤ l.length ∧ i = .int .i64 j ∧ k = l.length - j ∧ V3 l starts lA lc w0 rv tv bv (allU l starts j) wr
def V4Rel (l : List Ev) (starts : List (List (Int × Int))) (lA : Option Addr) (lc : Nat) (w0 : World) (rv tv bv : Value) (i : Nat) (a : Ev) (k : Nat) (c : Value) (wr : World) : Prop :=
  ∃ j : Nat, j ≤ l.length ∧ c = .int .i64 j ∧ k = l.length - j ∧ V3 l starts lA lc w0 rv tv bv (allU l starts i ++ selfL l starts i a ++ besU l starts.length i a j) wr
/-- the argument's parts. -/
structure StartIn (starts : List (List (Int × Int))) (heads : List (Option Addr × Nat)) (sA : Option Addr) (w : World) : Prop where
  len : heads.length = starts.length
  row : Row w sA ((starts.zip heads).map fun p => .slice p.2.1 p.1.length p.2.2)
  parts : ∀ (k : Nat) s h, starts[k]? = some s → heads[k]? = some h → Row w h.1 (pairCells s)
def VersPost (l : List Ev) (starts : List (List (Int × Int))) (w : World) (e : Ending) (w' : World) : Prop :=
  if 1024 < l.length ∨ starts.length = 0 ∨ 64 < starts.length then e = .returned (.tuple #[.slice none 0 0, .int .i64 201]) ∧ w = w'
  else ∃ v, e = .returned (.tuple #[v, .int .i64 0]) ∧ w'.ownsRow w.heap.size 55 3 v (versionsL starts l).length (blCells (versionsL starts l)) ∧ Below w.heap.size w w'
end Go.Proofs.Ytpnegacfanbcfaa
