/- append onto a row of the call's own, the source nil, empty or not; the types' rows of the table. No condition but the model's bounds on sizes. -/
import Derived.Test.YteeefedoffplmaaGreatTake
import Derived.Maps.AppendAt
import Derived.RegionTactic
import Derived.OwnWalk
namespace Go.Proofs.YteeefedoffplmaaGreat
open Go.RowKit

/-- the slice value '.slice A _ _' leads to the cells xs. -/
def Row (w : World) (A : Option Addr) (xs : List Value) : Prop :=
  ∀ j u, xs[j]? = some u → ∃ b off, A = some ⟨b, off, none⟩ ∧ w.cell? ⟨b, off + j, none⟩ = some u
theorem cell_lt {w : World} {a : Addr} {v : Value} (h : w.cell? a = some v) : a.block < w.heap.size := block_lt_of_cell h
theorem Row.keep {w w' : World} {A : Option Addr} {xs : List Value} (h : Row w A xs) (hk : ∀ a v, w.cell? a = some v → w'.cell? a = some v) : Row w' A xs :=
  fun j u hu => let ⟨b, off, e, hc⟩ := h j u hu; ⟨b, off, e, hk _ _ hc⟩
theorem Row.below {w w' : World} {A : Option Addr} {xs : List Value} (h : Row w A xs) (hb : Below w.heap.size w w') : Row w' A xs := h.keep (fun _ _ h => cell_below hb h)
theorem Row.drewN {w : World} {A : Option Addr} {xs : List Value} (h : Row w A xs) (n : Nat) : Row (w.drewN n) A xs := h
theorem Row.alloc {w : World} {A : Option Addr} {xs : List Value} (h : Row w A xs) (o : Obj) : Row (w.alloc o) A xs := h.below ((Below.refl _ _).alloc (Nat.le_refl _) _)
theorem Row.nil (w : World) (A : Option Addr) : Row w A [] := fun j u hu => by simp at hu
/-- slice type t has elements of type e, of so many cells and bytes. -/
def ElemOk (P : Program) (t e size bytes : Nat) : Prop :=
  P.underlying t = some (.slice e) ∧ 0 < size ∧ ∃ i z, P.info? e = some i ∧ i.zero = some z ∧ i.size = size ∧ i.bytes = bytes ∧ z.cells.size = size
theorem elemOk_of {P : Program} {t e size bytes : Nat} (ht : P.underlying t = some (.slice e)) (hs : 0 < size) (z : Value) (hi : (P.info? e).map (fun i => (i.zero, i.size, i.bytes)) = some (some z, size, bytes)) (hz : z.cells.size = size) : ElemOk P t e size bytes := by
  cases hq : P.info? e with
  | none => simp [hq] at hi
  | some i =>
    simp [hq] at hi
    exact ⟨ht, hs, i, z, hq, hi.1, hi.2.1, hi.2.2, hz⟩

section
variable {P : Program} {w : World} {base t e size bytes : Nat} {v : Value} {n : Nat} {xs : List Value}

theorem append_nil_run (E : ElemOk P t e size bytes) (hown : w.ownsRow base e size v n xs) (ty : TypeId) (c : Nat) : (Builtin.append_ #[t, t] ty #[v, .slice none 0 c]).run P w = .ok v w := by
  obtain ⟨ht, _, i, z, hi, _⟩ := E
  rcases hown.2 with ⟨rfl, rfl⟩ | ⟨g, cap, cur, rfl, _, _, hnc, _⟩
  · simp [Builtin.append_, run_underlying ht, sizeOf, typeInfo, hi, Builtin.lenOf, Builtin.firstCells]
  · simp [Builtin.append_, run_underlying ht, sizeOf, typeInfo, hi, Builtin.lenOf, Builtin.firstCells, hnc, storeCells]

theorem append_run (E : ElemOk P t e size bytes) (hown : w.ownsRow base e size v n xs) (ty : TypeId) {A : Option Addr} {m c : Nat} {news : List Value} (hr : Row w A news) (hl : news.length = m * size) (h1 : ∀ u ∈ news, u.oneCell' = true)
    (h63 : n + m ≤ maxLen) (hbytes : (n + m) * bytes ≤ 140737488355328) (hbase : base ≤ w.heap.size) (hA : A = none → m = 0) :
    ∃ v' w', (Builtin.append_ #[t, t] ty #[v, .slice A m c]).run P w = .ok v' w' ∧ w'.ownsRow base e size v' (n + m) (xs ++ news) ∧ w.grownBy w' v.ownBlock ∧
      (v'.ownBlock = v.ownBlock ∨ v'.ownBlock = some w.heap.size) := by
  have E' := E
  obtain ⟨ht, hs, i, z, hi, hz, h2, h3, h4⟩ := E'
  cases A with
  | none =>
    obtain rfl := hA rfl
    have hn : news = [] := List.eq_nil_of_length_eq_zero (by simpa using hl)
    subst hn
    exact ⟨v, w, append_nil_run E hown ty c, by simpa using hown, World.grownBy.refl w _, .inl rfl⟩
  | some ad =>
    have hcells : ∀ j u, news[j]? = some u → w.cell? (ad.add j) = some u := by
      intro j u hu
      obtain ⟨b, off, e1, hc⟩ := hr j u hu
      injection e1 with e1
      rw [e1, addr_add]
      exact hc
    obtain ⟨v', w', hrun, g2, g3, _, g5⟩ := run_append_own_at (P := P) w base t ty e i z size bytes ht hi hz h2 h3 h4 hs v n xs hown ad m c news hl hcells h1 h63 hbytes hbase
    exact ⟨v', w', hrun, g2, g3, g5⟩

theorem wp_append_is {o : Oper} {a : Act} {K : Act → World → Prop} {Q : Exit → Act → World → Prop} (s x : Operand)
    (ho : o.op = .call { callee := .builtin .append, args := #[s, x], argTypes := #[t, t] }) (E : ElemOk P t e size bytes) (hs : a.eval s = v) (hown : w.ownsRow base e size v n xs)
    (A : Option Addr) (m c : Nat) (news : List Value) (hx : a.eval x = .slice A m c) (hr : Row w A news) (hl : news.length = m * size) (h1 : ∀ u ∈ news, u.oneCell' = true)
    (h63 : n + m ≤ maxLen) (hbytes : (n + m) * bytes ≤ 140737488355328) (hbase : base ≤ w.heap.size) (hA : A = none → m = 0)
    (h : ∀ v' w', w'.ownsRow base e size v' (n + m) (xs ++ news) → w.grownBy w' v.ownBlock → (v'.ownBlock = v.ownBlock ∨ v'.ownBlock = some w.heap.size) → K (a.put o.dst v') w') : o.wp P a w K Q := by
  obtain ⟨v', w', hrun, h2, h3, h4⟩ := append_run E hown o.type (c := c) hr hl h1 h63 hbytes hbase hA
  unfold Oper.wp execOp
  simp only [ho, resolve, invoke, builtin, Sem.run_bind, Sem.run_pure, Result.andThen_ok, List.map_toArray, List.map_cons, List.map_nil, hs, hx, hrun]
  exact h v' w' h2 h3 h4

theorem wpList_append_is {ops : Array Oper} {rest : List Oper} {o : Oper} {a : Act} {Q : Exit → Act → World → Prop} (hgd : o.guard = none) (s x : Operand)
    (ho : o.op = .call { callee := .builtin .append, args := #[s, x], argTypes := #[t, t] }) (E : ElemOk P t e size bytes) (hs : a.eval s = v) (hown : w.ownsRow base e size v n xs)
    (A : Option Addr) (m c : Nat) (news : List Value) (hx : a.eval x = .slice A m c) (hr : Row w A news) (hl : news.length = m * size) (h1 : ∀ u ∈ news, u.oneCell' = true)
    (h63 : n + m ≤ maxLen) (hbytes : (n + m) * bytes ≤ 140737488355328) (hbase : base ≤ w.heap.size) (hA : A = none → m = 0)
    (h : ∀ v' w', w'.ownsRow base e size v' (n + m) (xs ++ news) → w.grownBy w' v.ownBlock → (v'.ownBlock = v.ownBlock ∨ v'.ownBlock = some w.heap.size) → wpList P ops Q rest (a.put o.dst v') w') : wpList P ops Q (o :: rest) a w :=
  wpList_plain hgd fun _ hK => wp_append_is s x ho E hs hown A m c news hx hr hl h1 h63 hbytes hbase hA fun v' w' h2 h3 h4 => hK _ _ (h v' w' h2 h3 h4)

theorem step_append_is {ops : Array Oper} {o : Oper} {a : Act} {K : Act → World → Prop} {Q : Exit → Act → World → Prop} {F : Prop} (hgd : o.guard = none) (s x : Operand)
    (ho : o.op = .call { callee := .builtin .append, args := #[s, x], argTypes := #[t, t] }) (E : ElemOk P t e size bytes) (hs : a.eval s = v) (hown : w.ownsRow base e size v n xs)
    (A : Option Addr) (m c : Nat) (news : List Value) (hx : a.eval x = .slice A m c) (hr : Row w A news) (hl : news.length = m * size) (h1 : ∀ u ∈ news, u.oneCell' = true)
    (h63 : n + m ≤ maxLen) (hbytes : (n + m) * bytes ≤ 140737488355328) (hbase : base ≤ w.heap.size) (hA : A = none → m = 0)
    (h : ∀ v' w', w'.ownsRow base e size v' (n + m) (xs ++ news) → w.grownBy w' v.ownBlock → (v'.ownBlock = v.ownBlock ∨ v'.ownBlock = some w.heap.size) → K (a.put o.dst v') w') :
    if Region.wanted o (yielded ops a.tmps) = true then Oper.wp P o a w K Q else F := by
  have hw : Region.wanted o (yielded ops a.tmps) = true := by simp [Region.wanted, hgd]
  rw [if_pos hw]
  exact wp_append_is s x ho E hs hown A m c news hx hr hl h1 h63 hbytes hbase hA h

/-- what a row of the call's own reads as. -/
theorem row_of_own (h : w.ownsRow base e size v n xs) : ∃ A c, v = .slice A n c ∧ Row w A xs ∧ (A = none → n = 0) := by
  rcases h.2 with ⟨rfl, rfl⟩ | ⟨g, cap, cur, rfl, _, hg, hnc, _, hs, ht⟩
  · refine ⟨none, 0, rfl, ?_, fun _ => rfl⟩
    have : xs = [] := List.eq_nil_of_length_eq_zero (by simpa using h.1)
    subst this
    exact Row.nil _ _
  · refine ⟨some ⟨g, 0, none⟩, cap, rfl, fun j u hu => ⟨g, 0, rfl, ?_⟩, fun e => by cases e⟩
    have := h.cells (g := g) rfl j u hu
    rwa [addr_add] at this
theorem own_grown {w' : World} {row : Option Nat} (h : w.ownsRow base e size v n xs) (hg : w.grownBy w' row) (hne : ∀ g, v.ownBlock = some g → row ≠ some g) : w'.ownsRow base e size v n xs :=
  h.kept hg (by
    cases hv : v.ownBlock with
    | none => exact .inl rfl
    | some g => exact .inr (fun e => hne g hv e.symm))
theorem own_below {w' : World} (h : w.ownsRow base e size v n xs) (hb : Below w.heap.size w w') : w'.ownsRow base e size v n xs :=
  own_grown (row := none) h ⟨hb.os, hb.tape, hb.output, hb.size, fun k hk _ => hb.block k hk⟩ (fun _ _ => by simp)
theorem own_base {b' : Nat} (h : w.ownsRow base e size v n xs) (hb : b' ≤ base) : w.ownsRow b' e size v n xs :=
  ⟨h.1, h.2.imp id (fun ⟨g, cap, cur, e, hg, r⟩ => ⟨g, cap, cur, e, Nat.le_trans hb hg, r⟩)⟩
theorem Only.grown {X : List Nat} {a b c : World} (h : Only X a b) {row : Option Nat} (hg : b.grownBy c row) (hr : ∀ k, row = some k → a.heap.size ≤ k ∨ k ∈ X) : Only X a c :=
  ⟨hg.os.trans h.os, hg.tape.trans h.tape, hg.output.trans h.output, Nat.le_trans h.size hg.size, fun k hk hn => (hg.block k (Nat.lt_of_lt_of_le hk h.size) (fun e => by
    rcases hr k e.symm with h1 | h1
    · omega
    · exact hn h1)).trans (h.block k hk hn)⟩
/-- a row of the call's own behind a call that leaves all but the blocks of X. -/
theorem own_only {w w' : World} {base e size : Nat} {v : Value} {n : Nat} {xs : List Value} {X : List Nat} (h : w.ownsRow base e size v n xs) (ho : Only X w w') (hx : ∀ k, v.ownBlock = some k → k ∉ X) : w'.ownsRow base e size v n xs := by
  rcases h.2 with ⟨rfl, rfl⟩ | ⟨g, cap, cur, rfl, r⟩
  · exact ⟨h.1, .inl ⟨rfl, rfl⟩⟩
  · refine ⟨h.1, .inr ⟨g, cap, cur, rfl, r.1, ?_, r.2.2⟩⟩
    rw [ho.block g (Array.getElem?_eq_some_iff.1 r.2.1).1 (hx g rfl)]
    exact r.2.1
end
end Go.Proofs.YteeefedoffplmaaGreat
