/- append within the room there is; clear of a slice's end. No condition but the model's bounds. -/
import Derived.Test.YteeefedoffplmaaGreatEpoch2
import Derived.Laws.CopyRow
namespace Go.Proofs.YteeefedoffplmaaGreat
open Go.RowKit

theorem wpList_append_room_is {P : Program} {t e size bytes : Nat} {w : World} {ops : Array Oper} {rest : List Oper} {o : Oper} {a : Act} {Q : Exit → Act → World → Prop} (hgd : o.guard = none) (s x : Operand)
    (ho : o.op = .call { callee := .builtin .append, args := #[s, x], argTypes := #[t, t] }) (E : ElemOk P t e size bytes) {g n cap : Nat} {cur : Array Value} (hs : a.eval s = .slice (some ⟨g, 0, none⟩) n cap) (hg : w.heap[g]? = some (.cells cur e (0, 0)))
    (A : Option Addr) (m c : Nat) (news : List Value) (hx : a.eval x = .slice A m c) (hr : Row w A news) (hl : news.length = m * size) (h1 : ∀ u ∈ news, u.oneCell' = true) (hroom : n + m ≤ cap) (hfit : n * size + m * size ≤ cur.size) (hA : A = none → m = 0)
    (h : ∀ w', w'.heap[g]? = some (.cells (cur.toList.take (n * size) ++ news ++ cur.toList.drop (n * size + m * size)).toArray e (0, 0)) → w.grownBy w' (some g) → w'.heap.size = w.heap.size → wpList P ops Q rest (a.put o.dst (.slice (some ⟨g, 0, none⟩) (n + m) cap)) w') :
    wpList P ops Q (o :: rest) a w := by
  refine wpList_plain hgd fun K hK => ?_
  obtain ⟨ht, hsz, i, z, hi, hz, h2, h3, h4⟩ := E
  cases A with
  | none =>
    obtain rfl := hA rfl
    have hn : news = [] := List.eq_nil_of_length_eq_zero (by simpa using hl)
    subst hn
    have hrun : (Builtin.append_ #[t, t] o.type #[.slice (some ⟨g, 0, none⟩) n cap, .slice none 0 c]).run P w = .ok (.slice (some ⟨g, 0, none⟩) n cap) w := by
      simp [Builtin.append_, run_underlying ht, sizeOf, typeInfo, hi, Builtin.lenOf, Builtin.firstCells, show n ≤ cap by omega, storeCells]
    unfold Oper.wp execOp
    simp only [ho, resolve, invoke, builtin, Sem.run_bind, Sem.run_pure, Result.andThen_ok, List.map_toArray, List.map_cons, List.map_nil, hs, hx, hrun]
    refine hK _ _ (h w ?_ (World.grownBy.refl w _) rfl)
    rw [hg]
    simp
  | some ad =>
    have hcells : ∀ j u, news[j]? = some u → w.cell? (ad.add j) = some u := by
      intro j u hu
      obtain ⟨b, off, e1, hc⟩ := hr j u hu
      injection e1 with e1
      rw [e1, addr_add]
      exact hc
    have hrun := run_append_room (P := P) w t o.type e i ht hi g n cap cur hg ad m c news (by rw [h2]; exact hl) hcells h1 hroom (by rw [h2, hl]; exact hfit)
    unfold Oper.wp execOp
    simp only [ho, resolve, invoke, builtin, Sem.run_bind, Sem.run_pure, Result.andThen_ok, List.map_toArray, List.map_cons, List.map_nil, hs, hx, hrun]
    refine hK _ _ (h _ ?_ ⟨rfl, rfl, rfl, by simp, fun k _ hk => setRow_other w g k _ (fun e => hk (by rw [e]))⟩ (by simp))
    rw [setRow_heap w g cur _ e _ hg, h2, hl]

theorem step_append_room_is {P : Program} {t e size bytes : Nat} {w : World} {ops : Array Oper} {o : Oper} {a : Act} {K : Act → World → Prop} {Q : Exit → Act → World → Prop} {F : Prop} (hgd : o.guard = none) (s x : Operand)
    (ho : o.op = .call { callee := .builtin .append, args := #[s, x], argTypes := #[t, t] }) (E : ElemOk P t e size bytes) {g n cap : Nat} {cur : Array Value} (hs : a.eval s = .slice (some ⟨g, 0, none⟩) n cap) (hg : w.heap[g]? = some (.cells cur e (0, 0)))
    (A : Option Addr) (m c : Nat) (news : List Value) (hx : a.eval x = .slice A m c) (hr : Row w A news) (hl : news.length = m * size) (h1 : ∀ u ∈ news, u.oneCell' = true) (hroom : n + m ≤ cap) (hfit : n * size + m * size ≤ cur.size) (hA : A = none → m = 0)
    (h : ∀ w', w'.heap[g]? = some (.cells (cur.toList.take (n * size) ++ news ++ cur.toList.drop (n * size + m * size)).toArray e (0, 0)) → w.grownBy w' (some g) → w'.heap.size = w.heap.size → K (a.put o.dst (.slice (some ⟨g, 0, none⟩) (n + m) cap)) w') :
    if Region.wanted o (yielded ops a.tmps) = true then Oper.wp P o a w K Q else F := by
  have hw : Region.wanted o (yielded ops a.tmps) = true := by simp [Region.wanted, hgd]
  rw [if_pos hw]
  obtain ⟨ht, hsz, i, z, hi, hz, h2, h3, h4⟩ := E
  cases A with
  | none =>
    obtain rfl := hA rfl
    have hn : news = [] := List.eq_nil_of_length_eq_zero (by simpa using hl)
    subst hn
    have hrun : (Builtin.append_ #[t, t] o.type #[.slice (some ⟨g, 0, none⟩) n cap, .slice none 0 c]).run P w = .ok (.slice (some ⟨g, 0, none⟩) n cap) w := by
      simp [Builtin.append_, run_underlying ht, sizeOf, typeInfo, hi, Builtin.lenOf, Builtin.firstCells, show n ≤ cap by omega, storeCells]
    unfold Oper.wp execOp
    simp only [ho, resolve, invoke, builtin, Sem.run_bind, Sem.run_pure, Result.andThen_ok, List.map_toArray, List.map_cons, List.map_nil, hs, hx, hrun]
    refine h w ?_ (World.grownBy.refl w _) rfl
    rw [hg]
    simp
  | some ad =>
    have hcells : ∀ j u, news[j]? = some u → w.cell? (ad.add j) = some u := by
      intro j u hu
      obtain ⟨b, off, e1, hc⟩ := hr j u hu
      injection e1 with e1
      rw [e1, addr_add]
      exact hc
    have hrun := run_append_room (P := P) w t o.type e i ht hi g n cap cur hg ad m c news (by rw [h2]; exact hl) hcells h1 hroom (by rw [h2, hl]; exact hfit)
    unfold Oper.wp execOp
    simp only [ho, resolve, invoke, builtin, Sem.run_bind, Sem.run_pure, Result.andThen_ok, List.map_toArray, List.map_cons, List.map_nil, hs, hx, hrun]
    refine h _ ?_ ⟨rfl, rfl, rfl, by simp, fun k _ hk => setRow_other w g k _ (fun e => hk (by rw [e]))⟩ (by simp)
    rw [setRow_heap w g cur _ e _ hg, h2, hl]

/-- clear of part of a row: the row's front stays. -/
theorem run_clear {P : Program} {t e size bytes : Nat} {w : World} (E : ElemOk P t e size bytes) {z : Value} (hz : (zeroValue e).run P w = .ok z w) (hzs : z.cells.size = size) (hz1 : ∀ v ∈ z.cells.toList, v.oneCell' = true)
    {g off m c : Nat} {cur : Array Value} (hg : w.heap[g]? = some (.cells cur e (0, 0))) (hfit : off + m * size ≤ cur.size) (ty : TypeId) :
    ∃ w', (Builtin.clear_ #[t] ty #[.slice (some ⟨g, off, none⟩) m c]).run P w = .ok (.tuple #[]) w' ∧ (∃ cur' : Array Value, w'.heap[g]? = some (.cells cur' e (0, 0)) ∧ cur'.size = cur.size ∧ cur'.toList.take off = cur.toList.take off) ∧ w.grownBy w' (some g) := by
  obtain ⟨ht, hsz, i, z', hi, hz', h2, h3, h4⟩ := E
  have hlt : g < w.heap.size := (Array.getElem?_eq_some_iff.1 hg).1
  cases m with
  | zero =>
    refine ⟨w, ?_, ⟨cur, hg, rfl, rfl⟩, World.grownBy.refl w _⟩
    simp [Builtin.clear_, run_underlying ht]
  | succ m =>
    have hlen : (Builtin.zeroCells z.cells (m + 1)).toList.length = (m + 1) * size := by rw [Array.length_toList, size_zeroCells, hzs]
    have hone : ∀ v ∈ (Builtin.zeroCells z.cells (m + 1)).toList, v.oneCell' = true := by
      intro v hv
      simp [Builtin.zeroCells] at hv
      obtain ⟨k, hk, rfl⟩ := hv
      have hpos : 0 < z.cells.size := by omega
      have hlt2 : k % z.cells.size < z.cells.size := Nat.mod_lt _ hpos
      rw [getElem!_pos z.cells _ hlt2]
      exact hz1 _ (by simp)
    have hst := run_storeCells_at P g off e (Builtin.zeroCells z.cells (m + 1)).toList 0 cur w hg (by rw [hlen]; omega) hone
    simp only [Nat.add_zero, hlen] at hst
    refine ⟨w.setRow g (cur.toList.take off ++ (Builtin.zeroCells z.cells (m + 1)).toList ++ cur.toList.drop (off + (m + 1) * size)).toArray, by simp [Builtin.clear_, run_underlying ht, hz, hst], ⟨(cur.toList.take off ++ (Builtin.zeroCells z.cells (m + 1)).toList ++ cur.toList.drop (off + (m + 1) * size)).toArray, ?_, ?_, ?_⟩, ?_⟩
    · simp only [World.setRow]
      rw [Array.getElem?_modify]
      simp [hg]
    · simp only [List.size_toArray, List.length_append, List.length_take, List.length_drop, Array.length_toList]
      rw [size_zeroCells, hzs]
      omega
    · simp only [List.append_assoc]
      rw [List.take_append_of_le_length (by simp; omega), List.take_take]
      simp
    · refine ⟨rfl, rfl, rfl, by simp [World.setRow], fun k hk hne => ?_⟩
      simp only [World.setRow]
      rw [Array.getElem?_modify, if_neg (fun e => hne (by rw [e]))]
theorem wpList_clear_is {P : Program} {t e size bytes : Nat} {w : World} {ops : Array Oper} {rest : List Oper} {o : Oper} {a : Act} {Q : Exit → Act → World → Prop} (hgd : o.guard = none) (x : Operand)
    (ho : o.op = .call { callee := .builtin .clear, args := #[x], argTypes := #[t] }) (E : ElemOk P t e size bytes) {z : Value} (hz : (zeroValue e).run P w = .ok z w) (hzs : z.cells.size = size) (hz1 : ∀ v ∈ z.cells.toList, v.oneCell' = true)
    {g off m c : Nat} {cur : Array Value} (hx : a.eval x = .slice (some ⟨g, off, none⟩) m c) (hg : w.heap[g]? = some (.cells cur e (0, 0))) (hfit : off + m * size ≤ cur.size)
    (h : ∀ w', (∃ cur' : Array Value, w'.heap[g]? = some (.cells cur' e (0, 0)) ∧ cur'.size = cur.size ∧ cur'.toList.take off = cur.toList.take off) → w.grownBy w' (some g) → wpList P ops Q rest (a.put o.dst (.tuple #[])) w') :
    wpList P ops Q (o :: rest) a w := by
  refine wpList_plain hgd fun K hK => ?_
  obtain ⟨w', hrun, h1, h2⟩ := run_clear E hz hzs hz1 hg hfit o.type (c := c)
  unfold Oper.wp execOp
  simp only [ho, resolve, invoke, builtin, Sem.run_bind, Sem.run_pure, Result.andThen_ok, List.map_toArray, List.map_cons, List.map_nil, hx, hrun]
  exact hK _ _ (h w' h1 h2)
end Go.Proofs.YteeefedoffplmaaGreat
