/- What the judge's arguments read as; judge.Versions at them. Lengths are at most 1048576. -/
import Derived.Test.YtpnegacfanbcfaaLight
import Derived.Test.YtpnegacfanbcfaaKnown
import Derived.Test.YtpnegacfanbcfaaVV
import Derived.Test.YtpnegacfanbcfaaStay
import Derived.Test.YtpnegacfanbcfaaCopy
namespace Go.Proofs.Ytpnegacfanbcfaa
open Go.RowKit Go.Maps

theorem sum_mem_le {α : Type} (f : α → Nat) {l : List α} {x : α} (h : x ∈ l) : f x ≤ (l.map f).sum := by
  induction l with
  | nil => cases h
  | cons y l ih =>
    rw [List.map_cons, List.sum_cons]
    rcases List.mem_cons.1 h with rfl | h
    · omega
    · have := ih h
      omega
theorem light_start {starts : List (List (Int × Int))} {l : List Ev} (h : lightB starts l = true) (hs : starts.length ≤ 64) : ∀ s ∈ starts, s.length ≤ 3000 := by
  intro s hs'
  unfold lightB lightN sumS at h
  rw [decide_eq_true_eq, List.take_of_length_le (i := 1000) (by omega)] at h
  have := sum_mem_le List.length hs'
  omega
theorem light_small {starts : List (List (Int × Int))} {l : List Ev} (h : lightB starts l = true) : ∀ e ∈ l.take 2000, e.Small := by
  intro e he
  unfold lightB lightN sumE at h
  rw [decide_eq_true_eq] at h
  have := sum_mem_le (fun e : Ev => e.nums.length + e.pairs.length) he
  exact ⟨by omega, by omega⟩
theorem Row.front {w : World} {A : Option Addr} {xs ys : List Value} (h : Row w A (xs ++ ys)) : Row w A xs := fun j u hu => h j u (by
  have hj := (List.getElem?_eq_some_iff.1 hu).1
  rw [List.getElem?_append_left hj]
  exact hu)
theorem evCells_take (l : List Ev) (n : Nat) : evCells l = evCells (l.take n) ++ evCells (l.drop n) := by
  unfold evCells
  rw [← List.flatMap_append, List.take_append_drop]
/-- what the arguments read as. -/
structure LIn (l : List Ev) (starts : List (List (Int × Int))) (heads : List (Option Addr × Nat)) (lA sA : Option Addr) (w : World) : Prop where
  row : Row w lA (evCells l)
  inn : ∀ e ∈ l, e.In w
  ok : ∀ e ∈ l, e.Ok
  st : StartIn starts heads sA w
  sk : ∀ s ∈ starts, ∀ p ∈ s, inI64 p.1
  l1 : l.length ≤ 1048576
  l2 : starts.length ≤ 1048576
  l3 : ∀ s ∈ starts, s.length ≤ 1048576
  l4 : ∀ e ∈ l, e.nums.length ≤ 1048576 ∧ e.pairs.length ≤ 1048576
theorem StartIn.below {starts : List (List (Int × Int))} {heads : List (Option Addr × Nat)} {sA : Option Addr} {w w' : World} (h : StartIn starts heads sA w) (hb : Below w.heap.size w w') : StartIn starts heads sA w' :=
  ⟨h.len, h.row.below hb, fun k s x h1 h2 => (h.parts k s x h1 h2).below hb⟩
theorem LIn.below {l : List Ev} {starts : List (List (Int × Int))} {heads : List (Option Addr × Nat)} {lA sA : Option Addr} {w w' : World} (h : LIn l starts heads lA sA w) (hb : Below w.heap.size w w') : LIn l starts heads lA sA w' :=
  ⟨h.row.below hb, fun e he => (h.inn e he).below hb, h.ok, h.st.below hb, h.sk, h.l1, h.l2, h.l3, h.l4⟩
theorem LIn.take {l : List Ev} {starts : List (List (Int × Int))} {heads : List (Option Addr × Nat)} {lA sA : Option Addr} {w : World} (h : LIn l starts heads lA sA w) (n : Nat) : LIn (l.take n) starts heads lA sA w := by
  have hm : ∀ e ∈ l.take n, e ∈ l := fun e he => List.mem_of_mem_take he
  refine ⟨?_, fun e he => h.inn e (hm e he), fun e he => h.ok e (hm e he), h.st, h.sk, ?_, h.l2, h.l3, fun e he => h.l4 e (hm e he)⟩
  · have := h.row
    rw [evCells_take l n] at this
    exact this.front
  · have := List.length_take_le' n l
    have := h.l1
    omega
def manyP (l : List Ev) (starts : List (List (Int × Int))) : Prop := 1024 < l.length ∨ starts.length = 0 ∨ 64 < starts.length
theorem vers_any {l : List Ev} {starts : List (List (Int × Int))} {heads : List (Option Addr × Nat)} {lA sA : Option Addr} {w : World} (h : LIn l starts heads lA sA w) (lc sc n : Nat) (hl : lightB starts l = true) (hn : n ≤ l.length) :
    Calls Try.prog 20 #[.slice sA starts.length sc, .slice lA n lc] w (VersPost (l.take n) starts w) := by
  have hlen : (l.take n).length = n := by simp [hn]
  have ht := h.take n
  by_cases hm : manyP (l.take n) starts
  · have := versMany (l.take n) starts lA sA lc sc w ht.l1 ht.l2 hm
    rwa [hlen] at this
  · unfold manyP at hm
    have h1 : (l.take n).length ≤ 1024 := by omega
    have := versGo (l.take n) starts heads lA sA lc sc w ht.row ht.inn ht.ok (fun e he => light_small hl e (by
      rw [hlen] at h1
      have : l.take n = (l.take 2000).take n := by rw [List.take_take]; congr 1; omega
      rw [this] at he
      exact List.mem_of_mem_take he)) ht.st (light_start hl (by omega)) ht.sk h1 (by omega) (by omega)
    rwa [hlen] at this
theorem VersPost.many {l : List Ev} {starts : List (List (Int × Int))} {w w' : World} {e : Ending} (h : VersPost l starts w e w') (hm : manyP l starts) : e = .returned (.tuple #[.slice none 0 0, .int .i64 201]) ∧ w = w' := by
  unfold VersPost at h
  unfold manyP at hm
  rwa [if_pos hm] at h
theorem VersPost.few {l : List Ev} {starts : List (List (Int × Int))} {w w' : World} {e : Ending} (h : VersPost l starts w e w') (hm : ¬ manyP l starts) : ∃ A c, e = .returned (.tuple #[.slice A (versionsL starts l).length c, .int .i64 0]) ∧ w'.ownsRow w.heap.size 55 3 (.slice A (versionsL starts l).length c) (versionsL starts l).length (blCells (versionsL starts l)) ∧ Below w.heap.size w w' := by
  unfold VersPost at h
  unfold manyP at hm
  rw [if_neg hm] at h
  obtain ⟨v, he, ho, hb⟩ := h
  obtain ⟨A, c, rfl, _, _⟩ := row_of_own ho
  exact ⟨A, c, he, ho, hb⟩
theorem VersPost.any {l : List Ev} {starts : List (List (Int × Int))} {w w' : World} {e : Ending} (h : VersPost l starts w e w') : ∃ v g, e = .returned (.tuple #[v, .int .i64 g]) ∧ Below w.heap.size w w' := by
  by_cases hm : manyP l starts
  · obtain ⟨he, rfl⟩ := h.many hm
    exact ⟨_, _, he, Below.refl _ _⟩
  · obtain ⟨A, c, he, _, hb⟩ := h.few hm
    exact ⟨_, _, he, hb⟩
end Go.Proofs.Ytpnegacfanbcfaa

/- JudgeVersions: what its loops carry; the two judges at the arguments and at their copies. -/
namespace Go.Proofs.Ytpnegacfanbcfaa
open Go.RowKit Go.Maps

theorem elemParts : ElemOk Try.prog 38 41 1 24 := elemOk_of (by kernel_rfl) (by decide) (.slice none 0 0) (by kernel_rfl) rfl
/-- so many parts lent. -/
structure Gv (starts : List (List (Int × Int))) (j : Nat) (hs : List (Option Addr × Nat)) (B : Nat) (out : Value) (w : World) : Prop where
  len : hs.length = j
  own : w.ownsRow B 41 1 out j (((starts.take j).zip hs).map fun p => .slice p.2.1 p.1.length p.2.2)
  rows : ∀ (k : Nat) s h, starts[k]? = some s → hs[k]? = some h → ∃ g, h = (some ⟨g, 0, none⟩, s.length + 2) ∧ w.heap[g]? = some (.cells (pairCells (s ++ rooms2)).toArray 58 (0, 0))
section
variable {starts : List (List (Int × Int))} {j B : Nat} {hs : List (Option Addr × Nat)} {out out' : Value} {w w' : World}
theorem Gv.below (h : Gv starts j hs B out w) (hb : Below w.heap.size w w') : Gv starts j hs B out w' :=
  ⟨h.len, own_below h.own hb, fun k s x h1 h2 => let ⟨g, e, hg⟩ := h.rows k s x h1 h2; ⟨g, e, heap_below' hb hg⟩⟩
theorem Gv.append {s : List (Int × Int)} {g : Nat} (h : Gv starts j hs B out w) (hs' : starts[j]? = some s) (hg : w.heap[g]? = some (.cells (pairCells (s ++ rooms2)).toArray 58 (0, 0))) (hgr : w.grownBy w' out.ownBlock)
    (ho : w'.ownsRow B 41 1 out' (j + 1) ((((starts.take j).zip hs).map fun p => .slice p.2.1 p.1.length p.2.2) ++ [.slice (some ⟨g, 0, none⟩) s.length (s.length + 2)])) :
    Gv starts (j + 1) (hs ++ [(some ⟨g, 0, none⟩, s.length + 2)]) B out' w' := by
  have hj := (List.getElem?_eq_some_iff.1 hs').1
  have hk : ∀ (k : Nat) (cs : Array Value), w.heap[k]? = some (Obj.cells cs 58 (0, 0)) → w'.heap[k]? = some (Obj.cells cs 58 (0, 0)) := by
    intro k cs hc
    refine (hgr.block _ (Array.getElem?_eq_some_iff.1 hc).1 (fun e => ?_)).trans hc
    obtain ⟨cs', h'⟩ := own_block_cells h.own e.symm
    rw [hc] at h'
    injection h' with h'
    injection h' with _ h'
    cases h'
  have e1 : (starts.take (j + 1)).zip (hs ++ [((some ⟨g, 0, none⟩ : Option Addr), s.length + 2)]) = (starts.take j).zip hs ++ [(s, (some ⟨g, 0, none⟩, s.length + 2))] := by
    rw [take_snoc' hs', List.zip_append (by rw [List.length_take, h.len]; omega)]
    rfl
  refine ⟨by simp [h.len], ?_, fun k s' x h1 h2 => ?_⟩
  · rw [e1, List.map_append]
    exact ho
  · rcases Nat.lt_or_ge k j with hlt | hge
    · rw [List.getElem?_append_left (by rw [h.len]; exact hlt)] at h2
      obtain ⟨g', e', hg'⟩ := h.rows k s' x h1 h2
      exact ⟨g', e', hk _ _ hg'⟩
    · have hlt := (List.getElem?_eq_some_iff.1 h2).1
      rw [List.length_append, h.len, List.length_singleton] at hlt
      obtain rfl : k = j := by omega
      rw [List.getElem?_append_right (by rw [h.len]; exact Nat.le_refl _), h.len, Nat.sub_self] at h2
      simp at h2
      rw [hs'] at h1
      injection h1 with h1
      subst h1 h2
      exact ⟨g, rfl, hk _ _ hg⟩
theorem Gv.start {A : Option Addr} {c : Nat} (h : Gv starts starts.length hs B (.slice A starts.length c) w) : StartIn starts hs A w := by
  obtain ⟨A', c', e, hr, _⟩ := row_of_own h.own
  injection e with e _ _
  subst e
  rw [List.take_length] at hr
  refine ⟨h.len, hr, fun k s x h1 h2 => ?_⟩
  obtain ⟨g, rfl, hg⟩ := h.rows k s x h1 h2
  rw [pairCells_app] at hg
  exact row_prefix hg
end
def GvRel (starts : List (List (Int × Int))) (W : World) (k : Nat) (out i : Value) (wr : World) : Prop :=
  ∃ (j : Nat) (hs : List (Option Addr × Nat)), j ≤ starts.length ∧ i = .int .i64 j ∧ k = starts.length - j ∧ Gv starts j hs W.heap.size out wr ∧ Below W.heap.size W wr

theorem light_core (starts : List (List (Int × Int))) (l : List Ev) : lightB starts (l.map Ev.core) = lightB starts l := by
  unfold lightB lightN sumE
  rw [← List.map_take, List.map_map, List.length_map]
  rfl
theorem CopOf.core {l l' : List Ev} (h : CopOf l l') : l'.map Ev.core = l.map Ev.core := by
  apply List.ext_getElem?
  intro k
  rw [List.getElem?_map, List.getElem?_map]
  cases hk : l[k]? with
  | none =>
    have : l'[k]? = none := by
      rw [List.getElem?_eq_none_iff] at hk ⊢
      rw [h.1]
      exact hk
    rw [this]
  | some x =>
    obtain ⟨a, b, c, d, h2⟩ := h.2 k x hk
    rw [h2]
    rfl
theorem CopOf.light {l l' : List Ev} (h : CopOf l l') (starts : List (List (Int × Int))) : lightB starts l' = lightB starts l := by
  rw [← light_core starts l', h.core, light_core]
theorem CopOf.mem {l l' : List Ev} (h : CopOf l l') {x : Ev} (hx : x ∈ l') : ∃ e nA nc pA pc, e ∈ l ∧ x = e.at nA nc pA pc := by
  obtain ⟨k, hk⟩ := List.getElem?_of_mem hx
  have hl := (List.getElem?_eq_some_iff.1 hk).1
  rw [h.1] at hl
  obtain ⟨a, b, c, d, h2⟩ := h.2 k _ (List.getElem?_eq_getElem hl)
  rw [hk] at h2
  injection h2 with h2
  exact ⟨_, a, b, c, d, List.getElem_mem hl, h2⟩
theorem light_lens {starts : List (List (Int × Int))} {l : List Ev} (h : lightB starts l = true) : l.length ≤ 3000 ∧ starts.length ≤ 3000 := by
  unfold lightB lightN at h
  rw [decide_eq_true_eq] at h
  omega
/-- the copies read as the arguments do. -/
theorem CopOf.lin {l l' : List Ev} {starts : List (List (Int × Int))} {heads hs : List (Option Addr × Nat)} {lA sA iA gA : Option Addr} {w W : World} {B B2 ic gc : Nat} (h : LIn l starts heads lA sA w) (hc : CopOf l l')
    (ho : W.ownsRow B 52 13 (.slice iA l.length ic) l.length (evCells l')) (hw : ∀ e ∈ l', e.Own B W) (hg : Gv starts starts.length hs B2 (.slice gA starts.length gc) W) : LIn l' starts hs iA gA W := by
  obtain ⟨A', c', e, hr, _⟩ := row_of_own ho
  injection e with e _ _
  subst e
  refine ⟨hr, fun e he => (hw e he).inn, fun e he => ?_, hg.start, h.sk, by rw [hc.1]; exact h.l1, h.l2, h.l3, fun e he => ?_⟩
  · obtain ⟨e0, a, b, c, d, he0, rfl⟩ := hc.mem he
    have := h.ok e0 he0
    exact ⟨this.1, this.2, this.3, this.4, this.5, this.6, this.7, this.8, this.9, this.10⟩
  · obtain ⟨e0, a, b, c, d, he0, rfl⟩ := hc.mem he
    exact h.l4 e0 he0

instance (l : List Ev) (starts : List (List (Int × Int))) : Decidable (manyP l starts) := by unfold manyP; infer_instance
def ansV (l : List Ev) (starts : List (List (Int × Int))) : List Blm := if manyP l starts then [] else versionsL starts l
def errV (l : List Ev) (starts : List (List (Int × Int))) : Int := if manyP l starts then 201 else 0
theorem VersPost.all {l : List Ev} {starts : List (List (Int × Int))} {w w' : World} {e : Ending} (h : VersPost l starts w e w') :
    ∃ A c, e = .returned (.tuple #[.slice A (ansV l starts).length c, .int .i64 (errV l starts)]) ∧ w'.ownsRow w.heap.size 55 3 (.slice A (ansV l starts).length c) (ansV l starts).length (blCells (ansV l starts)) ∧ Below w.heap.size w w' := by
  by_cases hm : manyP l starts
  · obtain ⟨he, rfl⟩ := h.many hm
    have e1 : ansV l starts = [] := if_pos hm
    have e2 : errV l starts = 201 := if_pos hm
    rw [e1, e2]
    exact ⟨none, 0, he, ⟨rfl, .inl ⟨rfl, rfl⟩⟩, Below.refl _ _⟩
  · have e1 : ansV l starts = versionsL starts l := if_neg hm
    have e2 : errV l starts = 0 := if_neg hm
    obtain ⟨A, c, he, ho, hb⟩ := h.few hm
    rw [e1, e2]
    exact ⟨A, c, he, ho, hb⟩
theorem ansV_le (l : List Ev) (starts : List (List (Int × Int))) : (ansV l starts).length ≤ 1575000 := by
  by_cases hm : manyP l starts
  · rw [show ansV l starts = [] from if_pos hm]
    simp
  · rw [show ansV l starts = versionsL starts l from if_neg hm]
    unfold versionsL
    rw [sortB_length]
    unfold manyP at hm
    exact allU_le (by omega) (Nat.le_refl _)
theorem CopOf.ans {l l' : List Ev} (h : CopOf l l') (starts : List (List (Int × Int))) : ansV l' starts = ansV l starts ∧ errV l' starts = errV l starts := by
  have hm : manyP l' starts = manyP l starts := by unfold manyP; rw [h.1]
  unfold ansV errV
  simp only [hm, h.versions, and_self]
theorem judge_all {l : List Ev} {starts : List (List (Int × Int))} {heads : List (Option Addr × Nat)} {lA sA : Option Addr} {w : World} (h : LIn l starts heads lA sA w) (lc sc : Nat) (hl : lightB starts l = true) :
    Calls Try.prog 20 #[.slice sA starts.length sc, .slice lA l.length lc] w (VersPost l starts w) := by
  have := vers_any h lc sc l.length hl (Nat.le_refl _)
  rwa [List.take_length] at this
theorem ref_all {l : List Ev} {starts : List (List (Int × Int))} {heads : List (Option Addr × Nat)} {lA sA : Option Addr} {w : World} (h : LIn l starts heads lA sA w) (lc sc : Nat) (hl : lightB starts l = true) :
    Calls Try.prog 19 #[.slice sA starts.length sc, .slice lA l.length lc] w (VersPost l starts w) := by
  by_cases hm : manyP l starts
  · exact refVersMany l starts lA sA lc sc w h.l1 h.l2 hm
  · unfold manyP at hm
    have h1 : l.length ≤ 1024 := by omega
    exact refVersGo l starts heads lA sA lc sc w h.row h.inn h.ok (fun e he => light_small hl e (by rw [List.take_of_length_le (by omega)]; exact he)) h.st (light_start hl (by omega)) h1 (by omega) (by omega)
theorem sameBlamesT (a : List Blm) (A B : Option Addr) (ac bc : Nat) (w : World) (hl : a.length ≤ 4000000) (ha : Row w A (blCells a)) (hb : Row w B (blCells a)) :
    Calls Try.prog 21 #[.slice A a.length ac, .slice B a.length bc] w fun e w' => e = .returned (.bool true) ∧ ∃ n, w' = w.drewN n := by
  have := sameBlames a a A B ac bc w hl hl ha hb
  simpa using this
/-- a blame is put where one lies. -/
theorem own_store {B g c L : Nat} {M : List Blm} {w : World} (h : w.ownsRow B 55 3 (.slice (some ⟨g, 0, none⟩) L c) L (blCells M)) {j : Nat} (hM : M.length = L) (b : Blm) (hj : j < L) :
    ∃ w2, (storeCells ⟨g, j * 3, none⟩ b.cells 0).run Try.prog w = .ok () w2 ∧ w2.ownsRow B 55 3 (.slice (some ⟨g, 0, none⟩) L c) L (blCells (M.set j b)) ∧ Below B w w2 := by
  obtain ⟨hl, hf⟩ := h
  rcases hf with ⟨e, _⟩ | ⟨g', cap, cur, e, hB, hg, hnc, hcm, hs, ht⟩
  · cases e
  · injection e with e1 _ e2
    injection e1 with e1
    injection e1 with e1
    subst e1 e2
    have hlen : j * 3 + 0 + b.cells.length ≤ cur.size := by
      rw [hs]
      show j * 3 + 0 + 3 ≤ c * 3
      omega
    have hst := run_storeCells_at (P := Try.prog) g (j * 3) 55 b.cells 0 cur w hg hlen (fun v hv => by simp [Blm.cells] at hv; rcases hv with rfl | rfl | rfl <;> rfl)
    refine ⟨_, hst, ⟨by rw [blCells_length, List.length_set, hM], .inr ⟨g, c, _, rfl, hB, setRow_heap w g cur _ 55 _ hg, hnc, hcm, ?_, ?_⟩⟩, ?_⟩
    · rw [List.size_toArray, List.length_append, List.length_append, List.length_take, List.length_drop, Array.length_toList]
      omega
    · have e3 : b.cells.length = 3 := rfl
      obtain ⟨y, hy⟩ : ∃ y, M[j]? = some y := ⟨_, List.getElem?_eq_getElem (by omega)⟩
      rw [blCells_set b hy, ← ht]
      have := take_mid cur.toList b.cells (j * 3) (L * 3) (by rw [e3]; omega) (by rw [Array.length_toList, hs]; omega)
      simpa [e3] using this
    · exact ⟨rfl, rfl, rfl, by rw [setRow_size]; exact Nat.le_refl _, fun k hk => setRow_other w g k _ (by omega)⟩
end Go.Proofs.Ytpnegacfanbcfaa

/- JudgeVersions: the walk. Lengths are at most 1048576. -/
namespace Go.Proofs.Ytpnegacfanbcfaa
open Go.RowKit Go.Maps

attribute [-go_sem] loadCellsFrom storeCells
set_option maxRecDepth 100000 in
set_option maxHeartbeats 8000000 in
theorem versions_walk (l : List Ev) (starts : List (List (Int × Int))) (heads : List (Option Addr × Nat)) (lA sA : Option Addr) (lc sc : Nat) (w : World) (h : LIn l starts heads lA sA w) :
    Calls Try.prog 5 #[.slice sA starts.length sc, .slice lA l.length lc] w fun e w' => e = .returned (.bool true) ∧ Below w.heap.size w w' := by
  have H := Lib.hid h
  clear h
  cases hlt : lightB starts l with
  | false =>
    have HL := Lib.hid hlt
    clear hlt
    go_enter Try.func5, Try.ntmps5
    go_wp2_with (first
      | (go_at_call 7; refine (known_walk _).mono ?_; rintro e1 w1 ⟨rfl, hb1⟩; have HB1 := Lib.hid hb1; clear hb1)
      | (go_at_call 16; refine (light_walk l starts heads lA sA lc sc w1 (H.out.below HB1.out).row (H.out.below HB1.out).st H.out.l1 H.out.l2 H.out.l3 H.out.l4).mono ?_; rintro e1 w2 ⟨rfl, n2, rfl⟩; rw [HL.out]))
    go_ret
    exact ⟨rfl, below_drewN HB1.out _⟩
  | true =>
    have HL := Lib.hid hlt
    obtain ⟨hl3, hs3⟩ := light_lens hlt
    clear hlt
    go_enter Try.func5, Try.ntmps5
    go_wp2_with (first
      | (go_at_call 7; refine (known_walk _).mono ?_; rintro e1 w1 ⟨rfl, hb1⟩; have HB1 := Lib.hid hb1; clear hb1)
      | (go_at_call 16; refine (light_walk l starts heads lA sA lc sc w1 (H.out.below HB1.out).row (H.out.below HB1.out).st H.out.l1 H.out.l2 H.out.l3 H.out.l4).mono ?_; rintro e1 w2 ⟨rfl, n2, rfl⟩; rw [HL.out]))
    obtain ⟨W, hW⟩ : ∃ W, W = w1.drewN n2 := ⟨_, rfl⟩
    have hBW : Below w.heap.size w W := by rw [hW]; exact below_drewN HB1.out _
    have hLW := H.out.below hBW
    rw [← hW]
    have HBW := Lib.hid hBW; have HLW := Lib.hid hLW
    clear hW hBW hLW
    go_loopg [5, 6] starts.length (fun k out i wr => GvRel starts W k out i wr)
    case atStart => exact ⟨0, [], Nat.zero_le _, rfl, rfl, ⟨rfl, ⟨rfl, .inl ⟨rfl, rfl⟩⟩, fun k s h h1 h2 => by simp at h2⟩, Below.refl _ _⟩
    case round =>
      obtain ⟨j, hs, hj, rfl, rfl, hgv, hbw⟩ := hrel
      obtain ⟨gA, gc, rfl, _, _⟩ := row_of_own hgv.own
      by_cases hlt : j < starts.length
      · obtain ⟨s, hsj⟩ : ∃ s, starts[j]? = some s := ⟨_, List.getElem?_eq_getElem hlt⟩
        obtain ⟨x, hh⟩ : ∃ x, heads[j]? = some x := ⟨_, List.getElem?_eq_getElem (by rw [HLW.out.st.len]; exact hlt)⟩
        obtain ⟨s0, soff, hsA, hsc⟩ := (HLW.out.st.row.below hbw) j (.slice x.1 s.length x.2) (by rw [List.getElem?_map, (List.getElem?_zip_eq_some.2 ⟨hsj, hh⟩ : (starts.zip heads)[j]? = some (s, x))]; rfl)
        have hsr := (HLW.out.st.parts j s x hsj hh).below hbw
        have hsn : x.1 = none → s.length = 0 := fun e => by
          rcases Nat.eq_zero_or_pos s.length with h0 | h0
          · exact h0
          · have hz : 0 < (pairCells s).length := by rw [pairCells_length]; omega
            obtain ⟨b, off, hb, _⟩ := hsr 0 _ (List.getElem?_eq_getElem hz)
            rw [e] at hb
            cases hb
        have hsl := H.out.l3 s (List.mem_of_getElem? hsj)
        have HGV := Lib.hid hgv; have HBw := Lib.hid hbw; have HSR := Lib.hid hsr; have HSN := Lib.hid hsn; have HSL := Lib.hid hsl; have HSJ := Lib.hid hsj
        clear hgv hbw hsr hsn hsl hsj hh
        subst hsA
        go_wp2_with (first
          | (go_at_call 17; refine (lentPairs_walk s x.1 x.2 wr HSL.out HSR.out HSN.out).mono ?_; rintro e1 w3 ⟨g, rfl, hg3, _, hb3⟩; have HG3 := Lib.hid hg3; have HB3 := Lib.hid hb3; clear hg3 hb3)
          | (at_builtin; refine wpList_append_is rfl (.tmp 28) (.tmp 34) rfl elemParts rfl ((own_below HGV.out.own HB3.out).alloc _) _ 1 _ [.slice (some ⟨g, 0, none⟩) s.length (s.length + 2)] rfl (row_new w3 [.slice (some ⟨g, 0, none⟩) s.length (s.length + 2)] 41) rfl (by simp [Value.oneCell']) (by unfold maxLen; omega) (by omega) (by have := HBw.out.size; have := HB3.out.size; simp; omega) (fun e => by cases e) ?_
             intro v5 w5 ho5 hg5 hat5
             obtain ⟨A5, c5, rfl, _, _⟩ := row_of_own ho5
             have HFIN : Hid (GvRel starts W (starts.length - (j + 1)) (.slice A5 (j + 1) c5) (.int .i64 ((j + 1 : Nat) : Int)) w5) := by
               have hba := (Below.refl w3.heap.size w3).alloc (Nat.le_refl _) (.cells [.slice (some ⟨g, 0, none⟩) s.length (s.length + 2)].toArray 41)
               have hgA := (HGV.out.below HB3.out).below hba
               refine ⟨j + 1, _, by omega, rfl, rfl, hgA.append HSJ.out (heap_below' hba HG3.out) hg5 ho5, ?_⟩
               have h3 := HBw.out.trans (HB3.out.mono HBw.out.size)
               exact (h3.trans (hba.mono h3.size)).grown hg5 (by have := h3.size; simp; omega) (fun k hk => (hgA.own.lt k hk).1)
             clear ho5 hg5 hat5))
        go_roundg (starts.length - (j + 1))
        case measure => omega
        case rel => exact HFIN.out
      · have hjl : j = starts.length := by omega
        subst hjl
        obtain ⟨wB, hwB⟩ : ∃ wB, wB = wr := ⟨_, rfl⟩
        subst hwB
        have hLB := HLW.out.below hbw
        have HGV := Lib.hid hgv; have HLB := Lib.hid hLB; have HBB := Lib.hid (HBW.out.trans (hbw.mono HBW.out.size))
        clear hgv hbw hLB
        obtain ⟨N, hN⟩ : ∃ N, N = (ansV l starts).length := ⟨_, rfl⟩
        obtain ⟨ev, hev⟩ : ∃ ev, ev = errV l starts := ⟨_, rfl⟩
        have hNle : N ≤ 1575000 := by rw [hN]; exact ansV_le l starts
        have HN := Lib.hid hN; have HEV := Lib.hid hev
        clear hN hev
        go_wp2_with (first
          | (go_at_call 18; refine (copies_walk l lA lc wB HLB.out.row HLB.out.inn HLB.out.l4 (by omega)).mono ?_; rintro e1 w3 ⟨v, l', rfl, hcp, hoc, hown, hb3⟩; obtain ⟨iA, ic, rfl, _, _⟩ := row_of_own hoc; have HCP := Lib.hid hcp; have HOC := Lib.hid hoc; have HOWN := Lib.hid hown; have HB3 := Lib.hid hb3; clear hcp hoc hown hb3)
          | (go_at_call 19; refine (ref_all (HLB.out.below HB3.out) lc sc HL.out).mono ?_; rintro e2 w4 h4; obtain ⟨oA, oc, rfl, how, hb4⟩ := h4.all; rw [← HN.out, ← HEV.out]; rw [← HN.out] at how; have HOW := Lib.hid how; have HB4 := Lib.hid hb4; clear h4 how hb4))
        have hB34 := HB3.out.trans (HB4.out.mono HB3.out.size)
        have hG4 := HGV.out.below hB34
        have hO4 := own_below HOC.out HB4.out
        have hW4 : ∀ e ∈ l', e.Own wB.heap.size w4 := fun e he => (HOWN.out e he).below HB4.out
        have hLI4 := CopOf.lin H.out HCP.out hO4 hW4 hG4
        have HL4 := Lib.hid (HLB.out.below hB34)
        have HB4w := Lib.hid (HBB.out.trans (hB34.mono HBB.out.size))
        have HJ : Hid (∀ w5, Below w4.heap.size w4 w5 → Calls Try.prog 20 #[.slice gA starts.length gc, .slice iA l.length ic] w5 (fun e w6 => ∃ A c, e = .returned (.tuple #[.slice A N c, .int .i64 ev]) ∧ w6.ownsRow w5.heap.size 55 3 (.slice A N c) N (blCells (ansV l starts)) ∧ Below w5.heap.size w5 w6)) := by
          intro w5 h5
          have h6 := judge_all (hLI4.below h5) ic gc (by rw [HCP.out.light]; exact HL.out)
          rw [HCP.out.1] at h6
          refine h6.mono fun e w6 h7 => ?_
          have h8 := h7.all
          rw [(HCP.out.ans starts).1, (HCP.out.ans starts).2, ← HN.out, ← HEV.out] at h8
          exact h8
        have HSB : Hid (∀ A B ac bc w5, Row w5 A (blCells (ansV l starts)) → Row w5 B (blCells (ansV l starts)) → Calls Try.prog 21 #[.slice A N ac, .slice B N bc] w5 fun e w' => e = .returned (.bool true) ∧ ∃ n, w' = w5.drewN n) := by
          intro A B ac bc w5 h1 h2
          rw [HN.out]
          exact sameBlamesT _ A B ac bc w5 (by rw [← HN.out]; omega) h1 h2
        have HG4 := Lib.hid hG4; have HO4 := Lib.hid hO4; have HW4 := Lib.hid hW4
        have hRO := (row_of_own HOW.out)
        have HRO : Hid (Row w4 oA (blCells (ansV l starts))) := by
          obtain ⟨A', c', e, hr, _⟩ := hRO
          injection e with e _ _
          subst e
          exact hr
        clear hB34 hG4 hO4 hW4 hLI4 hRO
        have tev : (ev != ev) = false := by simp
        go_loopg [10] 2 (fun k n wr => ∃ j : Nat, j ≤ 2 ∧ n = .int .i64 j ∧ k = 2 - j ∧ Below w4.heap.size w4 wr)
        case atStart => exact ⟨0, by omega, rfl, rfl, Below.refl _ _⟩
        case round =>
          obtain ⟨n, hn, rfl, rfl, hbn⟩ := hrel
          obtain ⟨wo, hwo⟩ : ∃ wo, wo = wr := ⟨_, rfl⟩
          subst hwo
          have HBN := Lib.hid hbn
          clear hbn
          by_cases hn2 : n < 2
          · have hn2' : (n : Int) < 2 := by omega
            go_wp2_with (first
              | (go_at_call 20; refine (HJ.out wo HBN.out).mono ?_; rintro e1 w5 ⟨xA, xc, rfl, hox, hb5⟩; have HOX := Lib.hid hox; have HB5 := Lib.hid hb5; clear hox hb5)
              | (go_at_call 21; refine (HSB.out xA oA xc oc w5 (by obtain ⟨A', c', e, hr, _⟩ := row_of_own HOX.out; injection e with e _ _; subst e; exact hr) ((HRO.out.below HBN.out).below HB5.out)).mono ?_; rintro e2 w6 ⟨rfl, n6, rfl⟩))
            obtain ⟨w6, hw6⟩ : ∃ w6, w6 = w5.drewN n6 := ⟨_, rfl⟩
            have hb56 : Below w5.heap.size w5 w6 := by rw [hw6]; exact below_drewN (Below.refl _ _) _
            rw [← hw6]
            have HX6 := Lib.hid (own_below HOX.out hb56); have HB46 := Lib.hid (HBN.out.trans ((HB5.out.trans (hb56.mono HB5.out.size)).mono HBN.out.size)); have HBo6 := Lib.hid (HB5.out.trans (hb56.mono HB5.out.size))
            clear hw6 hb56
            go_loopg [13] l.length (fun k i wr => ∃ j : Nat, j ≤ l.length ∧ i = .int .i64 j ∧ k = l.length - j ∧ Below w6.heap.size w6 wr)
            case atStart => exact ⟨0, Nat.zero_le _, rfl, rfl, Below.refl _ _⟩
            case round =>
              obtain ⟨j3, hj3, rfl, rfl, hb7⟩ := hrel
              obtain ⟨wp, hwp⟩ : ∃ wp, wp = wr := ⟨_, rfl⟩
              subst hwp
              have hb47 := HB46.out.trans (hb7.mono HB46.out.size)
              have HB7 := Lib.hid hb7; have HB47 := Lib.hid hb47
              clear hb7 hb47
              by_cases hl3' : j3 < l.length
              · obtain ⟨e, he⟩ : ∃ e, l[j3]? = some e := ⟨_, List.getElem?_eq_getElem hl3'⟩
                obtain ⟨nA, nc, pA, pc, he'⟩ := HCP.out.2 j3 e he
                have hel := List.mem_of_getElem? he
                have hel' := List.mem_of_getElem? he'
                obtain ⟨A', c', eA, hrI, _⟩ := row_of_own (own_below HO4.out HB47.out)
                injection eA with eA _ eC
                subst eA eC
                obtain ⟨b0, off, hA, _⟩ := load_ev hrI he'
                have hrL := HL4.out.row.below HB47.out
                obtain ⟨b1, off1, hA1, _⟩ := load_ev hrL he
                have la : ∀ p : BelowOf wp, (loadCellsFrom ⟨b0, off + j3 * 13, none⟩ 0 13 #[]).run Try.prog p.v = .ok (e.at nA nc pA pc).arr p.v := fun p => Row.ev_at (hrI.below p.h) he' b0 off hA
                have lb : ∀ p : BelowOf wp, (loadCellsFrom ⟨b1, off1 + j3 * 13, none⟩ 0 13 #[]).run Try.prog p.v = .ok e.arr p.v := fun p => Row.ev_at (hrL.below p.h) he b1 off1 hA1
                have HIN1 : Hid (∀ p : BelowOf wp, (e.at nA nc pA pc).In p.v) := fun p => (((HW4.out _ hel').inn).below HB47.out).below p.h
                have HIN2 : Hid (∀ p : BelowOf wp, e.In p.v) := fun p => ((HL4.out.inn e hel).below HB47.out).below p.h
                have HSM := Lib.hid (HL4.out.l4 e hel)
                clear he he' hel hel' hrI hrL
                subst hA hA1
                simp only [Ev.arr, Ev.at] at la lb
                go_wp2_with fail
                refine wp_region_quiet_below (w := wp) (by kernel_rfl) (by kernel_rfl) ?_
                repeat (go_big_quiet_step ((go_at_call 22; exact calls_below _ (sameEvent_walk e nA nc pA pc _ HSM.out (HIN1.out _) (HIN2.out _)))))
                refine wpQuiet_nil ?_
                intro w8 hw'
                obtain ⟨p3, rfl⟩ := hw'
                go_wp2_with fail
                go_roundg (l.length - (j3 + 1))
                case measure => omega
                case rel => exact ⟨j3 + 1, by omega, by go_num, rfl, HB7.out.trans (p3.h.mono HB7.out.size)⟩
              · have hjl : j3 = l.length := by omega
                subst hjl
                clear hl3'
                go_wp2_with fail
                go_loopg [14] starts.length (fun k i wr => ∃ j : Nat, j ≤ starts.length ∧ i = .int .i64 j ∧ k = starts.length - j ∧ Below wp.heap.size wp wr)
                case atStart => exact ⟨0, Nat.zero_le _, rfl, rfl, Below.refl _ _⟩
                case round =>
                  obtain ⟨j4, hj4, rfl, rfl, hb8⟩ := hrel
                  obtain ⟨wq, hwq⟩ : ∃ wq, wq = wr := ⟨_, rfl⟩
                  subst hwq
                  have hb48 := HB47.out.trans (hb8.mono HB47.out.size)
                  have HB8 := Lib.hid hb8; have HB48 := Lib.hid hb48
                  clear hb8 hb48
                  by_cases hl4' : j4 < starts.length
                  · obtain ⟨s, hsj⟩ : ∃ s, starts[j4]? = some s := ⟨_, List.getElem?_eq_getElem hl4'⟩
                    obtain ⟨x, hh⟩ : ∃ x, heads[j4]? = some x := ⟨_, List.getElem?_eq_getElem (by rw [HL4.out.st.len]; exact hl4')⟩
                    obtain ⟨y, hy⟩ : ∃ y, hs[j4]? = some y := ⟨_, List.getElem?_eq_getElem (by rw [HG4.out.len]; exact hl4')⟩
                    obtain ⟨g, rfl, hgb⟩ := HG4.out.rows j4 s y hsj hy
                    obtain ⟨s0, soff, hsA, hsc⟩ := (HL4.out.st.row.below HB48.out) j4 (.slice x.1 s.length x.2) (by rw [List.getElem?_map, (List.getElem?_zip_eq_some.2 ⟨hsj, hh⟩ : (starts.zip heads)[j4]? = some (s, x))]; rfl)
                    obtain ⟨g0, goff, hgA, hgc⟩ := (HG4.out.start.row.below HB48.out) j4 (.slice (some ⟨g, 0, none⟩) s.length (s.length + 2)) (by rw [List.getElem?_map, (List.getElem?_zip_eq_some.2 ⟨hsj, hy⟩ : (starts.zip hs)[j4]? = some (s, (some ⟨g, 0, none⟩, s.length + 2)))]; rfl)
                    have ca : ∀ p : BelowOf wq, p.v.cell? ⟨s0, soff + j4, none⟩ = some (.slice x.1 s.length x.2) := fun p => p.cell hsc
                    have cb : ∀ p : BelowOf wq, p.v.cell? ⟨g0, goff + j4, none⟩ = some (.slice (some ⟨g, 0, none⟩) s.length (s.length + 2)) := fun p => p.cell hgc
                    have HR1 : Hid (∀ p : BelowOf wq, Row p.v x.1 (pairCells s)) := fun p => ((HL4.out.st.parts j4 s x hsj hh).below HB48.out).below p.h
                    have HR2 : Hid (∀ p : BelowOf wq, p.v.heap[g]? = some (.cells (pairCells (s ++ rooms2)).toArray 58 (0, 0))) := fun p => p.heap (heap_below' HB48.out hgb)
                    have HSL := Lib.hid (HL4.out.l3 s (List.mem_of_getElem? hsj))
                    clear hsj hh hy hgb
                    subst hsA hgA
                    go_wp2_with fail
                    refine wp_region_quiet_below (w := wq) (by kernel_rfl) (by kernel_rfl) ?_
                    repeat (go_big_quiet_step ((go_at_call 23; exact calls_below _ (stayPairs_walk s x.1 x.2 g _ HSL.out (HR1.out _) (HR2.out _)))))
                    refine wpQuiet_nil ?_
                    intro w8 hw'
                    obtain ⟨p3, rfl⟩ := hw'
                    go_wp2_with fail
                    go_roundg (starts.length - (j4 + 1))
                    case measure => omega
                    case rel => exact ⟨j4 + 1, by omega, by go_num, rfl, HB8.out.trans (p3.h.mono HB8.out.size)⟩
                  · have hjl4 : j4 = starts.length := by omega
                    subst hjl4
                    clear hl4'
                    have hox := own_below (own_below HX6.out HB7.out) HB8.out
                    have hbo := HBo6.out.trans ((HB7.out.trans (HB8.out.mono HB7.out.size)).mono HBo6.out.size)
                    have HOXq := Lib.hid hox; have HBoq := Lib.hid hbo
                    clear hox hbo
                    go_wp2_with fail
                    go_loopg [15] N (fun k i wr => ∃ (j : Nat) (M : List Blm), j ≤ N ∧ i = .int .i64 j ∧ k = N - j ∧ M.length = N ∧ wr.ownsRow wo.heap.size 55 3 (.slice xA N xc) N (blCells M) ∧ Below wo.heap.size wo wr)
                    case atStart => exact ⟨0, ansV l starts, Nat.zero_le _, rfl, rfl, HN.out.symm, HOXq.out, HBoq.out⟩
                    case round =>
                      obtain ⟨j5, M, hj5, rfl, rfl, hM, ho5, hb9⟩ := hrel
                      obtain ⟨ws, hws⟩ : ∃ ws, ws = wr := ⟨_, rfl⟩
                      subst hws
                      by_cases hl5 : j5 < N
                      · obtain ⟨g5, c5, e5, _, _⟩ := ho5.form (by omega)
                        injection e5 with e5 _ e6
                        subst e5 e6
                        obtain ⟨w9, st9, ho9, hb10⟩ := own_store ho5 hM ⟨-9, 0, 0⟩ hl5
                        unfold Blm.cells at st9
                        have HM := Lib.hid hM; have HO9 := Lib.hid ho9; have HB9 := Lib.hid (hb9.trans hb10)
                        clear hM ho5 hb9 ho9 hb10
                        go_wp2_with fail
                        go_roundg (N - (j5 + 1))
                        case measure => omega
                        case rel => exact ⟨j5 + 1, _, by omega, by go_num, rfl, by rw [List.length_set]; exact HM.out, HO9.out, HB9.out⟩
                      · have HB9 := Lib.hid hb9
                        clear hM ho5 hb9
                        go_wp2_with fail
                        go_roundg (2 - (n + 1))
                        case measure => omega
                        case rel => exact ⟨n + 1, by omega, by go_num, rfl, HBN.out.trans (HB9.out.mono HBN.out.size)⟩
          · have hn2' : ¬ (n : Int) < 2 := by omega
            go_wp2_with fail
            go_ret
            exact ⟨rfl, HB4w.out.trans (HBN.out.mono HB4w.out.size)⟩
end Go.Proofs.Ytpnegacfanbcfaa
