/- Raw laws on a map's block, over any key type with the kit's 'Keyed'. No condition on its size. -/
import Derived.Test.YteeefedoffplmaaGreatAtom
import Derived.Maps.Own
import Derived.Maps.OwnOps
import Derived.Maps.OwnSet
import Derived.Test.YteeefedoffplmaaGreatVersionsOf
import Derived.WalkArith
set_option linter.unusedSimpArgs false
set_option linter.unusedVariables false
namespace Go.Proofs.YteeefedoffplmaaGreat
open Go.RowKit Go.Maps
open Go.ChangeMaps (setBlock)

section
variable {α : Type}

/-- block b is a map: the key 'enc x' leads to f x. -/
def MapIs (P : Program) (k : TypeId) (enc : α → Value) (w : World) (b : Nat) (f : α → Option Value) : Prop :=
  ∃ (es : Array MapEntry) (clock : Nat), w.heap[b]? = some (.map es clock) ∧ (∀ e ∈ es.toList, ∃ x l, e.key = enc x ∧ keyOf P k (enc x) = some l ∧ f x = some e.val) ∧
    (∀ x v, f x = some v → ∃ e ∈ es.toList, e.key = enc x ∧ e.val = v) ∧ ∀ (i j : Nat) (ei ej : MapEntry), es[i]? = some ei → es[j]? = some ej → ei.key = ej.key → i = j

variable {P : Program} {k t e : TypeId} {enc : α → Value} {w : World} {b : Nat} {f : α → Option Value}

theorem MapIs.made : MapIs P k enc (w.alloc (.map #[] 0)) w.heap.size (fun _ => none) :=
  ⟨#[], 0, heap_alloc_new w _, by simp, by simp, by simp⟩

theorem MapIs.kept {w' : World} (h : MapIs P k enc w b f) (hb : w'.heap[b]? = w.heap[b]?) : MapIs P k enc w' b f :=
  let ⟨es, c, h1, h2⟩ := h; ⟨es, c, hb.trans h1, h2⟩
theorem MapIs.lt (h : MapIs P k enc w b f) : b < w.heap.size := by
  obtain ⟨es, c, h1, _⟩ := h
  exact (Array.getElem?_eq_some_iff.1 h1).1
theorem MapIs.below {w' : World} (h : MapIs P k enc w b f) (hb : Below w.heap.size w w') : MapIs P k enc w' b f := h.kept (hb.block _ h.lt)
theorem MapIs.drewN (h : MapIs P k enc w b f) (n : Nat) : MapIs P k enc (w.drewN n) b f := h
theorem MapIs.raw (h : MapIs P k enc w b f) : ∃ es c, w.heap[b]? = some (.map es c) := let ⟨es, c, h1, _⟩ := h; ⟨es, c, h1⟩

theorem MapIs.run_lookup (h : MapIs P k enc w b f) (K : Keyed P k) (hinj : ∀ x y, enc x = enc y → x = y) (ht : P.underlying t = some (.map k e)) {z : Value} (hz : (zeroValue e).run P w = .ok z w) (c : Bool) (x : α) {l : Lit} (hx : keyOf P k (enc x) = some l) :
    (Instr.lookup t (.map (some b)) (enc x) c).run P w = .ok (if c then .tuple #[(f x).getD z, .bool (f x).isSome] else (f x).getD z) w := by
  obtain ⟨es, clock, hb, h1, h2, _⟩ := h
  rcases K.find w hx es.toList (fun e he => let ⟨y, l, e1, e2, _⟩ := h1 e he; ⟨l, by rw [e1]; exact e2⟩) with ⟨g1, g2⟩ | ⟨j, e0, g1, g2, g3⟩
  · have hf : f x = none := by
      cases hfx : f x with
      | none => rfl
      | some v =>
        obtain ⟨e1, he1, hk, _⟩ := h2 x v hfx
        exact absurd hk (g2 e1 he1)
    simp [Instr.lookup, run_underlying ht, MapKept.run_getObj_map hb, K.check w _ hx, g1, hz, Result.andThen, hf]
  · obtain ⟨y, l', e1, _, e3⟩ := h1 e0 (List.mem_of_getElem? g2)
    have : y = x := hinj _ _ (e1.symm.trans g3)
    subst this
    simp [Instr.lookup, run_underlying ht, MapKept.run_getObj_map hb, K.check w _ hx, g1, Result.andThen, e3]

theorem grownBy_setBlock (w : World) (b : Nat) (o : Obj) : w.grownBy (setBlock w b o) (some b) :=
  ⟨rfl, rfl, rfl, by simp [setBlock], fun j hj hne => by
    have : j ≠ b := fun e => hne (by rw [e])
    simp [setBlock, Ne.symm this]⟩

theorem MapIs.run_update [DecidableEq α] (h : MapIs P k enc w b f) (K : Keyed P k) (hinj : ∀ x y, enc x = enc y → x = y) (ht : P.underlying t = some (.map k e)) (x : α) {l : Lit} (hx : keyOf P k (enc x) = some l) (v : Value) :
    ∃ w', (Instr.mapUpdate t (.map (some b)) (enc x) v).run P w = .ok () w' ∧ MapIs P k enc w' b (fun y => if y = x then some v else f y) ∧ w.grownBy w' (some b) := by
  obtain ⟨es, clock, hb, h1, h2, h3⟩ := h
  have hlt := (Array.getElem?_eq_some_iff.1 hb).1
  have hnew : ∀ o, (setBlock w b o).heap[b]? = some o := fun o => by simp [setBlock, hlt]
  rcases K.find w hx es.toList (fun e he => let ⟨y, l, e1, e2, _⟩ := h1 e he; ⟨l, by rw [e1]; exact e2⟩) with ⟨g1, g2⟩ | ⟨j, e0, g1, g2, g3⟩
  · refine ⟨_, by simp [Instr.mapUpdate, run_underlying ht, MapKept.run_getObj_map hb, K.check w false hx, g1, MapKept.run_setObj_map _ hb, Result.andThen, setBlock], ⟨es.push ⟨enc x, v, clock⟩, clock + 1, hnew _, ?_, ?_, ?_⟩, grownBy_setBlock _ _ _⟩
    · intro e he
      simp only [Array.toList_push, List.mem_append, List.mem_singleton] at he
      rcases he with he | rfl
      · obtain ⟨y, l', e1, e2, e3⟩ := h1 e he
        have : y ≠ x := fun hyx => g2 e he (by rw [e1, hyx])
        exact ⟨y, l', e1, e2, by simpa [this] using e3⟩
      · exact ⟨x, l, rfl, hx, by simp⟩
    · intro y u hy
      by_cases hyx : y = x
      · subst hyx
        simp at hy
        subst hy
        exact ⟨⟨enc y, v, clock⟩, by simp, rfl, rfl⟩
      · simp only [if_neg hyx] at hy
        obtain ⟨e1, he1, r⟩ := h2 y u hy
        exact ⟨e1, by simp [he1], r⟩
    · intro i j ei ej hi hj hij
      rw [Array.getElem?_push] at hi hj
      have hmem : ∀ {i : Nat} {ei : MapEntry}, es[i]? = some ei → ei ∈ es.toList := fun {i ei} h => List.mem_of_getElem? (i := i) (by simpa using h)
      split at hi <;> split at hj
      · omega
      · injection hi with hi
        subst hi
        exact absurd hij.symm (g2 _ (hmem hj))
      · injection hj with hj
        subst hj
        exact absurd hij (g2 _ (hmem hi))
      · exact h3 i j ei ej hi hj hij
  · have hj : es[j]? = some e0 := by simpa using g2
    refine ⟨_, by simp [Instr.mapUpdate, run_underlying ht, MapKept.run_getObj_map hb, K.check w false hx, g1, hj, g3, K.stays w hx, MapKept.run_setObj_map _ hb, Result.andThen, setBlock], ⟨es.modify j (fun e => { e with key := enc x, val := v }), clock, hnew _, ?_, ?_, ?_⟩, grownBy_setBlock _ _ _⟩
    · intro e he
      obtain ⟨i, hi⟩ := List.getElem?_of_mem he
      rw [Array.getElem?_toList, Array.getElem?_modify] at hi
      by_cases hij : j = i
      · subst hij
        rw [if_pos rfl, hj] at hi
        simp at hi
        subst hi
        exact ⟨x, l, rfl, hx, by simp⟩
      · rw [if_neg hij] at hi
        obtain ⟨y, l2, a1, a2, a3⟩ := h1 e (List.mem_of_getElem? (i := i) (by simpa using hi))
        have hyx : y ≠ x := fun hyx => hij (h3 j i e0 e hj hi (by rw [g3, a1, hyx]))
        exact ⟨y, l2, a1, a2, by simpa [hyx] using a3⟩
    · intro y u hy
      by_cases hyx : y = x
      · subst hyx
        simp at hy
        subst hy
        refine ⟨{ e0 with key := enc y, val := v }, List.mem_of_getElem? (i := j) ?_, rfl, rfl⟩
        rw [Array.getElem?_toList, Array.getElem?_modify, if_pos rfl, hj]
        rfl
      · simp only [if_neg hyx] at hy
        obtain ⟨e1', he1, r1, r2⟩ := h2 y u hy
        obtain ⟨i, hi⟩ := List.getElem?_of_mem he1
        refine ⟨e1', List.mem_of_getElem? (i := i) ?_, r1, r2⟩
        rw [Array.getElem?_toList, Array.getElem?_modify, if_neg]
        · simpa using hi
        · rintro rfl
          rw [g2] at hi
          injection hi with hi
          exact hyx (hinj _ _ (by rw [← r1, ← hi, g3]))
    · intro i i' ei ei' hi hi' hii
      have key : ∀ {i : Nat} {ei : MapEntry}, (es.modify j (fun e => { e with key := enc x, val := v }))[i]? = some ei → ∃ e1 : MapEntry, es[i]? = some e1 ∧ e1.key = ei.key := by
        intro i ei hi
        rw [Array.getElem?_modify] at hi
        split at hi
        · rename_i hji
          subst hji
          rw [hj] at hi
          simp at hi
          subst hi
          exact ⟨e0, hj, g3⟩
        · exact ⟨ei, hi, rfl⟩
      obtain ⟨a, ha, hak⟩ := key hi
      obtain ⟨b, hb', hbk⟩ := key hi'
      exact h3 i i' a b ha hb' (by rw [hak, hbk, hii])

theorem MapIs.run_delete [DecidableEq α] (h : MapIs P k enc w b f) (K : Keyed P k) (hinj : ∀ x y, enc x = enc y → x = y) (ht : P.underlying t = some (.map k e)) (ty : TypeId) (tk : Array TypeId) (x : α) {l : Lit} (hx : keyOf P k (enc x) = some l) :
    ∃ w', (Builtin.delete_ (#[t] ++ tk) ty #[.map (some b), enc x]).run P w = .ok (.tuple #[]) w' ∧ MapIs P k enc w' b (fun y => if y = x then none else f y) ∧ w.grownBy w' (some b) := by
  obtain ⟨es, clock, hb, h1, h2, h3⟩ := h
  have hlt := (Array.getElem?_eq_some_iff.1 hb).1
  have ht0 : (#[t] ++ tk)[0]? = some t := by simp [Array.getElem?_append]
  have hnew : ∀ o, (setBlock w b o).heap[b]? = some o := fun o => by simp [setBlock, hlt]
  rcases K.find w hx es.toList (fun e he => let ⟨y, l, e1, e2, _⟩ := h1 e he; ⟨l, by rw [e1]; exact e2⟩) with ⟨g1, g2⟩ | ⟨j, e0, g1, g2, g3⟩
  · refine ⟨_, by simp [Builtin.delete_, ht0, run_underlying ht, MapKept.run_getObj_map hb, K.check w _ hx, g1, MapKept.run_setObj_map _ hb, Result.andThen, setBlock], ⟨es, clock, hnew _, ?_, ?_, h3⟩, grownBy_setBlock _ _ _⟩
    · intro e he
      obtain ⟨y, l', e1, e2, e3⟩ := h1 e he
      have : y ≠ x := fun hyx => g2 e he (by rw [e1, hyx])
      exact ⟨y, l', e1, e2, by simpa [this] using e3⟩
    · intro y u hy
      by_cases hyx : y = x
      · simp [hyx] at hy
      · simp only [if_neg hyx] at hy
        exact h2 y u hy
  · have hj : es[j]? = some e0 := by simpa using g2
    have back : ∀ (i : Nat) (e : MapEntry), (es.toList.eraseIdx j)[i]? = some e → ∃ i' : Nat, i' ≠ j ∧ es[i']? = some e := by
      intro i e hi
      rw [List.getElem?_eraseIdx] at hi
      split at hi
      · exact ⟨i, by omega, by simpa using hi⟩
      · exact ⟨i + 1, by omega, by simpa using hi⟩
    refine ⟨_, by simp [Builtin.delete_, ht0, run_underlying ht, MapKept.run_getObj_map hb, K.check w _ hx, g1, MapKept.run_setObj_map _ hb, Result.andThen, setBlock], ⟨es.eraseIdxIfInBounds j, clock, hnew _, ?_, ?_, ?_⟩, grownBy_setBlock _ _ _⟩
    · intro e he
      rw [Array.toList_eraseIdxIfInBounds] at he
      obtain ⟨i, hi⟩ := List.getElem?_of_mem he
      obtain ⟨i', hne, hi'⟩ := back i e hi
      obtain ⟨y, l', e1, e2, e3⟩ := h1 e (List.mem_of_getElem? (i := i') (by simpa using hi'))
      have hyx : y ≠ x := fun hyx => hne (h3 i' j e e0 hi' hj (by rw [e1, hyx, g3]))
      exact ⟨y, l', e1, e2, by simpa [hyx] using e3⟩
    · intro y u hy
      by_cases hyx : y = x
      · simp [hyx] at hy
      · simp only [if_neg hyx] at hy
        obtain ⟨e1, he1, r1, r2⟩ := h2 y u hy
        obtain ⟨i, hi⟩ := List.getElem?_of_mem he1
        have hij : i ≠ j := by
          rintro rfl
          rw [g2] at hi
          injection hi with hi
          exact hyx (hinj _ _ (by rw [← r1, ← hi, g3]))
        refine ⟨e1, ?_, r1, r2⟩
        rw [Array.toList_eraseIdxIfInBounds]
        refine List.mem_of_getElem? (i := if i < j then i else i - 1) ?_
        rw [List.getElem?_eraseIdx]
        by_cases hlt' : i < j
        · simp only [hlt', if_true]; exact hi
        · simp only [hlt', if_false]
          rw [if_neg (by omega), show i - 1 + 1 = i by omega]
          exact hi
    · intro i i' ei ei' hi hi' hii
      have hi1 : (es.toList.eraseIdx j)[i]? = some ei := by rw [← Array.toList_eraseIdxIfInBounds, Array.getElem?_toList]; exact hi
      have hi2 : (es.toList.eraseIdx j)[i']? = some ei' := by rw [← Array.toList_eraseIdxIfInBounds, Array.getElem?_toList]; exact hi'
      rw [List.getElem?_eraseIdx] at hi1 hi2
      have key : ∀ {m n : Nat}, es.toList[m]? = some ei → es.toList[n]? = some ei' → m = n := fun {m n} hm hn => h3 m n ei ei' (by simpa using hm) (by simpa using hn) hii
      split at hi1 <;> split at hi2 <;> have := key hi1 hi2 <;> omega

theorem wpList_lookup_is {ops : Array Oper} {rest : List Oper} {o : Oper} {a : Act} {Q : Exit → Act → World → Prop} (hg : o.guard = none) (m i : Operand) (t : TypeId) (c : Bool) (hop : o.op = Op.lookup t m i c)
    (k e : TypeId) (enc : α → Value) (K : Keyed P k) (hinj : ∀ x y, enc x = enc y → x = y) (ht : P.underlying t = some (.map k e)) (b : Nat) (f : α → Option Value) (hm : a.eval m = .map (some b)) (h : MapIs P k enc w b f)
    (x : α) (hi : a.eval i = enc x) {l : Lit} (hx : keyOf P k (enc x) = some l) (z : Value) (hz : (zeroValue e).run P w = .ok z w)
    (hK : wpList P ops Q rest (a.put o.dst (if c then .tuple #[(f x).getD z, .bool (f x).isSome] else (f x).getD z)) w) : wpList P ops Q (o :: rest) a w := by
  refine wpList_plain hg fun K' hK' => ?_
  have hrun := h.run_lookup K hinj ht hz c x hx
  unfold Oper.wp
  simp [execOp, hop, hm, hi, hrun, Result.andThen]
  exact hK' _ _ (by simpa using hK)

theorem wpList_mapUpdate_is [DecidableEq α] {ops : Array Oper} {rest : List Oper} {o : Oper} {a : Act} {Q : Exit → Act → World → Prop} (hg : o.guard = none) (m i v : Operand) (t : TypeId) (hop : o.op = Op.mapUpdate t m i v)
    (k e : TypeId) (enc : α → Value) (K : Keyed P k) (hinj : ∀ x y, enc x = enc y → x = y) (ht : P.underlying t = some (.map k e)) (b : Nat) (f : α → Option Value) (hm : a.eval m = .map (some b)) (h : MapIs P k enc w b f)
    (x : α) (hi : a.eval i = enc x) {l : Lit} (hx : keyOf P k (enc x) = some l) (u : Value) (hv : a.eval v = u)
    (hK : ∀ w', MapIs P k enc w' b (fun y => if y = x then some u else f y) → w.grownBy w' (some b) → wpList P ops Q rest (a.put o.dst undef) w') : wpList P ops Q (o :: rest) a w := by
  refine wpList_plain hg fun K' hK' => ?_
  obtain ⟨w', hrun, r1, r2⟩ := h.run_update K hinj ht x hx u
  unfold Oper.wp
  simp [execOp, hop, hm, hi, hv, hrun, Result.andThen]
  exact hK' _ _ (hK w' r1 r2)
end

theorem int_enc_inj (x y : Int) (h : Value.int .i64 x = Value.int .i64 y) : x = y := by injection h
end Go.Proofs.YteeefedoffplmaaGreat

/- An audit's claim at a key that has none. Conditions: the map lies in memory; the key fits an int64. -/
namespace Go.Proofs.YteeefedoffplmaaGreat
open Go.RowKit Go.Maps

def UseS.cells (u : UseS) : List Value := [.int .i64 u.kind, .int .i64 u.part, .int .i64 u.from_, .int .i64 u.to, .int .i64 u.worker]
def UseS.val (u : UseS) : Value := .agg #[.int .i64 u.kind, .int .i64 u.part, .int .i64 u.from_, .int .i64 u.to, .int .i64 u.worker]
theorem keyed3 : Keyed Tryz.prog 3 := int_keyed Tryz.underlying3
theorem key3 {a : Int} (h : In64 a) : keyOf Tryz.prog 3 (.int .i64 a) = some (.int .i64 a) := keyOf_int_mk Tryz.underlying3 (WalkArith.wf_i64 h)
theorem under131 : Tryz.prog.underlying 131 = some (.map 3 62) := by kernel_rfl
theorem zero62 (w : World) : (zeroValue 62).run Tryz.prog w = .ok (.agg #[.int .i64 0, .int .i64 0, .int .i64 0, .int .i64 0, .int .i64 0]) w := by kernel_rfl
/-- the claims so far, the first one of a handle first. -/
def asMap (l : List (Int × UseS)) : Int → Option Value := fun k => (l.find? (fun x => decide (x.1 = k))).map (fun x => x.2.val)
abbrev ClaimMap (w : World) (b : Nat) (l : List (Int × UseS)) : Prop := MapIs Tryz.prog 3 (Value.int .i64 ·) w b (asMap l)
theorem asMap_put {l : List (Int × UseS)} {k : Int} {u : UseS} (h : asMap l k = none) : (fun y => if y = k then some u.val else asMap l y) = asMap (l ++ [(k, u)]) := by
  funext y
  unfold asMap at *
  rw [List.find?_append]
  by_cases hy : y = k
  · subst hy
    simp only [Option.map_eq_none_iff] at h
    simp [h]
  · have : k ≠ y := fun e => hy e.symm
    simp [hy, this]
theorem asMap_none {l : List (Int × UseS)} {k : Int} (h : k ∉ l.map (·.1)) : asMap l k = none := by
  unfold asMap
  simp only [Option.map_eq_none_iff, List.find?_eq_none, decide_eq_true_eq]
  intro x hx e
  exact h (List.mem_map.2 ⟨x, hx, e⟩)
theorem Only.of_map {X : List Nat} {a b c : World} {m : Nat} (h : Only X a b) (hg : b.grownBy c (some m)) (hm : a.heap.size ≤ m ∨ m ∈ X) : Only X a c := h.grown hg (fun k hk => by injection hk with hk; subst hk; exact hm)
set_option maxRecDepth 100000 in
set_option maxHeartbeats 800000 in
theorem claimNew_any (w : World) (b : Nat) (l : List (Int × UseS)) (hm : ClaimMap w b l) (k : Int) (hk : In64 k) (hn : k ∉ l.map (·.1)) (u : UseS) (fn : Value) :
    Calls Tryz.prog 117 #[.map (some b), .int .i64 k, u.val, fn] w fun e w' => e = .returned (.tuple #[]) ∧ ClaimMap w' b (l ++ [(k, u)]) ∧ Only [b] w w' := by
  have h0 := asMap_none hn
  have hkey := key3 hk
  have hz := zero62
  have HP := Lib.hid (asMap_put (u := u) h0)
  have hbl := hm.lt
  unfold UseS.val at HP
  unfold UseS.val
  obtain ⟨u0, u1, u2, u3, u4⟩ := u
  dsimp only at *
  obtain ⟨w0, hw0⟩ : ∃ w0, w.alloc (.cells #[.int .i64 u0, .int .i64 u1, .int .i64 u2, .int .i64 u3, .int .i64 u4] 62) = w0 := ⟨_, rfl⟩
  have ho0 : Only [] w w0 := by rw [← hw0]; exact (Only.refl _ _).alloc _
  have hb0 : Blk w0 w.heap.size [.int .i64 u0, .int .i64 u1, .int .i64 u2, .int .i64 u3, .int .i64 u4] 62 := by rw [← hw0]; exact Blk.new w _ 62
  have hm0 : ClaimMap w0 b l := hm.below ho0.below
  have hb1 := hb0.alloc (.cells #[.int .i64 0, .int .i64 0, .int .i64 0, .int .i64 0, .int .i64 0] 62)
  have d0 := hb1.cell (i := 0) rfl
  have d1 := hb1.cell (i := 1) rfl
  have d2 := hb1.cell (i := 2) rfl
  have d3 := hb1.cell (i := 3) rfl
  have d4 := hb1.cell (i := 4) rfl
  have HM1 := Lib.hid (hm0.below (((Only.refl [] w0).alloc (.cells #[.int .i64 0, .int .i64 0, .int .i64 0, .int .i64 0, .int .i64 0] 62)).below))
  have HM0 := Lib.hid hm0; have HK := Lib.hid hkey; have H0 := Lib.hid h0; have HO0 := Lib.hid ho0; have HB0 := Lib.hid hb0
  clear hm hk hn h0 hkey hm0 ho0 hb0 hb1
  go_enter Tryz.func117, Tryz.ntmps117
  go_wp2_with (first | (at_lookup; refine wpList_lookup_is rfl (.tmp 11) (.tmp 12) 131 true rfl 3 62 (Value.int .i64 ·) keyed3 int_enc_inj under131 b _ rfl HM0.out k rfl HK.out _ (hz _) ?_; rw [H0.out]) | (at_mapUpdate; refine wpList_mapUpdate_is rfl (.tmp 21) (.tmp 22) (.tmp 23) 131 rfl 3 62 (Value.int .i64 ·) keyed3 int_enc_inj under131 b _ rfl HM1.out k rfl HK.out (.agg #[.int .i64 u0, .int .i64 u1, .int .i64 u2, .int .i64 u3, .int .i64 u4]) rfl ?_; intro w3 hm3 hg3; rw [HP.out] at hm3; have HM3 := Lib.hid hm3; have HG3 := Lib.hid hg3; clear hm3 hg3))
  go_end0
  exact ⟨rfl, HM3.out, ((HO0.out.mono (by simp)).alloc _).of_map HG3.out (.inr (by simp))⟩
end Go.Proofs.YteeefedoffplmaaGreat
