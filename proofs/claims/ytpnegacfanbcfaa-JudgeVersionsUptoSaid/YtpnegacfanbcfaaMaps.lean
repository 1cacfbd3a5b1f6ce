/- Raw laws on a map's block, over any key type with the kit's 'Keyed'. No condition on its size. -/
import Derived.Test.YtpnegacfanbcfaaWords
import Derived.Maps.Own
import Derived.Maps.OwnOps
import Derived.Maps.OwnSet
namespace Go.Proofs.Ytpnegacfanbcfaa
open Go.RowKit Go.Maps
open Go.ChangeMaps (setBlock)

section
variable {α : Type}

/-- block b is a map: the key 'enc x' leads to f x. -/
def MapIs (P : Program) (k : TypeId) (enc : α → Value) (w : World) (b : Nat) (f : α → Option Value) : Prop :=
  ∃ (es : Array MapEntry) (clock : Nat), w.heap[b]? = some (.map es clock) ∧ (∀ e ∈ es.toList, ∃ x l, e.key = enc x ∧ keyOf P k (enc x) = some l ∧ f x = some e.val) ∧
    (∀ x v, f x = some v → ∃ e ∈ es.toList, e.key = enc x ∧ e.val = v) ∧ ∀ (i j : Nat) (ei ej : MapEntry), es[i]? = some ei → es[j]? = some ej → ei.key = ej.key → i = j

variable {P : Program} {k t e : TypeId} {enc : α → Value} {w : World} {b : Nat} {f : α → Option Value}

theorem MapIs.made : MapIs P k enc (w.alloc (.map #[] 0)) w.heap.size (fun _ => none) :=
  ⟨#[], 0, heap_alloc_new w _, by simp, by simp, by simp⟩

theorem MapIs.kept {w' : World} (h : MapIs P k enc w b f) (hb : w'.heap[b]? = w.heap[b]?) : MapIs P k enc w' b f :=
  let ⟨es, c, h1, h2⟩ := h; ⟨es, c, hb.trans h1, h2⟩
theorem MapIs.lt (h : MapIs P k enc w b f) : b < w.heap.size := by
  obtain ⟨es, c, h1, _⟩ := h
  exact (Array.getElem?_eq_some_iff.1 h1).1
theorem MapIs.below {w' : World} (h : MapIs P k enc w b f) (hb : Below w.heap.size w w') : MapIs P k enc w' b f := h.kept (hb.block _ h.lt)
theorem MapIs.drewN (h : MapIs P k enc w b f) (n : Nat) : MapIs P k enc (w.drewN n) b f := h
theorem MapIs.raw (h : MapIs P k enc w b f) : ∃ es c, w.heap[b]? = some (.map es c) := let ⟨es, c, h1, _⟩ := h; ⟨es, c, h1⟩

theorem MapIs.run_lookup (h : MapIs P k enc w b f) (K : Keyed P k) (hinj : ∀ x y, enc x = enc y → x = y) (ht : P.underlying t = some (.map k e)) {z : Value} (hz : (zeroValue e).run P w = .ok z w) (c : Bool) (x : α) {l : Lit} (hx : keyOf P k (enc x) = some l) :
    (Instr.lookup t (.map (some b)) (enc x) c).run P w = .ok (if c then .tuple #[(f x).getD z, .bool (f x).isSome] else (f x).getD z) w := by
  obtain ⟨es, clock, hb, h1, h2, _⟩ := h
  rcases K.find w hx es.toList (fun e he => let ⟨y, l, e1, e2, _⟩ := h1 e he; ⟨l, by rw [e1]; exact e2⟩) with ⟨g1, g2⟩ | ⟨j, e0, g1, g2, g3⟩
  · have hf : f x = none := by
      cases hfx : f x with
      | none => rfl
      | some v =>
        obtain ⟨e1, he1, hk, _⟩ := h2 x v hfx
        exact absurd hk (g2 e1 he1)
    simp [Instr.lookup, run_underlying ht, MapKept.run_getObj_map hb, K.check w _ hx, g1, hz, Result.andThen, hf]
  · obtain ⟨y, l', e1, _, e3⟩ := h1 e0 (List.mem_of_getElem? g2)
    have : y = x := hinj _ _ (e1.symm.trans g3)
    subst this
    simp [Instr.lookup, run_underlying ht, MapKept.run_getObj_map hb, K.check w _ hx, g1, Result.andThen, e3]

theorem grownBy_setBlock (w : World) (b : Nat) (o : Obj) : w.grownBy (setBlock w b o) (some b) :=
  ⟨rfl, rfl, rfl, by simp [setBlock], fun j hj hne => by
    have : j ≠ b := fun e => hne (by rw [e])
    simp [setBlock, Ne.symm this]⟩

theorem MapIs.run_update [DecidableEq α] (h : MapIs P k enc w b f) (K : Keyed P k) (hinj : ∀ x y, enc x = enc y → x = y) (ht : P.underlying t = some (.map k e)) (x : α) {l : Lit} (hx : keyOf P k (enc x) = some l) (v : Value) :
    ∃ w', (Instr.mapUpdate t (.map (some b)) (enc x) v).run P w = .ok () w' ∧ MapIs P k enc w' b (fun y => if y = x then some v else f y) ∧ w.grownBy w' (some b) := by
  obtain ⟨es, clock, hb, h1, h2, h3⟩ := h
  have hlt := (Array.getElem?_eq_some_iff.1 hb).1
  have hnew : ∀ o, (setBlock w b o).heap[b]? = some o := fun o => by simp [setBlock, hlt]
  rcases K.find w hx es.toList (fun e he => let ⟨y, l, e1, e2, _⟩ := h1 e he; ⟨l, by rw [e1]; exact e2⟩) with ⟨g1, g2⟩ | ⟨j, e0, g1, g2, g3⟩
  · refine ⟨_, by simp [Instr.mapUpdate, run_underlying ht, MapKept.run_getObj_map hb, K.check w false hx, g1, MapKept.run_setObj_map _ hb, Result.andThen, setBlock], ⟨es.push ⟨enc x, v, clock⟩, clock + 1, hnew _, ?_, ?_, ?_⟩, grownBy_setBlock _ _ _⟩
    · intro e he
      simp only [Array.toList_push, List.mem_append, List.mem_singleton] at he
      rcases he with he | rfl
      · obtain ⟨y, l', e1, e2, e3⟩ := h1 e he
        have : y ≠ x := fun hyx => g2 e he (by rw [e1, hyx])
        exact ⟨y, l', e1, e2, by simpa [this] using e3⟩
      · exact ⟨x, l, rfl, hx, by simp⟩
    · intro y u hy
      by_cases hyx : y = x
      · subst hyx
        simp at hy
        subst hy
        exact ⟨⟨enc y, v, clock⟩, by simp, rfl, rfl⟩
      · simp only [if_neg hyx] at hy
        obtain ⟨e1, he1, r⟩ := h2 y u hy
        exact ⟨e1, by simp [he1], r⟩
    · intro i j ei ej hi hj hij
      rw [Array.getElem?_push] at hi hj
      have hmem : ∀ {i : Nat} {ei : MapEntry}, es[i]? = some ei → ei ∈ es.toList := fun {i ei} h => List.mem_of_getElem? (i := i) (by simpa using h)
      split at hi <;> split at hj
      · omega
      · injection hi with hi
        subst hi
        exact absurd hij.symm (g2 _ (hmem hj))
      · injection hj with hj
        subst hj
        exact absurd hij (g2 _ (hmem hi))
      · exact h3 i j ei ej hi hj hij
  · have hj : es[j]? = some e0 := by simpa using g2
    refine ⟨_, by simp [Instr.mapUpdate, run_underlying ht, MapKept.run_getObj_map hb, K.check w false hx, g1, hj, g3, K.stays w hx, MapKept.run_setObj_map _ hb, Result.andThen, setBlock], ⟨es.modify j (fun e => { e with key := enc x, val := v }), clock, hnew _, ?_, ?_, ?_⟩, grownBy_setBlock _ _ _⟩
    · intro e he
      obtain ⟨i, hi⟩ := List.getElem?_of_mem he
      rw [Array.getElem?_toList, Array.getElem?_modify] at hi
      by_cases hij : j = i
      · subst hij
        rw [if_pos rfl, hj] at hi
        simp at hi
        subst hi
        exact ⟨x, l, rfl, hx, by simp⟩
      · rw [if_neg hij] at hi
        obtain ⟨y, l2, a1, a2, a3⟩ := h1 e (List.mem_of_getElem? (i := i) (by simpa using hi))
        have hyx : y ≠ x := fun hyx => hij (h3 j i e0 e hj hi (by rw [g3, a1, hyx]))
        exact ⟨y, l2, a1, a2, by simpa [hyx] using a3⟩
    · intro y u hy
      by_cases hyx : y = x
      · subst hyx
        simp at hy
        subst hy
        refine ⟨{ e0 with key := enc y, val := v }, List.mem_of_getElem? (i := j) ?_, rfl, rfl⟩
        rw [Array.getElem?_toList, Array.getElem?_modify, if_pos rfl, hj]
        rfl
      · simp only [if_neg hyx] at hy
        obtain ⟨e1', he1, r1, r2⟩ := h2 y u hy
        obtain ⟨i, hi⟩ := List.getElem?_of_mem he1
        refine ⟨e1', List.mem_of_getElem? (i := i) ?_, r1, r2⟩
        rw [Array.getElem?_toList, Array.getElem?_modify, if_neg]
        · simpa using hi
        · rintro rfl
          rw [g2] at hi
          injection hi with hi
          exact hyx (hinj _ _ (by rw [← r1, ← hi, g3]))
    · intro i i' ei ei' hi hi' hii
      have key : ∀ {i : Nat} {ei : MapEntry}, (es.modify j (fun e => { e with key := enc x, val := v }))[i]? = some ei → ∃ e1 : MapEntry, es[i]? = some e1 ∧ e1.key = ei.key := by
        intro i ei hi
        rw [Array.getElem?_modify] at hi
        split at hi
        · rename_i hji
          subst hji
          rw [hj] at hi
          simp at hi
          subst hi
          exact ⟨e0, hj, g3⟩
        · exact ⟨ei, hi, rfl⟩
      obtain ⟨a, ha, hak⟩ := key hi
      obtain ⟨b, hb', hbk⟩ := key hi'
      exact h3 i i' a b ha hb' (by rw [hak, hbk, hii])

theorem MapIs.run_delete [DecidableEq α] (h : MapIs P k enc w b f) (K : Keyed P k) (hinj : ∀ x y, enc x = enc y → x = y) (ht : P.underlying t = some (.map k e)) (ty : TypeId) (tk : Array TypeId) (x : α) {l : Lit} (hx : keyOf P k (enc x) = some l) :
    ∃ w', (Builtin.delete_ (#[t] ++ tk) ty #[.map (some b), enc x]).run P w = .ok (.tuple #[]) w' ∧ MapIs P k enc w' b (fun y => if y = x then none else f y) ∧ w.grownBy w' (some b) := by
  obtain ⟨es, clock, hb, h1, h2, h3⟩ := h
  have hlt := (Array.getElem?_eq_some_iff.1 hb).1
  have ht0 : (#[t] ++ tk)[0]? = some t := by simp [Array.getElem?_append]
  have hnew : ∀ o, (setBlock w b o).heap[b]? = some o := fun o => by simp [setBlock, hlt]
  rcases K.find w hx es.toList (fun e he => let ⟨y, l, e1, e2, _⟩ := h1 e he; ⟨l, by rw [e1]; exact e2⟩) with ⟨g1, g2⟩ | ⟨j, e0, g1, g2, g3⟩
  · refine ⟨_, by simp [Builtin.delete_, ht0, run_underlying ht, MapKept.run_getObj_map hb, K.check w _ hx, g1, MapKept.run_setObj_map _ hb, Result.andThen, setBlock], ⟨es, clock, hnew _, ?_, ?_, h3⟩, grownBy_setBlock _ _ _⟩
    · intro e he
      obtain ⟨y, l', e1, e2, e3⟩ := h1 e he
      have : y ≠ x := fun hyx => g2 e he (by rw [e1, hyx])
      exact ⟨y, l', e1, e2, by simpa [this] using e3⟩
    · intro y u hy
      by_cases hyx : y = x
      · simp [hyx] at hy
      · simp only [if_neg hyx] at hy
        exact h2 y u hy
  · have hj : es[j]? = some e0 := by simpa using g2
    have back : ∀ (i : Nat) (e : MapEntry), (es.toList.eraseIdx j)[i]? = some e → ∃ i' : Nat, i' ≠ j ∧ es[i']? = some e := by
      intro i e hi
      rw [List.getElem?_eraseIdx] at hi
      split at hi
      · exact ⟨i, by omega, by simpa using hi⟩
      · exact ⟨i + 1, by omega, by simpa using hi⟩
    refine ⟨_, by simp [Builtin.delete_, ht0, run_underlying ht, MapKept.run_getObj_map hb, K.check w _ hx, g1, MapKept.run_setObj_map _ hb, Result.andThen, setBlock], ⟨es.eraseIdxIfInBounds j, clock, hnew _, ?_, ?_, ?_⟩, grownBy_setBlock _ _ _⟩
    · intro e he
      rw [Array.toList_eraseIdxIfInBounds] at he
      obtain ⟨i, hi⟩ := List.getElem?_of_mem he
      obtain ⟨i', hne, hi'⟩ := back i e hi
      obtain ⟨y, l', e1, e2, e3⟩ := h1 e (List.mem_of_getElem? (i := i') (by simpa using hi'))
      have hyx : y ≠ x := fun hyx => hne (h3 i' j e e0 hi' hj (by rw [e1, hyx, g3]))
      exact ⟨y, l', e1, e2, by simpa [hyx] using e3⟩
    · intro y u hy
      by_cases hyx : y = x
      · simp [hyx] at hy
      · simp only [if_neg hyx] at hy
        obtain ⟨e1, he1, r1, r2⟩ := h2 y u hy
        obtain ⟨i, hi⟩ := List.getElem?_of_mem he1
        have hij : i ≠ j := by
          rintro rfl
          rw [g2] at hi
          injection hi with hi
          exact hyx (hinj _ _ (by rw [← r1, ← hi, g3]))
        refine ⟨e1, ?_, r1, r2⟩
        rw [Array.toList_eraseIdxIfInBounds]
        refine List.mem_of_getElem? (i := if i < j then i else i - 1) ?_
        rw [List.getElem?_eraseIdx]
        by_cases hlt' : i < j
        · simp only [hlt', if_true]; exact hi
        · simp only [hlt', if_false]
          rw [if_neg (by omega), show i - 1 + 1 = i by omega]
          exact hi
    · intro i i' ei ei' hi hi' hii
      have hi1 : (es.toList.eraseIdx j)[i]? = some ei := by rw [← Array.toList_eraseIdxIfInBounds, Array.getElem?_toList]; exact hi
      have hi2 : (es.toList.eraseIdx j)[i']? = some ei' := by rw [← Array.toList_eraseIdxIfInBounds, Array.getElem?_toList]; exact hi'
      rw [List.getElem?_eraseIdx] at hi1 hi2
      have key : ∀ {m n : Nat}, es.toList[m]? = some ei → es.toList[n]? = some ei' → m = n := fun {m n} hm hn => h3 m n ei ei' (by simpa using hm) (by simpa using hn) hii
      split at hi1 <;> split at hi2 <;> have := key hi1 hi2 <;> omega

theorem wpList_lookup_is {ops : Array Oper} {rest : List Oper} {o : Oper} {a : Act} {Q : Exit → Act → World → Prop} (hg : o.guard = none) (m i : Operand) (t : TypeId) (c : Bool) (hop : o.op = Op.lookup t m i c)
    (k e : TypeId) (enc : α → Value) (K : Keyed P k) (hinj : ∀ x y, enc x = enc y → x = y) (ht : P.underlying t = some (.map k e)) (b : Nat) (f : α → Option Value) (hm : a.eval m = .map (some b)) (h : MapIs P k enc w b f)
    (x : α) (hi : a.eval i = enc x) {l : Lit} (hx : keyOf P k (enc x) = some l) (z : Value) (hz : (zeroValue e).run P w = .ok z w)
    (hK : wpList P ops Q rest (a.put o.dst (if c then .tuple #[(f x).getD z, .bool (f x).isSome] else (f x).getD z)) w) : wpList P ops Q (o :: rest) a w := by
  refine wpList_plain hg fun K' hK' => ?_
  have hrun := h.run_lookup K hinj ht hz c x hx
  unfold Oper.wp
  simp [execOp, hop, hm, hi, hrun, Result.andThen]
  exact hK' _ _ (by simpa using hK)

theorem wpList_mapUpdate_is [DecidableEq α] {ops : Array Oper} {rest : List Oper} {o : Oper} {a : Act} {Q : Exit → Act → World → Prop} (hg : o.guard = none) (m i v : Operand) (t : TypeId) (hop : o.op = Op.mapUpdate t m i v)
    (k e : TypeId) (enc : α → Value) (K : Keyed P k) (hinj : ∀ x y, enc x = enc y → x = y) (ht : P.underlying t = some (.map k e)) (b : Nat) (f : α → Option Value) (hm : a.eval m = .map (some b)) (h : MapIs P k enc w b f)
    (x : α) (hi : a.eval i = enc x) {l : Lit} (hx : keyOf P k (enc x) = some l) (u : Value) (hv : a.eval v = u)
    (hK : ∀ w', MapIs P k enc w' b (fun y => if y = x then some u else f y) → w.grownBy w' (some b) → wpList P ops Q rest (a.put o.dst undef) w') : wpList P ops Q (o :: rest) a w := by
  refine wpList_plain hg fun K' hK' => ?_
  obtain ⟨w', hrun, r1, r2⟩ := h.run_update K hinj ht x hx u
  unfold Oper.wp
  simp [execOp, hop, hm, hi, hv, hrun, Result.andThen]
  exact hK' _ _ (hK w' r1 r2)
end

theorem int_enc_inj (x y : Int) (h : Value.int .i64 x = Value.int .i64 y) : x = y := by injection h
end Go.Proofs.Ytpnegacfanbcfaa
