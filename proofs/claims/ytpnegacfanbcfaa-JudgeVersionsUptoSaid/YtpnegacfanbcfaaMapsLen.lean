/- The same laws with how many entries there are. -/
import Derived.Test.YtpnegacfanbcfaaMaps
namespace Go.Proofs.Ytpnegacfanbcfaa
open Go.RowKit Go.Maps
open Go.ChangeMaps (setBlock)

section
variable {α : Type} {P : Program} {k t e : TypeId} {enc : α → Value} {w : World} {b n : Nat} {f : α → Option Value}

/-- .. of n entries. -/
def MapSz (P : Program) (k : TypeId) (enc : α → Value) (w : World) (b : Nat) (f : α → Option Value) (n : Nat) : Prop :=
  MapIs P k enc w b f ∧ ∃ es c, w.heap[b]? = some (.map es c) ∧ es.size = n
theorem MapSz.made : MapSz P k enc (w.alloc (.map #[] 0)) w.heap.size (fun _ => none) 0 := ⟨MapIs.made, #[], 0, heap_alloc_new w _, rfl⟩
theorem MapSz.kept {w' : World} (h : MapSz P k enc w b f n) (hb : w'.heap[b]? = w.heap[b]?) : MapSz P k enc w' b f n :=
  ⟨h.1.kept hb, let ⟨es, c, h1, h2⟩ := h.2; ⟨es, c, hb.trans h1, h2⟩⟩
theorem MapSz.below {w' : World} (h : MapSz P k enc w b f n) (hb : Below w.heap.size w w') : MapSz P k enc w' b f n := h.kept (hb.block _ h.1.lt)

theorem MapSz.run_len (h : MapSz P k enc w b f n) (ht : P.underlying t = some (.map k e)) (ty : TypeId) : (Builtin.len_ #[t] ty #[.map (some b)]).run P w = .ok (.int .i64 n) w := by
  obtain ⟨_, es, c, hb, rfl⟩ := h
  simp [Builtin.len_, run_underlying ht, MapKept.run_getObj_map hb, goInt, Result.andThen]

theorem MapSz.run_new [DecidableEq α] (h : MapSz P k enc w b f n) (K : Keyed P k) (hinj : ∀ x y, enc x = enc y → x = y) (ht : P.underlying t = some (.map k e)) (x : α) {l : Lit} (hx : keyOf P k (enc x) = some l) (v : Value) (hf : f x = none) :
    ∃ w', (Instr.mapUpdate t (.map (some b)) (enc x) v).run P w = .ok () w' ∧ MapSz P k enc w' b (fun y => if y = x then some v else f y) (n + 1) ∧ w.grownBy w' (some b) := by
  obtain ⟨w', hrun, hm, hg⟩ := h.1.run_update K hinj ht x hx v
  refine ⟨w', hrun, ⟨hm, ?_⟩, hg⟩
  obtain ⟨⟨es, clock, hb, h1, h2, h3⟩, es1, c1, hb1, hn⟩ := h
  rw [hb] at hb1
  injection hb1 with hb1
  injection hb1 with e1 e2
  subst e1
  have hlt := (Array.getElem?_eq_some_iff.1 hb).1
  rcases K.find w hx es.toList (fun e he => let ⟨y, l, e1, e2, _⟩ := h1 e he; ⟨l, by rw [e1]; exact e2⟩) with ⟨g1, g2⟩ | ⟨j, e0, g1, g2, g3⟩
  · have hr2 : (Instr.mapUpdate t (.map (some b)) (enc x) v).run P w = .ok () (setBlock w b (.map (es.push ⟨enc x, v, clock⟩) (clock + 1))) := by
      simp [Instr.mapUpdate, run_underlying ht, MapKept.run_getObj_map hb, K.check w false hx, g1, MapKept.run_setObj_map _ hb, Result.andThen, setBlock]
    rw [hrun] at hr2
    injection hr2 with _ hw
    subst hw
    exact ⟨_, _, by simp [setBlock, hlt]; exact ⟨rfl, rfl⟩, by simp [hn]⟩
  · obtain ⟨y, l', e1, _, e3⟩ := h1 e0 (List.mem_of_getElem? g2)
    have : y = x := hinj _ _ (e1.symm.trans g3)
    subst this
    rw [hf] at e3
    cases e3

theorem wpList_len_is {ops : Array Oper} {rest : List Oper} {o : Oper} {a : Act} {Q : Exit → Act → World → Prop} (hg : o.guard = none) (m : Operand) (t : TypeId) (hop : o.op = Op.call { callee := Callee.builtin Builtin.len, args := #[m], argTypes := #[t] })
    (k e : TypeId) (enc : α → Value) (ht : P.underlying t = some (.map k e)) (b : Nat) (f : α → Option Value) (n : Nat) (hm : a.eval m = .map (some b)) (h : MapSz P k enc w b f n)
    (hK : wpList P ops Q rest (a.put o.dst (.int .i64 n)) w) : wpList P ops Q (o :: rest) a w := by
  refine wpList_plain hg fun K' hK' => ?_
  unfold Oper.wp
  simp [execOp, hop, resolve, invoke, builtin, hm, h.run_len ht o.type, Result.andThen]
  exact hK' _ _ hK
theorem wpList_mapUpdate_new [DecidableEq α] {ops : Array Oper} {rest : List Oper} {o : Oper} {a : Act} {Q : Exit → Act → World → Prop} (hg : o.guard = none) (m i v : Operand) (t : TypeId) (hop : o.op = Op.mapUpdate t m i v)
    (k e : TypeId) (enc : α → Value) (K : Keyed P k) (hinj : ∀ x y, enc x = enc y → x = y) (ht : P.underlying t = some (.map k e)) (b : Nat) (f : α → Option Value) (n : Nat) (hm : a.eval m = .map (some b)) (h : MapSz P k enc w b f n)
    (x : α) (hi : a.eval i = enc x) {l : Lit} (hx : keyOf P k (enc x) = some l) (u : Value) (hv : a.eval v = u) (hf : f x = none)
    (hK : ∀ w', MapSz P k enc w' b (fun y => if y = x then some u else f y) (n + 1) → w.grownBy w' (some b) → wpList P ops Q rest (a.put o.dst undef) w') : wpList P ops Q (o :: rest) a w := by
  refine wpList_plain hg fun K' hK' => ?_
  obtain ⟨w', hrun, r1, r2⟩ := h.run_new K hinj ht x hx u hf
  unfold Oper.wp
  simp [execOp, hop, hm, hi, hv, hrun, Result.andThen]
  exact hK' _ _ (hK w' r1 r2)
end
end Go.Proofs.Ytpnegacfanbcfaa
