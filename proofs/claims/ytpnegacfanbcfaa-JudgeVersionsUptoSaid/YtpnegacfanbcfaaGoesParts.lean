/- judge's search: what its walk carries. -/
import Derived.Test.YtpnegacfanbcfaaDoes
import Derived.Test.YtpnegacfanbcfaaEnv
import Derived.Deep.DeepCutAuto
import Derived.Deep.LoopGhost
import Derived.Deep.RegionWith
import Derived.RegionTactic
import Derived.BigRegion
import Derived.ChangeAlike
namespace Go.Proofs.Ytpnegacfanbcfaa
open Go.RowKit Go.Maps

theorem judgeAhead (e b : Int) (w : World) : Calls Try.prog 49 #[.int .i64 e, .int .i64 b] w fun r w' => r = .returned (.bool (aheadB e b)) ∧ w' = w := by
  by_cases h0 : e = 0
  · subst h0
    go_enter Try.func49, Try.ntmps49
    go_wp2
    go_ret
    exact ⟨by simp [aheadB], rfl⟩
  · have h1 : (e == 0) = false := by simpa using h0
    go_enter Try.func49, Try.ntmps49
    go_wp2
    all_goals
      go_ret
      refine ⟨ret_bool ?_, rfl⟩
      simp_all [aheadB, bne]

/-- what is handed back: the least order behind what stands already; or nothing. -/
def Found (l : List Deed) (ci : List Nat) (ended B : Nat) (s : St) (xs : List Nat) (r : Value) (b : Bool) (w' : World) : Prop :=
  (least l ci ended s = none ∧ r = .slice none 0 0 ∧ b = false) ∨ ∃ t, least l ci ended s = some t ∧ b = true ∧ w'.ownsRow B 3 1 r (xs.length + t.length) (ints (xs ++ t))
/-- what goes leaves. -/
def GoesPost (l : List Deed) (ci : List Nat) (ended X M : Nat) (lA cA : Option Addr) (lc cc B : Nat) (s : St) (xs : List Nat) (w : World) (e : Ending) (w' : World) : Prop :=
  Env l ci ended X M lA cA lc cc w' ∧ w.grownBy w' (some M) ∧ ∃ r b, e = .returned (.tuple #[r, .bool b]) ∧ Found l ci ended B s xs r b w'

theorem pow_lt64 (j : Nat) (h : j < 64) : 2 ^ j < 18446744073709551616 := by
  have : 2 ^ j < 2 ^ 64 := Nat.pow_lt_pow_right (by omega) h
  simpa using this
theorem wrap_pow (j : Nat) (h : j < 64) : IntKind.u64.wrap ((2 : Int) ^ j) = ((2 ^ j : Nat) : Int) := by
  have h1 := pow_lt64 j h
  rw [show (2 : Int) ^ j = ((2 ^ j : Nat) : Int) by simp, IntKind.wrap_u64]
  generalize 2 ^ j = p at *
  omega
theorem and_pow (a j : Nat) : a &&& 2 ^ j = if a.testBit j then 2 ^ j else 0 := by
  apply Nat.eq_of_testBit_eq
  intro i
  rw [Nat.testBit_and, Nat.testBit_two_pow]
  by_cases hij : j = i
  · subst hij
    cases h : a.testBit j <;> simp
  · cases h : a.testBit j <;> simp [hij]
theorem bitTest (inn j : Nat) (h1 : inn < 18446744073709551616) (h : j < 64) : (bits .and .u64 (inn : Int) (IntKind.u64.wrap ((2 : Int) ^ j)) != 0) = inn.testBit j := by
  rw [wrap_pow j h, bits_and_u64_nat _ _ h1 (pow_lt64 j h), and_pow]
  have hp : 0 < 2 ^ j := Nat.two_pow_pos j
  cases inn.testBit j
  · simp
  · have h3 : 2 ^ j ≠ 0 := by omega
    simp only [if_true, bne_iff_ne, ne_eq]
    exact_mod_cast h3
theorem bitTest0 (inn j : Nat) (h1 : inn < 18446744073709551616) (h : j < 64) : (bits .and .u64 (inn : Int) (IntKind.u64.wrap ((2 : Int) ^ j)) == 0) = !inn.testBit j := by
  have := bitTest inn j h1 h
  rw [← this]
  simp [bne]

/-- .. while it goes over the deeds. -/
structure GInv (l : List Deed) (ci : List Nat) (ended X M : Nat) (lA cA : Option Addr) (lc cc : Nat) (s : St) (w wr : World) : Prop where
  e : Env l ci ended X M lA cA lc cc wr
  g : w.grownBy wr (some M)
  s : wr.heap[w.heap.size]? = some (.cells s.vals.toArray 71 (0, 0))
theorem GInv.below {l : List Deed} {ci : List Nat} {ended X M : Nat} {lA cA : Option Addr} {lc cc : Nat} {s : St} {w wr wr' : World} (h : GInv l ci ended X M lA cA lc cc s w wr) (hb : Below wr.heap.size wr wr') : GInv l ci ended X M lA cA lc cc s w wr' :=
  ⟨h.e.below hb, h.g.trans (grownBy_of_below hb), (hb.block _ (Array.getElem?_eq_some_iff.1 h.s).1).trans h.s⟩
def GRel (l : List Deed) (ci : List Nat) (ended X M : Nat) (lA cA : Option Addr) (lc cc : Nat) (s : St) (w : World) (k : Nat) (i : Value) (wr : World) : Prop :=
  ∃ j : Nat, j ≤ l.length ∧ i = .int .i64 j ∧ k = l.length - j ∧ GInv l ci ended X M lA cA lc cc s w wr ∧ ∀ j', j' < j → tryK (least l ci ended) l ci s j' = none

def Deed.arr (d : Deed) : Array Value := #[.int .i64 d.begin_, .int .i64 d.end_, .int .i64 d.kind, .int .i64 d.a, .int .i64 d.b, .int .i64 d.c, .int .i64 d.n, .bool d.ok]
def IRel (l : List Deed) (ci : List Nat) (ended X M : Nat) (lA cA : Option Addr) (lc cc : Nat) (s : St) (w : World) (d : Deed) (D0 : Nat) (k : Nat) (i : Value) (wr : World) : Prop :=
  ∃ j : Nat, j ≤ l.length ∧ i = .int .i64 j ∧ k = l.length - j ∧ GInv l ci ended X M lA cA lc cc s w wr ∧ wr.heap[D0]? = some (.cells d.arr 27 (0, 0)) ∧ ∀ j' e, j' < j → l[j']? = some e → s.inn.testBit j' = true ∨ aheadB e.end_ d.begin_ = false

/-- behind the call of itself. -/
def CRel (l : List Deed) (ci : List Nat) (ended X M : Nat) (lA cA : Option Addr) (lc cc B : Nat) (s s' : St) (xs : List Nat) (w : World) (r b : Value) (wr : World) : Prop :=
  GInv l ci ended X M lA cA lc cc s w wr ∧ ∃ c, b = .bool c ∧ Found l ci ended B s' xs r c wr
theorem own_grown_map {w w' : World} {B e size n M : Nat} {v : Value} {xs : List Value} (h : w.ownsRow B e size v n xs) (hM : ∃ es c, w.heap[M]? = some (.map es c)) (hg : w.grownBy w' (some M)) : w'.ownsRow B e size v n xs := by
  refine own_grown h hg (fun g hv e1 => ?_)
  injection e1 with e1
  subst e1
  obtain ⟨es, c, hM⟩ := hM
  rcases h.2 with ⟨rfl, _⟩ | ⟨g', cap, cur, rfl, _, hh, _⟩
  · simp [Value.ownBlock] at hv
  · simp [Value.ownBlock] at hv
    subst hv
    rw [hM] at hh
    cases hh

def doneTest (inn ended : Nat) : Bool := bits .and .u64 inn ended == (ended : Int)
theorem doneTest_iff (inn ended : Nat) (h1 : inn < 18446744073709551616) (h2 : ended < 18446744073709551616) : doneTest inn ended = decide (inn &&& ended = ended) := by
  unfold doneTest
  rw [bits_and_u64_nat _ _ h1 h2, Bool.eq_iff_iff]
  simp
  omega

theorem St.vals_get {s : St} (h : s.Ok) {ci : List Nat} {j cj : Nat} (hc : ci[j]? = some cj) (h64 : cj < 64) : s.vals.toArray[1 + cj]? = some (.int .i64 (cellOf ci s j)) := by
  have hl : cj < s.cells.length := by rw [h.len]; exact h64
  have hg : ci.getD j 0 = cj := by simp [List.getD, hc]
  rw [Nat.add_comm, cellOf, hg]
  simp [St.vals, List.getElem?_eq_getElem hl, List.getD]
theorem cellOf_fit {s : St} (h : s.Ok) (ci : List Nat) (j : Nat) : inI64 (cellOf ci s j) := by
  unfold cellOf
  rw [List.getD]
  cases hc : s.cells[ci.getD j 0]? with
  | none => simp [inI64]
  | some v => exact h.fit _ (List.mem_of_getElem? hc)
def z71 : Value := .agg (.int .u64 0 :: List.replicate 64 (.int .i64 0)).toArray
theorem zero71 (w : World) : (zeroValue 71).run Try.prog w = .ok z71 w := by kernel_rfl
theorem St.vals_oneCell (s : St) : s.vals.toArray.all (·.oneCell') = true := by
  rw [Array.all_eq_true_iff_forall_mem]
  intro v hv
  simp only [List.mem_toArray, St.vals, List.mem_cons, List.mem_map] at hv
  rcases hv with rfl | ⟨x, _, rfl⟩ <;> rfl
theorem wpList_store_new {P : Program} {ops : Array Oper} {rest : List Oper} {o : Oper} {a : Act} {w : World} {Q : Exit → Act → World → Prop} (hgd : o.guard = none) (ty : TypeId) (x y : Operand) (ho : o.op = .store ty x y)
    (cells old : Array Value) (hx : a.eval x = .pointer (some ⟨w.heap.size, 0, none⟩)) (hy : a.eval y = .agg cells) (hi : (P.info? ty).map (·.size) = some cells.size)
    (hold : old.size = cells.size) (h1 : cells.all (·.oneCell') = true)
    (h : wpList P ops Q rest (a.put o.dst undef) (w.alloc (.cells cells ty))) : wpList P ops Q (o :: rest) a (w.alloc (.cells old ty)) := by
  refine wpList_store_row hgd ty x y ho w.heap.size cells hx hy ty old (heap_alloc_new w _) hi hold h1 ?_
  rw [World.setRow_alloc_new]
  exact h
theorem set_block {w : World} {b i : Nat} {cs : Array Value} {t : TypeId} {fr : Nat × Nat} (h : w.heap[b]? = some (.cells cs t fr)) (v : Value) : (w.setCell ⟨b, i, none⟩ v).heap[b]? = some (.cells (cs.setIfInBounds i v) t fr) := by
  simp [World.setCell, Array.getElem?_modify, h]
theorem frozen_block {w : World} {b i : Nat} {cs : Array Value} {t : TypeId} (h : w.heap[b]? = some (.cells cs t (0, 0))) : w.frozen? ⟨b, i, none⟩ = false := by simp [World.frozen?, h]
theorem below_set {w w' : World} {b i : Nat} {v : Value} {B : Nat} (h : Below B w w') (hB : B ≤ b) : Below B w (w'.setCell ⟨b, i, none⟩ v) := h.setCell hB v
theorem St.vals_next {s : St} {ci : List Nat} {j cj : Nat} {d : Deed} (hc : ci[j]? = some cj) (hin : s.inn < 18446744073709551616) (hj : j < 64) :
    (s.vals.toArray.setIfInBounds 0 (.int .u64 (bits .or .u64 (s.inn : Int) (IntKind.u64.wrap ((2 : Int) ^ j))))).setIfInBounds (1 + cj) (.int .i64 (doesNext d (cellOf ci s j))) = (nextSt ci s j d).vals.toArray := by
  have hg : ci.getD j 0 = cj := by simp [List.getD, hc]
  rw [wrap_pow j hj, bits_or_u64_nat _ _ hin (pow_lt64 j hj)]
  simp only [St.vals, nextSt, hg, List.setIfInBounds_toArray, List.set_cons_zero, Nat.add_comm 1 cj, List.set_cons_succ, List.map_set]
theorem nextSt_ok {s : St} (h : s.Ok) {ci : List Nat} {j : Nat} {d : Deed} (hd : d.Ok) (hj : j < 64) : (nextSt ci s j d).Ok := by
  refine ⟨?_, by simp [nextSt, h.len], fun x hx => ?_⟩
  · have h1 : s.inn < 2 ^ 64 := by have := h.inn; simpa using this
    have h2 : 2 ^ j < 2 ^ 64 := Nat.pow_lt_pow_right (by omega) hj
    have := Nat.or_lt_two_pow h1 h2
    simpa [nextSt] using this
  · rcases List.mem_or_eq_of_mem_set hx with hx | rfl
    · exact h.fit x hx
    · exact doesNext_fit hd (cellOf_fit h ci j)
theorem row_one {w : World} {b : Nat} {v : Value} (h : w.cell? ⟨b, 0, none⟩ = some v) : Row w (some ⟨b, 0, none⟩) [v] := by
  intro j u hu
  match j, hu with
  | 0, hu =>
    simp at hu
    subst hu
    exact ⟨b, 0, rfl, h⟩
theorem GInv.grown {l : List Deed} {ci : List Nat} {ended X M : Nat} {lA cA : Option Addr} {lc cc : Nat} {s : St} {w wr wr' : World} (h : GInv l ci ended X M lA cA lc cc s w wr) (he : Env l ci ended X M lA cA lc cc wr') (hg : wr.grownBy wr' (some M)) : GInv l ci ended X M lA cA lc cc s w wr' := by
  refine ⟨he, h.g.trans hg, ?_⟩
  rw [hg.block _ (Array.getElem?_eq_some_iff.1 h.s).1 (fun e => ?_)]
  · exact h.s
  · injection e with e
    obtain ⟨es, c, hM⟩ := h.e.raw
    rw [← e, h.s] at hM
    cases hM
theorem cell_new (w : World) (v : Value) (t : TypeId) : (w.alloc (.cells #[v] t)).cell? ⟨w.heap.size, 0, none⟩ = some v := by
  rw [cell_of_row _ _ 0 _ _ _ (heap_alloc_new w _)]
  rfl
end Go.Proofs.Ytpnegacfanbcfaa
