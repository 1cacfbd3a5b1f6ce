/- The chapter's examples: what Order and Versions answer of them, in plain Lean. -/
import Derived.Test.YtpnegacfanbcfaaVersP
import Derived.Test.YtpnegacfanbcfaaVers
import Derived.Test.YtpnegacfanbcfaaOrder
import Derived.Test.YtpnegacfanbcfaaSame
namespace Go.Proofs.Ytpnegacfanbcfaa
open Go.RowKit Go.Maps

def kStore : Deed := ⟨1, 4, 2, 0, 1, 0, 0, false⟩
def kA : List Deed := [kStore, ⟨2, 3, 1, 0, 0, 0, 0, false⟩]
def kB : List Deed := [kStore, ⟨2, 2, 1, 0, 0, 0, 1, false⟩, ⟨3, 3, 1, 0, 0, 0, 0, false⟩]
def kC : List Deed := [⟨1, 1, 3, 0, 2, 0, 2, false⟩, ⟨2, 0, 3, 0, 5, 0, 0, false⟩, ⟨3, 3, 1, 0, 0, 0, 2, false⟩]
theorem kA_err : orderErr [0] kA = 0 := by decide
theorem kB_err : orderErr [0] kB = 0 := by decide
theorem kC_err : orderErr [0] kC = 0 := by decide
theorem kA_ans : orderAns [0] kA = some [1, 0] := by decide
theorem kB_ans : orderAns [0] kB = none := by decide
theorem kC_ans : orderAns [0] kC = some [0, 2] := by kernel_rfl
theorem deedFit : ∀ l ∈ [kA, kB, kC], ∀ d ∈ l, d.Ok := by
  intro l hl d hd
  simp only [List.mem_cons, List.not_mem_nil, or_false] at hl
  rcases hl with rfl | rfl | rfl <;> simp only [kA, kB, kC, kStore, List.mem_cons, List.not_mem_nil, or_false] at hd <;> rcases hd with rfl | rfl | rfl <;> constructor <;> constructor <;> decide

def kW : Ev := ⟨0, 1, 4, 2, 0, 5, 2, true, 50, true, 51, none, 0, [], none, 0, []⟩
def kR (b e n : Int) : Ev := ⟨0, b, e, 1, 0, 5, n, true, 50, false, 0, none, 0, [], none, 0, []⟩
def kS : List (List (Int × Int)) := [[(5, 50)]]
theorem sort_one (l : List Blm) (x : Blm) (h : l = [x]) : sortB l = [x] := by rw [h]; simp [sortB]
theorem kX : versionsL kS [kW, kR 2 3 1] = [] := by
  have : allU [kW, kR 2 3 1] kS 2 = [] := by decide
  unfold versionsL
  exact (congrArg sortB this).trans sortB_nil
theorem kY : versionsL kS [kW, kR 5 6 1] = [⟨1, 0, 5⟩] := sort_one _ _ (by decide)
theorem kZ : versionsL kS [kW, kR 5 6 2] = [⟨1, -1, 4⟩] := sort_one _ _ (by decide)
theorem kU : versionsL kS [kW, kR 5 6 3] = [⟨1, -1, 3⟩] := sort_one _ _ (by decide)
end Go.Proofs.Ytpnegacfanbcfaa

/- The chapter's examples: the calls of Order and of Versions. -/
namespace Go.Proofs.Ytpnegacfanbcfaa
open Go.RowKit Go.Maps

def OrdYes (t : List Int) (V : World) (e : Ending) (w' : World) : Prop := ∃ A c, e = .returned (.tuple #[.slice A t.length c, .bool true, .int .i64 0]) ∧ Row w' A (intsZ t) ∧ Below V.heap.size V w'
theorem ints_intsZ (t : List Nat) : ints t = intsZ (t.map fun (i : Nat) => (i : Int)) := by simp [ints, intsZ]
theorem order_yes {l : List Deed} {t : List Nat} (herr : orderErr [0] l = 0) (hans : orderAns [0] l = some t) (hok : ∀ d ∈ l, d.Ok) (fA lA : Option Addr) (fc lc : Nat) (V : World) (hrf : Row V fA [.int .i64 0]) (hrl : Row V lA (deedCells l)) (hnl : lA = none → l.length = 0) :
    Calls Try.prog 9 #[.slice fA 1 fc, .slice lA l.length lc] V (OrdYes (t.map fun (i : Nat) => (i : Int)) V) := by
  refine (order_walk [0] l fA lA fc lc V hrf hrl hnl (fun x hx => by rw [List.mem_singleton] at hx; subst hx; constructor <;> decide) hok).mono ?_
  rintro e w' ⟨hb, r, b, rfl, hr⟩
  rcases hr with ⟨h, _⟩ | ⟨t', h, rfl, ho⟩
  · rw [hans] at h
    cases h
  · rw [hans] at h
    injection h with h
    subst h
    obtain ⟨A, c, rfl, hrow, _⟩ := row_of_own ho
    refine ⟨A, c, by rw [herr]; simp, ?_, hb⟩
    rw [← ints_intsZ]
    exact hrow
theorem order_no {l : List Deed} (herr : orderErr [0] l = 0) (hans : orderAns [0] l = none) (hok : ∀ d ∈ l, d.Ok) (fA lA : Option Addr) (fc lc : Nat) (V : World) (hrf : Row V fA [.int .i64 0]) (hrl : Row V lA (deedCells l)) (hnl : lA = none → l.length = 0) :
    Calls Try.prog 9 #[.slice fA 1 fc, .slice lA l.length lc] V fun e w' => e = .returned (.tuple #[.slice none 0 0, .bool false, .int .i64 0]) ∧ Below V.heap.size V w' := by
  refine (order_walk [0] l fA lA fc lc V hrf hrl hnl (fun x hx => by rw [List.mem_singleton] at hx; subst hx; constructor <;> decide) hok).mono ?_
  rintro e w' ⟨hb, r, b, rfl, hr⟩
  rcases hr with ⟨_, rfl, rfl⟩ | ⟨t', h, _⟩
  · exact ⟨by rw [herr], hb⟩
  · rw [hans] at h
    cases h

theorem vers_at (l : List Ev) (starts : List (List (Int × Int))) (heads : List (Option Addr × Nat)) (lA sA : Option Addr) (lc sc : Nat) (w : World) (hrow : Row w lA (evCells l)) (hin : ∀ e ∈ l, e.In w) (hok : ∀ e ∈ l, e.Ok) (hsm : ∀ e ∈ l, e.Small)
    (hst : StartIn starts heads sA w) (hsl : ∀ s ∈ starts, s.length ≤ 3000) (hsk : ∀ s ∈ starts, ∀ p ∈ s, inI64 p.1) (h1 : l.length ≤ 1024) (h2 : 1 ≤ starts.length) (h3 : starts.length ≤ 64) :
    Calls Try.prog 20 #[.slice sA starts.length sc, .slice lA l.length lc] w fun e w' => ∃ v, e = .returned (.tuple #[v, .int .i64 0]) ∧ w'.ownsRow w.heap.size 55 3 v (versionsL starts l).length (blCells (versionsL starts l)) ∧ Below w.heap.size w w' := by
  refine (versGo l starts heads lA sA lc sc w hrow hin hok hsm hst hsl hsk h1 h2 h3).mono ?_
  intro e w' h
  unfold VersPost at h
  rw [if_neg (by omega)] at h
  exact h
def VerYes (t : List Blm) (V : World) (e : Ending) (w' : World) : Prop := ∃ A c, e = .returned (.tuple #[.slice A t.length c, .int .i64 0]) ∧ w'.ownsRow V.heap.size 55 3 (.slice A t.length c) t.length (blCells t) ∧ Below V.heap.size V w'
theorem ev_in_nil {e : Ev} (w : World) (_h1 : e.nA = none) (h2 : e.nums = []) (_h3 : e.pA = none) (h4 : e.pairs = []) : e.In w :=
  ⟨by rw [h2]; exact Row.nil _ _, by rw [h4]; exact Row.nil _ _, fun _ => by rw [h2]; rfl, fun _ => by rw [h4]; rfl⟩
theorem kW_ok : kW.Ok := by constructor <;> first | (constructor <;> decide) | (intro x hx; cases hx)
theorem kR_ok (b e n : Int) (hb : inI64 b) (he : inI64 e) (hn : inI64 n) : (kR b e n).Ok := by
  constructor <;> first | assumption | (constructor <;> (simp only [kR]; decide)) | (intro x hx; cases hx)
theorem vers_k (b e n : Int) (hb : inI64 b) (he : inI64 e) (hn : inI64 n) {t : List Blm} (ht : versionsL kS [kW, kR b e n] = t) (lA : Option Addr) (pA s0 : Nat) (lc : Nat) (V : World) (hrow : Row V lA (evCells [kW, kR b e n]))
    (hs : Row V (some ⟨s0, 0, none⟩) [.slice (some ⟨pA, 0, none⟩) 1 1]) (hp : Row V (some ⟨pA, 0, none⟩) [.int .i64 5, .int .i64 50]) :
    Calls Try.prog 20 #[.slice (some ⟨s0, 0, none⟩) 1 1, .slice lA 2 lc] V (VerYes t V) := by
  refine Calls.mono (vers_at [kW, kR b e n] kS [(some ⟨pA, 0, none⟩, 1)] lA (some ⟨s0, 0, none⟩) lc 1 V hrow ?_ ?_ ?_ ⟨rfl, hs, ?_⟩ ?_ ?_ (by simp) (by simp [kS]) (by simp [kS])) ?_
  · intro x hx
    simp only [List.mem_cons, List.not_mem_nil, or_false] at hx
    rcases hx with rfl | rfl <;> exact ev_in_nil V rfl rfl rfl rfl
  · intro x hx
    simp only [List.mem_cons, List.not_mem_nil, or_false] at hx
    rcases hx with rfl | rfl
    · exact kW_ok
    · exact kR_ok b e n hb he hn
  · intro x hx
    simp only [List.mem_cons, List.not_mem_nil, or_false] at hx
    rcases hx with rfl | rfl <;> exact ⟨Nat.zero_le _, Nat.zero_le _⟩
  · intro k s h h1 h2
    cases k with
    | zero =>
      injection h1 with h1
      injection h2 with h2
      subst h1 h2
      exact hp
    | succ k => cases h1
  · intro s hs'
    rw [kS, List.mem_singleton] at hs'
    subst hs'
    decide
  · intro s hs' p hp'
    rw [kS, List.mem_singleton] at hs'
    subst hs'
    rw [List.mem_singleton] at hp'
    subst hp'
    constructor <;> decide
  · rintro e1 w' ⟨v, rfl, ho, hb1⟩
    rw [ht] at ho
    obtain ⟨A, c, rfl, hr, _⟩ := row_of_own ho
    exact ⟨A, c, rfl, ho, hb1⟩
def kDeedRel (W : World) (t : List Int) (n : Nat) (a ok e : Value) (wc : World) : Prop := ∃ A c, a = .slice A n c ∧ ok = .bool true ∧ e = .int .i64 0 ∧ Row wc A (intsZ t) ∧ Below W.heap.size W wc
def kNoRel (W : World) (a ok e : Value) (wc : World) : Prop := a = .slice none 0 0 ∧ ok = .bool false ∧ e = .int .i64 0 ∧ Below W.heap.size W wc
def kSameRel (W : World) (t : Value) (wc : World) : Prop := t = .bool false ∧ Below W.heap.size W wc
def k7Rel (W : World) (p : Value) (wc : World) : Prop := ∃ s0 pA, p = .slice (some ⟨s0, 0, none⟩) 1 1 ∧ wc.heap[s0]? = some (.cells #[.slice (some ⟨pA, 0, none⟩) 1 1] 41 (0, 0)) ∧ wc.heap[pA]? = some (.cells #[.int .i64 5, .int .i64 50] 58 (0, 0)) ∧ Below W.heap.size W wc
def kEvRel (W : World) (e : Ev) (p : Value) (wc : World) : Prop := ∃ E, p = .pointer (some ⟨E, 0, none⟩) ∧ wc.heap[E]? = some (.cells e.arr 52 (0, 0)) ∧ W.heap.size ≤ E ∧ Below W.heap.size W wc
theorem row_of_block {w : World} {b : Nat} {cs : List Value} {t : TypeId} (h : w.heap[b]? = some (.cells cs.toArray t (0, 0))) : Row w (some ⟨b, 0, none⟩) cs := fun j u hu =>
  ⟨b, 0, rfl, by rw [Nat.zero_add, cell_of_row _ _ j _ _ _ h]; simpa using hu⟩
structure KSt (w : World) (s0 pA E R : Nat) (r : Ev) (V : World) : Prop where
  s : V.heap[s0]? = some (.cells #[.slice (some ⟨pA, 0, none⟩) 1 1] 41 (0, 0))
  p : V.heap[pA]? = some (.cells #[.int .i64 5, .int .i64 50] 58 (0, 0))
  e : V.heap[E]? = some (.cells kW.arr 52 (0, 0))
  r : V.heap[R]? = some (.cells r.arr 52 (0, 0))
  ne : E ≠ R
  wR : w.heap.size ≤ R
  b : Below w.heap.size w V
theorem KSt.below {w : World} {s0 pA E R : Nat} {r : Ev} {V V' : World} (h : KSt w s0 pA E R r V) (hb : Below V.heap.size V V') : KSt w s0 pA E R r V' := by
  have lt := fun {k : Nat} {o : Obj} (hk : V.heap[k]? = some o) => (Array.getElem?_eq_some_iff.1 hk).1
  exact ⟨(hb.block _ (lt h.s)).trans h.s, (hb.block _ (lt h.p)).trans h.p, (hb.block _ (lt h.e)).trans h.e, (hb.block _ (lt h.r)).trans h.r, h.ne, h.wR, h.b.trans (hb.mono h.b.size)⟩
theorem KSt.set {w : World} {s0 pA E R : Nat} {r r' : Ev} {V : World} (h : KSt w s0 pA E R r V) (i : Nat) (v : Value) (hr : r.arr.setIfInBounds i v = r'.arr) : KSt w s0 pA E R r' (V.setCell ⟨R, i, none⟩ v) := by
  have o := fun (k : Nat) (hk : k ≠ R) => Below.heap_setCell V ⟨R, i, none⟩ v k hk
  refine ⟨(o s0 (fun e => ?_)).trans h.s, (o pA (fun e => ?_)).trans h.p, (o E h.ne).trans h.e, (set_block h.r v).trans (by rw [hr]), h.ne, h.wR, h.b.setCell h.wR v⟩
  · subst e
    have := h.s
    rw [h.r] at this
    injection this with this
    injection this with _ h2
    exact absurd h2 (by decide)
  · subst e
    have := h.p
    rw [h.r] at this
    injection this with this
    injection this with _ h2
    exact absurd h2 (by decide)
def kVersRel (V : World) (t : List Blm) (n : Nat) (x g : Value) (wc : World) : Prop := ∃ A c, x = .slice A n c ∧ g = .int .i64 0 ∧ wc.ownsRow V.heap.size 55 3 (.slice A n c) n (blCells t) ∧ Below V.heap.size V wc
theorem kown_set {w : World} {s0 pA E R B n : Nat} {r : Ev} {V : World} {v : Value} {xs : List Value} (h : KSt w s0 pA E R r V) (ho : V.ownsRow B 55 3 v n xs) (i : Nat) (u : Value) : (V.setCell ⟨R, i, none⟩ u).ownsRow B 55 3 v n xs :=
  own_setCell ho (fun cs hc => by rw [h.r] at hc; cases hc) u
theorem sameInts_refl (a : List Int) (A B : Option Addr) (ac bc : Nat) (w : World) (hl : a.length ≤ 4000000) (ha : Row w A (intsZ a)) (hb : Row w B (intsZ a)) :
    Calls Try.prog 12 #[.slice A a.length ac, .slice B a.length bc] w fun e w' => e = .returned (.bool true) ∧ ∃ n, w' = w.drewN n :=
  (sameInts a a A B ac bc w hl hl ha hb).mono fun e w' ⟨he, hw⟩ => ⟨by rw [he]; simp, hw⟩
theorem sameBlames_refl (a : List Blm) (A B : Option Addr) (ac bc : Nat) (w : World) (hl : a.length ≤ 4000000) (ha : Row w A (blCells a)) (hb : Row w B (blCells a)) :
    Calls Try.prog 21 #[.slice A a.length ac, .slice B a.length bc] w fun e w' => e = .returned (.bool true) ∧ ∃ n, w' = w.drewN n :=
  (sameBlames a a A B ac bc w hl hl ha hb).mono fun e w' ⟨he, hw⟩ => ⟨by rw [he]; simp, hw⟩
end Go.Proofs.Ytpnegacfanbcfaa
