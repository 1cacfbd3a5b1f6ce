/- judge.Versions: its callees joined, the blames of a whole history, what its loops carry. -/
import Derived.Test.YtpnegacfanbcfaaSelfGo
import Derived.Test.YtpnegacfanbcfaaBesideSS
import Derived.Test.YtpnegacfanbcfaaBesideSN
import Derived.Test.YtpnegacfanbcfaaBesideNS
import Derived.Test.YtpnegacfanbcfaaBesideNN
import Derived.Test.YtpnegacfanbcfaaTell
import Derived.Test.YtpnegacfanbcfaaSort
namespace Go.Proofs.Ytpnegacfanbcfaa
open Go.RowKit Go.Maps

/-- an event's sizes. -/
def Ev.Small (e : Ev) : Prop := e.nums.length ≤ 3000 ∧ e.pairs.length ≤ 3000
theorem isB_snap {a : Ev} {parts : Nat} (h : isB a parts = true) (he : a.end_ ≠ 0) (hk : a.kind = 4) : a.nums.length = parts ∧ a.part = 0 := by
  unfold isB writesB at h
  simp only [Bool.and_eq_true, decide_eq_true_eq, Bool.or_eq_true, beq_iff_eq] at h
  obtain ⟨_, _, _, h1, h2, h0, h3⟩ := h
  rcases h3 with h3 | h3
  · exact absurd h3 he
  · rw [if_pos hk, Bool.and_eq_true, decide_eq_true_eq] at h3
    refine ⟨by omega, ?_⟩
    simpa [hk] using h0
theorem isB_part {a : Ev} {parts : Nat} (h : isB a parts = true) : 0 ≤ a.part ∧ a.part < parts := by
  unfold isB at h
  simp only [Bool.and_eq_true, decide_eq_true_eq] at h
  exact ⟨h.2.2.2.1, h.2.2.2.2.1⟩

theorem judgeBesideAll (l : List Ev) (B H : Nat) (lA : Option Addr) (lc : Nat) (rv tv bv ov : Value) (outs : List Blm) (i k : Nat) (a b : Ev) (parts : Nat) (w : World) (hh : HSt l B H lA lc rv tv bv ov outs w) (hn : outs.length ≤ 2000000)
    (hrow : Row w lA (evCells l)) (ha : l[i]? = some a) (hb : l[k]? = some b) (hl : l.length ≤ 1024) (hia : a.In w) (hib : b.In w) (hsa : a.Small) (hsb : b.Small)
    (hra : isB a parts = true) (hrb : isB b parts = true) (hea : a.end_ ≠ 0) (heb : b.end_ ≠ 0) :
    Calls Try.prog 42 #[.pointer (some ⟨H, 0, none⟩), .int .i64 (i : Int), .int .i64 (k : Int)] w (BesidePost l B H lA lc rv tv bv (outs ++ besideL i k a b) w) := by
  have hpa := isB_part hra
  have hpb := isB_part hrb
  by_cases hka : a.kind = 4
  · have h1 := isB_snap hra hea hka
    by_cases hkb : b.kind = 4
    · have h2 := isB_snap hrb heb hkb
      exact besideSS l B H lA lc rv tv bv ov outs i k a b w hh hn hrow ha hb hl hia hib hsa.1 (h1.1.trans h2.1.symm) hka hkb
    · exact besideSN l B H lA lc rv tv bv ov outs i k a b w hh hn hrow ha hb hl hia hsa.1 hka hkb ⟨hpb.1, by rw [h1.1]; exact hpb.2⟩
  · by_cases hkb : b.kind = 4
    · have h2 := isB_snap hrb heb hkb
      exact besideNS l B H lA lc rv tv bv ov outs i k a b w hh hn hrow ha hb hl hib hsb.1 hka hkb ⟨hpa.1, by rw [h2.1]; exact hpa.2⟩
    · exact besideNN l B H lA lc rv tv bv ov outs i k a b w hh hn hrow ha hb hl hka hkb

theorem tellsL_length (F : Int → List Ev) : ∀ (k : Nat) (acc : List Tab), (tellsL F k acc).length ≤ acc.length + k
  | 0, acc => by simp [tellsL]
  | k + 1, acc => by
    unfold tellsL
    split
    · have := tellsL_length F k (acc ++ [laysT (lastT acc) ‹Ev›])
      simp only [List.length_append, List.length_singleton] at this
      omega
    · omega
theorem toldAt_length (l : List Ev) (starts : List (List (Int × Int))) (p : Nat) (hl : l.length ≤ 1024) : (toldAt l starts p).length ≤ 1026 := by
  have := tellsL_length (pubF l starts.length (p : Int)) (l.length + 1) [tab0.puts (starts.getD p [])]
  unfold toldAt told
  simp only [List.length_singleton] at this
  omega
theorem judgeSelf (l : List Ev) (starts : List (List (Int × Int))) (B H : Nat) (lA : Option Addr) (lc : Nat) (rv tv bv ov : Value) (outs : List Blm) (i : Nat) (a : Ev) (w0 w : World) (hh : HSt l B H lA lc rv tv bv ov outs w) (hv : VEnv l starts B rv tv bv w0 w) (hn : outs.length ≤ 2000000)
    (hrow : Row w lA (evCells l)) (ha : l[i]? = some a) (hl : l.length ≤ 1024) (hsl : starts.length ≤ 64) (hok : a.Ok) :
    Calls Try.prog 41 #[.pointer (some ⟨H, 0, none⟩), .int .i64 (i : Int)] w (SelfPost l B H lA lc rv tv bv (outs ++ selfL l starts i a) w) := by
  by_cases hr : isB a starts.length = true
  · by_cases hs : a.end_ = 0 ∨ a.kind = 4
    · exact selfSkip l starts B H lA lc rv tv bv ov outs i a w0 w hh hv hrow ha hl hr hs
    · exact selfGo l starts B H lA lc rv tv bv ov outs i a w0 w hh hv hn hrow ha hl hsl hr (fun h => hs (.inl h)) (fun h => hs (.inr h)) hok (fun p => toldAt_length l starts p hl)
  · exact selfNot l starts B H lA lc rv tv bv ov outs i a w0 w hh hv hn hrow ha hl (by simpa using hr)

/-- an event that is right and has ended. -/
def goneB (parts : Int) (e : Ev) : Bool := isB e parts && !decide (e.end_ = 0)
def besideK (parts : Int) (i : Nat) (a : Ev) (p : Ev × Nat) : List Blm := if (!decide (p.2 = i) && goneB parts p.1) = true then besideL i p.2 a p.1 else []
def besU (l : List Ev) (parts : Int) (i : Nat) (a : Ev) (j : Nat) : List Blm := (l.take j).zipIdx.flatMap (besideK parts i a)
def oneU (l : List Ev) (starts : List (List (Int × Int))) (p : Ev × Nat) : List Blm := selfL l starts p.2 p.1 ++ (if goneB starts.length p.1 = true then besU l starts.length p.2 p.1 l.length else [])
def allU (l : List Ev) (starts : List (List (Int × Int))) (j : Nat) : List Blm := (l.take j).zipIdx.flatMap (oneU l starts)
def versionsL (starts : List (List (Int × Int))) (l : List Ev) : List Blm := sortB (allU l starts l.length)
theorem zipIdx_take_succ {α : Type} {l : List α} {j : Nat} {e : α} (h : l[j]? = some e) : (l.take (j + 1)).zipIdx = (l.take j).zipIdx ++ [(e, j)] := by
  have hj := (List.getElem?_eq_some_iff.1 h).1
  rw [take_snoc' h, List.zipIdx_append]
  simp [Nat.min_eq_left (Nat.le_of_lt hj)]
theorem besU_succ {l : List Ev} {parts : Int} {i : Nat} {a e : Ev} {j : Nat} (h : l[j]? = some e) : besU l parts i a (j + 1) = besU l parts i a j ++ besideK parts i a (e, j) := by
  unfold besU
  rw [zipIdx_take_succ h, List.flatMap_append]
  simp
theorem allU_succ {l : List Ev} {starts : List (List (Int × Int))} {e : Ev} {j : Nat} (h : l[j]? = some e) : allU l starts (j + 1) = allU l starts j ++ oneU l starts (e, j) := by
  unfold allU
  rw [zipIdx_take_succ h, List.flatMap_append]
  simp
theorem selfL_length (l : List Ev) (starts : List (List (Int × Int))) (i : Int) (a : Ev) : (selfL l starts i a).length ≤ 2 := by
  unfold selfL
  split
  · split
    · simp
    · rw [List.length_append]
      have h1 : (selfA l starts i a).length ≤ 1 := by unfold selfA; exact len_ite1 _ _
      have h2 : (selfC l starts i a).length ≤ 1 := by
        unfold selfC
        split
        · simp
        · exact len_ite1 _ _
      omega
  · simp
theorem besideL_length (i k : Nat) (a b : Ev) : (besideL i k a b).length ≤ 1 + if k < i then 1 else 0 := by
  unfold besideL
  have h := fun (c : Bool) (x : Blm) => len_ite1 c x
  split
  · split <;> exact Nat.le_trans (h _ _) (Nat.le_add_right _ _)
  · split
    · exact Nat.le_trans (h _ _) (Nat.le_add_right _ _)
    · split
      · rw [List.length_append]
        by_cases hk : k < i
        · rw [if_pos hk]
          have h1 := h (decide ((k : Int) < i) && writesB a && writesB b && decide (a.number = b.number)) ⟨i, k, 2⟩
          have h2 := h (aheadB b.end_ a.begin_ && (decide (a.number < b.number) || (decide (a.number = b.number) && writesB a))) ⟨i, k, 5⟩
          omega
        · rw [if_neg hk]
          have h2 := h (aheadB b.end_ a.begin_ && (decide (a.number < b.number) || (decide (a.number = b.number) && writesB a))) ⟨i, k, 5⟩
          have e1 : decide ((k : Int) < i) = false := by rw [decide_eq_false_iff_not]; omega
          simp only [e1, Bool.false_and, Bool.false_eq_true, if_false, List.length_nil]
          omega
      · simp
theorem besU_length (l : List Ev) (parts : Int) (i : Nat) (a : Ev) : ∀ j, j ≤ l.length → (besU l parts i a j).length ≤ j + min j i
  | 0, _ => by simp [besU]
  | j + 1, hj => by
    obtain ⟨e, he⟩ : ∃ e, l[j]? = some e := ⟨_, List.getElem?_eq_getElem (by omega)⟩
    have ih := besU_length l parts i a j (by omega)
    rw [besU_succ he, List.length_append]
    have h1 : (besideK parts i a (e, j)).length ≤ 1 + if j < i then 1 else 0 := by
      unfold besideK
      split
      · exact besideL_length i j a e
      · simp
    by_cases hji : j < i
    · rw [if_pos hji] at h1
      omega
    · rw [if_neg hji] at h1
      omega
theorem allU_length (l : List Ev) (starts : List (List (Int × Int))) (hl : l.length ≤ 1024) : ∀ j, j ≤ l.length → (allU l starts j).length * 2 ≤ 2052 * j + j * j
  | 0, _ => by simp [allU]
  | j + 1, hj => by
    obtain ⟨e, he⟩ : ∃ e, l[j]? = some e := ⟨_, List.getElem?_eq_getElem (by omega)⟩
    have ih := allU_length l starts hl j (by omega)
    rw [allU_succ he, List.length_append]
    have h1 : (oneU l starts (e, j)).length ≤ 2 + 1024 + j := by
      unfold oneU
      rw [List.length_append]
      have h2 := selfL_length l starts j e
      split
      · have h3 := besU_length l starts.length j e l.length (Nat.le_refl _)
        simp only
        omega
      · simp only [List.length_nil]
        omega
    have h2 : (j + 1) * (j + 1) = j * j + 2 * j + 1 := by rw [Nat.add_mul, Nat.mul_add]; omega
    rw [h2]
    omega
theorem allU_le {l : List Ev} {starts : List (List (Int × Int))} (hl : l.length ≤ 1024) {j : Nat} (hj : j ≤ l.length) : (allU l starts j).length ≤ 1575000 := by
  have h1 := allU_length l starts hl j hj
  have h2 : j * j ≤ 1024 * 1024 := Nat.mul_le_mul (by omega) (by omega)
  omega

/-- while the events are looked at. -/
structure V1 (l : List Ev) (starts : List (List (Int × Int))) (lA : Option Addr) (lc : Nat) (w0 : World) (r z : Nat) (rv : Value) (wr : World) : Prop where
  x : wr.heap[w0.heap.size + 1]? = some (.cells #[.slice lA l.length lc, rv, .slice none 0 0, .slice (some ⟨w0.heap.size, 0, none⟩) starts.length starts.length, .slice none 0 0] 98 (0, 0))
  o : wr.ownsRow (w0.heap.size + 1 + 1) 4 1 rv r (rightCells (l.take r) starts.length)
  y : wr.ownsRow w0.heap.size 4 1 (.slice (some ⟨w0.heap.size, 0, none⟩) starts.length starts.length) starts.length (busyCells (l.take z) starts.length)
  b : Below w0.heap.size w0 wr
section
variable {l : List Ev} {starts : List (List (Int × Int))} {lA : Option Addr} {lc r z : Nat} {rv : Value} {w0 wr w' : World}
theorem V1.lt (h : V1 l starts lA lc w0 r z rv wr) : w0.heap.size + 1 < wr.heap.size := (Array.getElem?_eq_some_iff.1 h.x).1
theorem V1.below (h : V1 l starts lA lc w0 r z rv wr) (hb : Below wr.heap.size wr w') : V1 l starts lA lc w0 r z rv w' :=
  ⟨(hb.block _ h.lt).trans h.x, own_below h.o hb, own_below h.y hb, h.b.trans (hb.mono h.b.size)⟩
theorem V1.append {rv' : Value} (h : V1 l starts lA lc w0 r z rv wr) (hg : wr.grownBy w' rv.ownBlock) (ho : w'.ownsRow (w0.heap.size + 1 + 1) 4 1 rv' (r + 1) (rightCells (l.take (r + 1)) starts.length)) : V1 l starts lA lc w0 (r + 1) z rv' (w'.setCell ⟨w0.heap.size + 1, 1, none⟩ rv') := by
  have hne : ∀ k, k < w0.heap.size + 1 + 1 → some k ≠ rv.ownBlock := fun k hk e => by have := (h.o.lt k e.symm).1; omega
  have hx := (hg.block _ h.lt (hne _ (by omega))).trans h.x
  have hx98 : ∀ cs, w'.heap[w0.heap.size + 1]? ≠ some (.cells cs 4 (0, 0)) := fun cs hc => by rw [hx] at hc; cases hc
  refine ⟨set_block hx _, own_setCell ho hx98 _, own_setCell (own_grown h.y hg fun g hg' e => ?_) hx98 _, ?_⟩
  · simp [Value.ownBlock] at hg'
    subst hg'
    exact hne _ (by omega) e.symm
  · have := h.lt
    exact (h.b.grown hg (by omega) (fun k hk => by have := (h.o.lt k hk).1; omega)).setCell (by show w0.heap.size ≤ w0.heap.size + 1; omega) _
theorem busyB_snoc (l : List Ev) (parts p : Int) (e : Ev) : busyB (l ++ [e]) parts p = (busyB l parts p || (isB e parts && writesB e && decide (e.end_ = 0) && decide (e.part = p))) := by simp [busyB]
theorem V1.no {e : Ev} (h : V1 l starts lA lc w0 r z rv wr) (he : l[z]? = some e) (hno : (isB e starts.length && writesB e && decide (e.end_ = 0)) = false) : V1 l starts lA lc w0 r (z + 1) rv wr := by
  refine ⟨h.x, h.o, ?_, h.b⟩
  have : busyCells (l.take (z + 1)) starts.length = busyCells (l.take z) starts.length := by
    unfold busyCells
    rw [take_snoc' he]
    refine List.map_congr_left fun p _ => ?_
    rw [busyB_snoc, hno]
    simp
  rw [this]
  exact h.y
theorem V1.yes {e : Ev} {p : Nat} (h : V1 l starts lA lc w0 r z rv wr) (he : l[z]? = some e) (hyes : (isB e starts.length && writesB e && decide (e.end_ = 0)) = true) (hp : e.part = p) (hps : p < starts.length) : V1 l starts lA lc w0 r (z + 1) rv (wr.setCell ⟨w0.heap.size, p, none⟩ (.bool true)) := by
  have hs := h.y.stored p (.bool true)
  have hlt := h.lt
  refine ⟨?_, own_grown h.o hs.2 (fun g hg e1 => ?_), ?_, h.b.setCell (Nat.le_refl _) _⟩
  · exact (hs.2.block _ hlt (fun e1 => by injection e1 with e1; omega)).trans h.x
  · injection e1 with e1
    have := (h.o.lt g hg).1
    omega
  · have : busyCells (l.take (z + 1)) starts.length = (busyCells (l.take z) starts.length).set p (.bool true) := by
      apply List.ext_getElem?
      intro q
      unfold busyCells
      rw [take_snoc' he, List.getElem?_set]
      by_cases hq : q < starts.length
      · by_cases hpq : p = q
        · subst hpq
          simp [hq, busyB_snoc, hyes, hp]
        · have h1 : ¬ (e.part = (q : Int)) := by omega
          simp [hq, busyB_snoc, hyes, h1, hpq]
      · have hpq : p ≠ q := by omega
        simp [hq, hpq]
    rw [this]
    exact hs.1
end
def V1Rel (l : List Ev) (starts : List (List (Int × Int))) (lA : Option Addr) (lc : Nat) (w0 : World) (k : Nat) (i : Value) (wr : World) : Prop :=
  ∃ j : Nat, j ≤ l.length ∧ i = .int .i64 j ∧ k = l.length - j ∧ ∃ rv, V1 l starts lA lc w0 j j rv wr
def V1Mid (l : List Ev) (starts : List (List (Int × Int))) (lA : Option Addr) (lc : Nat) (w0 : World) (j P : Nat) (e : Ev) (wr : World) : Prop :=
  (∃ rv, V1 l starts lA lc w0 (j + 1) j rv wr) ∧ wr.heap[P]? = some (.cells e.arr 52 (0, 0)) ∧ w0.heap.size + 1 < P
end Go.Proofs.Ytpnegacfanbcfaa

/- judge.Versions: what its second and third loop carry. -/
namespace Go.Proofs.Ytpnegacfanbcfaa
open Go.RowKit Go.Maps

theorem own_apart {w : World} {B B' e e' size size' n n' : Nat} {v v' : Value} {xs xs' : List Value} (h : w.ownsRow B e size v n xs) (h' : w.ownsRow B' e' size' v' n' xs') (hne : e ≠ e') : ∀ g, v.ownBlock = some g → v'.ownBlock ≠ some g := by
  intro g hg hg'
  obtain ⟨cs, hc⟩ := own_block_cells h hg
  obtain ⟨cs', hc'⟩ := own_block_cells h' hg'
  rw [hc] at hc'
  injection hc' with hc'
  injection hc' with _ hc'
  exact hne hc'

structure V2 (l : List Ev) (starts : List (List (Int × Int))) (lA : Option Addr) (lc : Nat) (w0 : World) (rv bv : Value) (j : Nat) (tv : Value) (wr : World) : Prop where
  x : wr.heap[w0.heap.size + 1]? = some (.cells #[.slice lA l.length lc, rv, tv, bv, .slice none 0 0] 98 (0, 0))
  r : wr.ownsRow w0.heap.size 4 1 rv l.length (rightCells l starts.length)
  t : ∃ tvs, wr.ownsRow w0.heap.size 100 1 tv j tvs ∧ ∀ (p : Nat) v, tvs[p]? = some v → ∃ bs, Tells wr w0.heap.size v bs (toldAt l starts p)
  z : wr.ownsRow w0.heap.size 4 1 bv starts.length (busyCells l starts.length)
  b : Below w0.heap.size w0 wr
section
variable {l : List Ev} {starts : List (List (Int × Int))} {lA : Option Addr} {lc : Nat} {rv bv tv : Value} {j : Nat} {w0 wr w' : World}
theorem V2.lt (h : V2 l starts lA lc w0 rv bv j tv wr) : w0.heap.size + 1 < wr.heap.size := (Array.getElem?_eq_some_iff.1 h.x).1
theorem V2.below (h : V2 l starts lA lc w0 rv bv j tv wr) (hb : Below wr.heap.size wr w') : V2 l starts lA lc w0 rv bv j tv w' := by
  obtain ⟨tvs, ht, hts⟩ := h.t
  exact ⟨(hb.block _ h.lt).trans h.x, own_below h.r hb, ⟨tvs, own_below ht hb, fun p v hp => let ⟨bs, hb'⟩ := hts p v hp; ⟨bs, hb'.below hb⟩⟩, own_below h.z hb, h.b.trans (hb.mono h.b.size)⟩
theorem Tells.base {B B' : Nat} {v : Value} {bs : List Nat} {acc : List Tab} (h : Tells wr B v bs acc) (hB : B' ≤ B) : Tells wr B' v bs acc :=
  ⟨h.len, own_base h.own hB, fun j b t h1 h2 => ⟨Nat.le_trans hB (h.ms j b t h1 h2).1, (h.ms j b t h1 h2).2⟩⟩
theorem Row.evEnd {A : Option Addr} {k : Nat} {e : Ev} (h : Row wr A (evCells l)) (hx : l[k]? = some e) : ∀ b off, A = some ⟨b, off, none⟩ → wr.cell? ⟨b, off + k * 13 + 2, none⟩ = some (.int .i64 e.end_) := by
  intro b off hA
  obtain ⟨b', off', hA', hc⟩ := h (k * 13 + 2) (.int .i64 e.end_) ((flatMap_get Ev.cells 13 Ev.cells_length l k e hx 2 (by omega)).trans rfl)
  rw [hA] at hA'
  simp only [Option.some.injEq, Addr.mk.injEq, and_true] at hA'
  obtain ⟨rfl, rfl⟩ := hA'
  rw [Nat.add_assoc]
  exact hc
theorem Tells.grown {B : Nat} {v v1 : Value} {bs : List Nat} {acc : List Tab} {B' n : Nat} {xs : List Value} (h : Tells wr B v bs acc) (ho : wr.ownsRow B' 100 1 v1 n xs) (hg : wr.grownBy w' v1.ownBlock) : Tells w' B v bs acc :=
  ⟨h.len, own_grown h.own hg (fun g hg' e => own_apart h.own ho (by decide) g hg' e), fun j b t h1 h2 => ⟨(h.ms j b t h1 h2).1, map_grown (h.ms j b t h1 h2).2 ho hg⟩⟩
theorem Tells.setCell {B H i : Nat} {v : Value} {bs : List Nat} {acc : List Tab} {cs : Array Value} (h : Tells wr B v bs acc) (hH : wr.heap[H]? = some (.cells cs 98 (0, 0))) (u : Value) : Tells (wr.setCell ⟨H, i, none⟩ u) B v bs acc :=
  ⟨h.len, own_setCell h.own (fun cs' hc => by rw [hH] at hc; cases hc) u, fun j b t h1 h2 => ⟨(h.ms j b t h1 h2).1, (h.ms j b t h1 h2).2.kept (Below.heap_setCell _ _ _ _ (fun e => by
    obtain ⟨es, c, hr⟩ := (h.ms j b t h1 h2).2.raw
    have e' : b = H := e
    rw [e', hH] at hr
    cases hr))⟩⟩
theorem V2.append {v tv2 : Value} {tvs : List Value} {bs : List Nat} (h : V2 l starts lA lc w0 rv bv j tv wr) (ht : wr.ownsRow w0.heap.size 100 1 tv j tvs) (hts : ∀ (p : Nat) v, tvs[p]? = some v → ∃ bs, Tells wr w0.heap.size v bs (toldAt l starts p))
    (hv : Tells wr w0.heap.size v bs (toldAt l starts j)) (hg : wr.grownBy w' tv.ownBlock) (ho : w'.ownsRow w0.heap.size 100 1 tv2 (j + 1) (tvs ++ [v])) :
    V2 l starts lA lc w0 rv bv (j + 1) tv2 (w'.setCell ⟨w0.heap.size + 1, 2, none⟩ tv2) := by
  have n98 : ∀ cs, wr.heap[w0.heap.size + 1]? ≠ some (.cells cs 100 (0, 0)) := fun cs hc => by rw [h.x] at hc; cases hc
  have hx := (hg.block _ h.lt (fun e => own_ne ht n98 e.symm)).trans h.x
  have n4 : ∀ cs, w'.heap[w0.heap.size + 1]? ≠ some (.cells cs 4 (0, 0)) := fun cs hc => by rw [hx] at hc; cases hc
  have n100 : ∀ cs, w'.heap[w0.heap.size + 1]? ≠ some (.cells cs 100 (0, 0)) := fun cs hc => by rw [hx] at hc; cases hc
  have hl : tvs.length = j := by have := ht.1; omega
  refine ⟨set_block hx _, own_setCell (own_grown h.r hg (fun g hg' e => own_apart h.r ht (by decide) g hg' e)) n4 _, ⟨_, own_setCell ho n100 _, fun p u hp => ?_⟩, own_setCell (own_grown h.z hg (fun g hg' e => own_apart h.z ht (by decide) g hg' e)) n4 _, ?_⟩
  · rcases Nat.lt_trichotomy p tvs.length with hp' | hp' | hp'
    · rw [List.getElem?_append_left hp'] at hp
      obtain ⟨bs', hb'⟩ := hts p u hp
      exact ⟨bs', (hb'.grown ht hg).setCell hx _⟩
    · subst hp'
      rw [List.getElem?_concat_length] at hp
      injection hp with hp
      subst hp
      rw [hl]
      exact ⟨bs, (hv.grown ht hg).setCell hx _⟩
    · rw [List.getElem?_eq_none (by simp; omega)] at hp
      cases hp
  · have := h.lt
    exact (h.b.grown hg (by omega) (fun k hk => (ht.lt k hk).1)).setCell (by show w0.heap.size ≤ w0.heap.size + 1; omega) _
theorem V2.env (h : V2 l starts lA lc w0 rv bv starts.length tv wr) : VEnv l starts w0.heap.size rv tv bv w0 wr ∧ HSt l w0.heap.size (w0.heap.size + 1) lA lc rv tv bv (.slice none 0 0) [] wr :=
  ⟨⟨rfl, h.b, h.r, h.t, h.z⟩, ⟨by omega, h.x, ⟨rfl, .inl ⟨rfl, rfl⟩⟩⟩⟩
theorem V1.two {rv : Value} (h : V1 l starts lA lc w0 l.length l.length rv wr) : V2 l starts lA lc w0 rv (.slice (some ⟨w0.heap.size, 0, none⟩) starts.length starts.length) 0 (.slice none 0 0) wr := by
  have h1 := h.o
  have h2 := h.y
  rw [List.take_length] at h1 h2
  exact ⟨h.x, own_base h1 (by omega), ⟨[], ⟨rfl, .inl ⟨rfl, rfl⟩⟩, fun p v hp => by simp at hp⟩, h2, h.b⟩
end
def V2Rel (l : List Ev) (starts : List (List (Int × Int))) (lA : Option Addr) (lc : Nat) (w0 : World) (rv bv : Value) (k : Nat) (i : Value) (wr : World) : Prop :=
  ∃ j : Nat, j ≤ starts.length ∧ i = .int .i64 j ∧ k = starts.length - j ∧ ∃ tv, V2 l starts lA lc w0 rv bv j tv wr
def V2End (l : List Ev) (starts : List (List (Int × Int))) (lA : Option Addr) (lc : Nat) (w0 : World) (rv bv : Value) (j : Nat) (wr : World) : Prop := ∃ tv, V2 l starts lA lc w0 rv bv j tv wr
def V3 (l : List Ev) (starts : List (List (Int × Int))) (lA : Option Addr) (lc : Nat) (w0 : World) (rv tv bv : Value) (outs : List Blm) (wr : World) : Prop :=
  VEnv l starts w0.heap.size rv tv bv w0 wr ∧ ∃ ov, HSt l w0.heap.size (w0.heap.size + 1) lA lc rv tv bv ov outs wr
def V3Rel (l : List Ev) (starts : List (List (Int × Int))) (lA : Option Addr) (lc : Nat) (w0 : World) (rv tv bv : Value) (k : Nat) (i : Value) (wr : World) : Prop :=
  ∃ j : Nat, j ≤ l.length ∧ i = .int .i64 j ∧ k = l.length - j ∧ V3 l starts lA lc w0 rv tv bv (allU l starts j) wr
def V4Rel (l : List Ev) (starts : List (List (Int × Int))) (lA : Option Addr) (lc : Nat) (w0 : World) (rv tv bv : Value) (i : Nat) (a : Ev) (k : Nat) (c : Value) (wr : World) : Prop :=
  ∃ j : Nat, j ≤ l.length ∧ c = .int .i64 j ∧ k = l.length - j ∧ V3 l starts lA lc w0 rv tv bv (allU l starts i ++ selfL l starts i a ++ besU l starts.length i a j) wr
/-- the argument's parts. -/
structure StartIn (starts : List (List (Int × Int))) (heads : List (Option Addr × Nat)) (sA : Option Addr) (w : World) : Prop where
  len : heads.length = starts.length
  row : Row w sA ((starts.zip heads).map fun p => .slice p.2.1 p.1.length p.2.2)
  parts : ∀ (k : Nat) s h, starts[k]? = some s → heads[k]? = some h → Row w h.1 (pairCells s)
def VersPost (l : List Ev) (starts : List (List (Int × Int))) (w : World) (e : Ending) (w' : World) : Prop :=
  if 1024 < l.length ∨ starts.length = 0 ∨ 64 < starts.length then e = .returned (.tuple #[.slice none 0 0, .int .i64 201]) ∧ w = w'
  else ∃ v, e = .returned (.tuple #[v, .int .i64 0]) ∧ w'.ownsRow w.heap.size 55 3 v (versionsL starts l).length (blCells (versionsL starts l)) ∧ Below w.heap.size w w'
end Go.Proofs.Ytpnegacfanbcfaa
