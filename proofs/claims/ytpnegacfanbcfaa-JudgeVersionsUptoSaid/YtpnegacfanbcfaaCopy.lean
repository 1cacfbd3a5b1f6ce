/- sameEvent: an event and its copy are the same. Lists are at most 1048576 long. -/
import Derived.Test.YtpnegacfanbcfaaStay
import Derived.Test.YtpnegacfanbcfaaVersP
namespace Go.Proofs.Ytpnegacfanbcfaa
open Go.RowKit Go.Maps

/-- the same event, its lists elsewhere. -/
def Ev.at (e : Ev) (nA : Option Addr) (nc : Nat) (pA : Option Addr) (pc : Nat) : Ev := { e with nA := nA, nc := nc, pA := pA, pc := pc }
theorem sameIntsT (a : List Int) (A B : Option Addr) (ac bc : Nat) (w : World) (hl : a.length ≤ 1048576) (ha : Row w A (intsZ a)) (hb : Row w B (intsZ a)) :
    Calls Try.prog 12 #[.slice A a.length ac, .slice B a.length bc] w fun e w' => e = .returned (.bool true) ∧ ∃ n, w' = w.drewN n := by
  have := sameInts a a A B ac bc w (by omega) (by omega) ha hb
  simpa using this
theorem samePairsT (a : List (Int × Int)) (A B : Option Addr) (ac bc : Nat) (w : World) (hl : a.length ≤ 1048576) (ha : Row w A (pairCells a)) (hb : Row w B (pairCells a)) :
    Calls Try.prog 47 #[.slice A a.length ac, .slice B a.length bc] w fun e w' => e = .returned (.bool true) ∧ ∃ n, w' = w.drewN n := by
  have := samePairs a a A B ac bc w (by omega) (by omega) ha hb
  simpa using this
attribute [-go_sem] loadCellsFrom
set_option maxRecDepth 100000 in
set_option maxHeartbeats 4000000 in
theorem sameEvent_walk (e : Ev) (nA : Option Addr) (nc : Nat) (pA : Option Addr) (pc : Nat) (w : World) (hs : e.nums.length ≤ 1048576 ∧ e.pairs.length ≤ 1048576) (h1 : (e.at nA nc pA pc).In w) (h2 : e.In w) :
    Calls Try.prog 22 #[(e.at nA nc pA pc).val, e.val] w fun r w' => r = .returned (.bool true) ∧ Below w.heap.size w w' := by
  obtain ⟨W, hW⟩ : ∃ W, W = (w.alloc (.cells (e.at nA nc pA pc).arr 52)).alloc (.cells e.arr 52) := ⟨_, rfl⟩
  obtain ⟨P, hPe⟩ : ∃ P, P = w.heap.size := ⟨_, rfl⟩
  obtain ⟨Q, hQe⟩ : ∃ Q, Q = w.heap.size + 1 := ⟨_, rfl⟩
  have hbW : Below w.heap.size w W := by rw [hW]; exact ((Below.refl _ _).alloc (Nat.le_refl _) _).alloc (by simp) _
  have hP : W.heap[P]? = some (.cells (e.at nA nc pA pc).arr 52 (0, 0)) := by rw [hW, hPe]; exact heap_alloc2_old w _ _
  have hQ : W.heap[Q]? = some (.cells e.arr 52 (0, 0)) := by rw [hW, hQe]; exact heap_alloc2_new w _ _
  have cP0 : W.cell? ⟨P, 0, none⟩ = some (.int .i64 e.worker) := cell_of_row _ _ _ _ _ _ hP
  have cQ0 : W.cell? ⟨Q, 0, none⟩ = some (.int .i64 e.worker) := cell_of_row _ _ _ _ _ _ hQ
  have cP1 : W.cell? ⟨P, 1, none⟩ = some (.int .i64 e.begin_) := cell_of_row _ _ _ _ _ _ hP
  have cQ1 : W.cell? ⟨Q, 1, none⟩ = some (.int .i64 e.begin_) := cell_of_row _ _ _ _ _ _ hQ
  have cP2 : W.cell? ⟨P, 2, none⟩ = some (.int .i64 e.end_) := cell_of_row _ _ _ _ _ _ hP
  have cQ2 : W.cell? ⟨Q, 2, none⟩ = some (.int .i64 e.end_) := cell_of_row _ _ _ _ _ _ hQ
  have cP3 : W.cell? ⟨P, 3, none⟩ = some (.int .i64 e.kind) := cell_of_row _ _ _ _ _ _ hP
  have cQ3 : W.cell? ⟨Q, 3, none⟩ = some (.int .i64 e.kind) := cell_of_row _ _ _ _ _ _ hQ
  have cP4 : W.cell? ⟨P, 4, none⟩ = some (.int .i64 e.part) := cell_of_row _ _ _ _ _ _ hP
  have cQ4 : W.cell? ⟨Q, 4, none⟩ = some (.int .i64 e.part) := cell_of_row _ _ _ _ _ _ hQ
  have cP5 : W.cell? ⟨P, 5, none⟩ = some (.int .i64 e.key) := cell_of_row _ _ _ _ _ _ hP
  have cQ5 : W.cell? ⟨Q, 5, none⟩ = some (.int .i64 e.key) := cell_of_row _ _ _ _ _ _ hQ
  have cP6 : W.cell? ⟨P, 6, none⟩ = some (.int .i64 e.number) := cell_of_row _ _ _ _ _ _ hP
  have cQ6 : W.cell? ⟨Q, 6, none⟩ = some (.int .i64 e.number) := cell_of_row _ _ _ _ _ _ hQ
  have cP7 : W.cell? ⟨P, 7, none⟩ = some (.bool e.had) := cell_of_row _ _ _ _ _ _ hP
  have cQ7 : W.cell? ⟨Q, 7, none⟩ = some (.bool e.had) := cell_of_row _ _ _ _ _ _ hQ
  have cP8 : W.cell? ⟨P, 8, none⟩ = some (.int .i64 e.value) := cell_of_row _ _ _ _ _ _ hP
  have cQ8 : W.cell? ⟨Q, 8, none⟩ = some (.int .i64 e.value) := cell_of_row _ _ _ _ _ _ hQ
  have cP9 : W.cell? ⟨P, 9, none⟩ = some (.bool e.has) := cell_of_row _ _ _ _ _ _ hP
  have cQ9 : W.cell? ⟨Q, 9, none⟩ = some (.bool e.has) := cell_of_row _ _ _ _ _ _ hQ
  have cP10 : W.cell? ⟨P, 10, none⟩ = some (.int .i64 e.new) := cell_of_row _ _ _ _ _ _ hP
  have cQ10 : W.cell? ⟨Q, 10, none⟩ = some (.int .i64 e.new) := cell_of_row _ _ _ _ _ _ hQ
  have cP11 : W.cell? ⟨P, 11, none⟩ = some (.slice nA e.nums.length nc) := cell_of_row _ _ _ _ _ _ hP
  have cP12 : W.cell? ⟨P, 12, none⟩ = some (.slice pA e.pairs.length pc) := cell_of_row _ _ _ _ _ _ hP
  have cQ11 : W.cell? ⟨Q, 11, none⟩ = some (.slice e.nA e.nums.length e.nc) := cell_of_row _ _ _ _ _ _ hQ
  have cQ12 : W.cell? ⟨Q, 12, none⟩ = some (.slice e.pA e.pairs.length e.pc) := cell_of_row _ _ _ _ _ _ hQ
  have HN1 : Hid (Row W nA (intsZ e.nums)) := h1.n.below hbW
  have HN2 : Hid (Row W e.nA (intsZ e.nums)) := h2.n.below hbW
  have HP1 : Hid (Row W pA (pairCells e.pairs)) := h1.p.below hbW
  have HP2 : Hid (Row W e.pA (pairCells e.pairs)) := h2.p.below hbW
  have HS := Lib.hid hs; have HBW := Lib.hid hbW
  clear hs h1 h2 hbW hP hQ
  simp only [Ev.val, Ev.arr, Ev.at] at hW ⊢
  go_enter Try.func22, Try.ntmps22
  go_upto_region 1 with fail
  rw [← hW]
  clear hW
  subst hPe hQe
  go_wp2_with fail
  go_quiet (fail)
  go_wp2_with (first
    | (go_at_call 12; refine (sameIntsT e.nums nA e.nA nc e.nc _ HS.out.1 (by exact HN1.out) (by exact HN2.out)).mono ?_; rintro r1 w1 ⟨rfl, n1, rfl⟩)
    | (go_at_call 47; refine (samePairsT e.pairs pA e.pA pc e.pc _ HS.out.2 (by exact HP1.out) (by exact HP2.out)).mono ?_; rintro r2 w2 ⟨rfl, n2, rfl⟩))
  go_ret
  exact ⟨rfl, by first | exact below_drewN (below_drewN (below_drewN HBW.out _) _) _ | exact below_drewN (below_drewN HBW.out _) _ | exact below_drewN HBW.out _⟩
end Go.Proofs.Ytpnegacfanbcfaa

/- copies: events in new memory. -/
namespace Go.Proofs.Ytpnegacfanbcfaa
open Go.RowKit Go.Maps

/-- the same events, their lists elsewhere. -/
def CopOf (l l' : List Ev) : Prop := l'.length = l.length ∧ ∀ (k : Nat) (e : Ev), l[k]? = some e → ∃ nA nc pA pc, l'[k]? = some (e.at nA nc pA pc)
theorem CopOf.snoc {l l' : List Ev} {j : Nat} {e : Ev} (h : CopOf (l.take j) l') (he : l[j]? = some e) (nA : Option Addr) (nc : Nat) (pA : Option Addr) (pc : Nat) : CopOf (l.take (j + 1)) (l' ++ [e.at nA nc pA pc]) := by
  have hj := (List.getElem?_eq_some_iff.1 he).1
  have hl : l'.length = j := by rw [h.1, List.length_take]; omega
  rw [take_snoc' he]
  refine ⟨by simp [h.1], fun k x hx => ?_⟩
  rcases Nat.lt_or_ge k j with hk | hk
  · rw [List.getElem?_append_left (by rw [List.length_take]; omega)] at hx
    obtain ⟨a, b, c, d, h2⟩ := h.2 k x hx
    exact ⟨a, b, c, d, by rw [List.getElem?_append_left (by omega)]; exact h2⟩
  · have hlt := (List.getElem?_eq_some_iff.1 hx).1
    simp only [List.length_append, List.length_take, List.length_singleton] at hlt
    obtain rfl : k = j := by omega
    rw [List.getElem?_append_right (by rw [List.length_take]; omega), List.length_take, show k - min k l.length = 0 by omega] at hx
    simp at hx
    subst hx
    exact ⟨nA, nc, pA, pc, by rw [List.getElem?_append_right (by omega), hl]; simp⟩
/-- what hangs on a copy lies in blocks of the call's own. -/
structure Ev.Own (e : Ev) (B : Nat) (w : World) : Prop where
  n : w.ownsRow B 3 1 (.slice e.nA e.nums.length e.nc) e.nums.length (intsZ e.nums)
  p : w.ownsRow B 58 2 (.slice e.pA e.pairs.length e.pc) e.pairs.length (pairCells e.pairs)
theorem Ev.Own.below {e : Ev} {B : Nat} {w w' : World} (h : e.Own B w) (hb : Below w.heap.size w w') : e.Own B w' := ⟨own_below h.n hb, own_below h.p hb⟩
theorem Ev.Own.grown {e : Ev} {B B' n : Nat} {w w' : World} {v : Value} {xs : List Value} (h : e.Own B w) (ho : w.ownsRow B' 52 13 v n xs) (hg : w.grownBy w' v.ownBlock) : e.Own B w' :=
  ⟨own_grown h.n hg (fun g h1 h2 => own_apart h.n ho (by decide) g h1 h2), own_grown h.p hg (fun g h1 h2 => own_apart h.p ho (by decide) g h1 h2)⟩
theorem Ev.Own.inn {e : Ev} {B : Nat} {w : World} (h : e.Own B w) : e.In w := by
  obtain ⟨A, c, h1, h2, h3⟩ := row_of_own h.n
  obtain ⟨A', c', h1', h2', h3'⟩ := row_of_own h.p
  injection h1 with h1 _ _
  injection h1' with h1' _ _
  subst h1 h1'
  exact ⟨h2, h2', h3, h3'⟩
def CpRel (l : List Ev) (w : World) (k : Nat) (out i : Value) (wr : World) : Prop :=
  ∃ (j : Nat) (l' : List Ev), j ≤ l.length ∧ i = .int .i64 j ∧ k = l.length - j ∧ CopOf (l.take j) l' ∧ wr.ownsRow w.heap.size 52 13 out j (evCells l') ∧ (∀ e ∈ l', e.Own w.heap.size wr) ∧ Below w.heap.size w wr
def CopyPost (l : List Ev) (w : World) (e : Ending) (w' : World) : Prop :=
  ∃ v l', e = .returned v ∧ CopOf l l' ∧ w'.ownsRow w.heap.size 52 13 v l.length (evCells l') ∧ (∀ e ∈ l', e.Own w.heap.size w') ∧ Below w.heap.size w w'
def z52 : Array Value := #[.int .i64 0, .int .i64 0, .int .i64 0, .int .i64 0, .int .i64 0, .int .i64 0, .int .i64 0, .bool false, .int .i64 0, .bool false, .int .i64 0, .slice none 0 0, .slice none 0 0]
theorem zero52 (w : World) : (zeroValue 52).run Try.prog w = .ok (.agg z52) w := by kernel_rfl
theorem intsZ_one (l : List Int) : ∀ u ∈ intsZ l, u.oneCell' = true := by
  intro u hu
  obtain ⟨x, _, rfl⟩ := List.mem_map.1 hu
  rfl
theorem pairCells_one' (l : List (Int × Int)) : ∀ u ∈ pairCells l, u.oneCell' = true := by
  intro u hu
  obtain ⟨p, _, hp⟩ := List.mem_flatMap.1 hu
  simp only [List.mem_cons, List.not_mem_nil, or_false] at hp
  rcases hp with rfl | rfl <;> rfl
theorem pairCells_len' (l : List (Int × Int)) : (pairCells l).length = l.length * 2 := by
  induction l with
  | nil => rfl
  | cons p l ih =>
    show ([Value.int .i64 p.1, Value.int .i64 p.2] ++ pairCells l).length = _
    rw [List.length_append, ih]
    simp
    omega
theorem Ev.cells_one (e : Ev) : ∀ u ∈ e.cells, u.oneCell' = true := by
  intro u hu
  simp only [Ev.cells, Ev.arr, List.mem_cons, List.not_mem_nil, or_false] at hu
  rcases hu with rfl | rfl | rfl | rfl | rfl | rfl | rfl | rfl | rfl | rfl | rfl | rfl | rfl <;> rfl

theorem info52 : (Try.prog.info? 52).map (·.size) = some 13 := by kernel_rfl
theorem Ev.arr_one (e : Ev) : e.arr.all (·.oneCell') = true := by simp [Ev.arr, Value.oneCell']
attribute [-go_sem] loadCellsFrom
set_option maxRecDepth 100000 in
set_option maxHeartbeats 4000000 in
theorem copies_walk (l : List Ev) (lA : Option Addr) (lc : Nat) (w : World) (hrow : Row w lA (evCells l)) (hin : ∀ e ∈ l, e.In w) (hsm : ∀ e ∈ l, e.nums.length ≤ 1048576 ∧ e.pairs.length ≤ 1048576) (hl : l.length ≤ 4000) :
    Calls Try.prog 18 #[.slice lA l.length lc] w (CopyPost l w) := by
  have HROW := Lib.hid hrow; have HIN := Lib.hid hin; have HSM := Lib.hid hsm
  clear hrow hin hsm
  go_enter Try.func18, Try.ntmps18
  go_wp2_with fail
  go_loopg [3, 4] l.length (fun k out i wr => CpRel l w k out i wr)
  case atStart => exact ⟨0, [], Nat.zero_le _, rfl, rfl, ⟨by simp, fun k e h => by simp at h⟩, ⟨rfl, .inl ⟨rfl, rfl⟩⟩, (fun e h => by cases h), Below.refl _ _⟩
  case round =>
    obtain ⟨j, l', hj, rfl, rfl, hc, ho, hown, hb⟩ := hrel
    have HC := Lib.hid hc; have HO := Lib.hid ho; have HOWN := Lib.hid hown; have HB := Lib.hid hb
    by_cases hlt : j < l.length
    · obtain ⟨e, he⟩ : ∃ e, l[j]? = some e := ⟨_, List.getElem?_eq_getElem hlt⟩
      have hel := List.mem_of_getElem? he
      obtain ⟨b0, off, hA, hld⟩ := load_ev (HROW.out.below hb) he
      subst hA
      have hi := (HIN.out e hel).below hb
      have HE := Lib.hid he; have HI := Lib.hid hi; have HS := Lib.hid (HSM.out e hel)
      obtain ⟨oA, oc, rfl, _, _⟩ := row_of_own ho
      unfold Ev.arr at hld
      have hW0 : (wr.alloc (.cells e.arr 52)).heap[wr.heap.size]? = some (.cells e.arr 52 (0, 0)) := heap_alloc_new wr _
      have r11 : (wr.alloc (.cells e.arr 52)).cell? ⟨wr.heap.size, 11, none⟩ = some (.slice e.nA e.nums.length e.nc) := cell_of_row _ _ _ _ _ _ hW0
      have hbA : Below wr.heap.size wr (wr.alloc (.cells e.arr 52)) := (Below.refl _ _).alloc (Nat.le_refl _) _
      have HW0 := Lib.hid hW0; have HBA := Lib.hid hbA
      have hn1 := HS.out.1
      have hn2 := HS.out.2
      have HN1 := Lib.hid hn1; have HN2 := Lib.hid hn2
      have hwb := HB.out.size
      have HWB := Lib.hid hwb
      clear hc ho hown hb he hel hi hW0 hbA hn1 hn2 hwb
      go_wp2_with (first
        | (refine wpList_alloc_agg rfl 52 rfl z52 zero52 ?_)
        | (refine wpList_store_new rfl 52 (.tmp 5) (.tmp 15) rfl e.arr z52 rfl rfl info52 rfl e.arr_one ?_)
        | (at_builtin; refine wpList_append_is rfl (.const (.slice none 0 0)) (.tmp 17) rfl elemInt rfl (base := w.heap.size) (World.ownsRow_nil _ _ 3 1) e.nA e.nums.length e.nc (intsZ e.nums) rfl (HI.out.n.below HBA.out) (by simp [intsZ]) (intsZ_one _) (by have := HN1.out; unfold maxLen; omega) (by have := HN1.out; omega) (by have := HWB.out; simp; omega) HI.out.nn ?_
           intro v1 w1 ho1 hg1 hat1
           simp only [Nat.zero_add, List.nil_append] at ho1
           obtain ⟨A1, c1, rfl, _, _⟩ := row_of_own ho1
           have hb1 : Below (wr.alloc (.cells e.arr 52)).heap.size (wr.alloc (.cells e.arr 52)) w1 := (Below.refl _ _).grown hg1 (Nat.le_refl _) (fun k hk => by cases hk)
           have hx1 : w1.heap[wr.heap.size]? = some (.cells e.arr 52 (0, 0)) := heap_below' hb1 HW0.out
           have y11 : w1.cell? ⟨wr.heap.size, 11, none⟩ = some (.slice e.nA e.nums.length e.nc) := cell_of_row _ _ _ _ _ _ hx1
           have z11 : w1.frozen? ⟨wr.heap.size, 11, none⟩ = false := frozen_block hx1
           have hx2 := set_block (i := 11) hx1 (.slice A1 e.nums.length c1)
           have y12 : (w1.setCell ⟨wr.heap.size, 11, none⟩ (.slice A1 e.nums.length c1)).cell? ⟨wr.heap.size, 12, none⟩ = some (.slice e.pA e.pairs.length e.pc) := cell_of_row _ _ _ _ _ _ hx2
           have hb2 : Below wr.heap.size wr (w1.setCell ⟨wr.heap.size, 11, none⟩ (.slice A1 e.nums.length c1)) := (HBA.out.trans (hb1.mono HBA.out.size)).setCell (Nat.le_refl _) _
           have ho2 := own_setCell ho1 (g := wr.heap.size) (i := 11) (fun cs hc => by rw [hx1] at hc; injection hc with hc; injection hc with _ hc; cases hc) (.slice A1 e.nums.length c1)
           have HX2 := Lib.hid hx2; have HB2 := Lib.hid hb2; have HO2 := Lib.hid ho2
           clear ho1 hg1 hat1 hb1 hx1 hx2 hb2 ho2)
        | (at_builtin; refine wpList_append_is rfl (.const (.slice none 0 0)) (.tmp 21) rfl elemPair rfl (base := w.heap.size) (World.ownsRow_nil _ _ 58 2) e.pA e.pairs.length e.pc (pairCells e.pairs) rfl (HI.out.p.below HB2.out) (pairCells_len' _) (pairCells_one' _) (by have := HN2.out; unfold maxLen; omega) (by have := HN2.out; omega) (Nat.le_trans HWB.out HB2.out.size) HI.out.pn ?_
           intro v3 w3 ho3 hg3 hat3
           simp only [Nat.zero_add, List.nil_append] at ho3
           obtain ⟨A3, c3, rfl, _, _⟩ := row_of_own ho3
           obtain ⟨W2, hW2⟩ : ∃ W2, W2 = w1.setCell ⟨wr.heap.size, 11, none⟩ (.slice A1 e.nums.length c1) := ⟨_, rfl⟩
           have hX2 := HX2.out
           have hB2 := HB2.out
           have hO2 := HO2.out
           rw [← hW2] at hg3 hX2 hB2 hO2
           have hb3 : Below W2.heap.size W2 w3 := (Below.refl _ _).grown hg3 (Nat.le_refl _) (fun k hk => by cases hk)
           have hx3 := heap_below' hb3 hX2
           have y13 : w3.cell? ⟨wr.heap.size, 12, none⟩ = some (.slice e.pA e.pairs.length e.pc) := cell_of_row _ _ _ _ _ _ hx3
           have z13 : w3.frozen? ⟨wr.heap.size, 12, none⟩ = false := frozen_block hx3
           have hx4 : (w3.setCell ⟨wr.heap.size, 12, none⟩ (.slice A3 e.pairs.length c3)).heap[wr.heap.size]? = some (.cells (e.at A1 c1 A3 c3).arr 52 (0, 0)) := set_block (i := 12) hx3 (.slice A3 e.pairs.length c3)
           have ld4 := load_block (n := 13) hx4 rfl
           simp only [Ev.arr, Ev.at] at ld4
           have n52 : ∀ cs t, t ≠ 52 → w3.heap[wr.heap.size]? ≠ some (.cells cs t (0, 0)) := fun cs t ht hc => by
             rw [hx3] at hc
             injection hc with hc
             injection hc with _ hc
             exact ht hc.symm
           have hb4 : Below wr.heap.size wr (w3.setCell ⟨wr.heap.size, 12, none⟩ (.slice A3 e.pairs.length c3)) := (hB2.trans (hb3.mono hB2.size)).setCell (Nat.le_refl _) _
           have ho4 : (e.at A1 c1 A3 c3).Own w.heap.size (w3.setCell ⟨wr.heap.size, 12, none⟩ (.slice A3 e.pairs.length c3)) := ⟨own_setCell (own_below hO2 hb3) (fun cs => n52 cs 3 (by decide)) _, own_setCell ho3 (fun cs => n52 cs 58 (by decide)) _⟩
           have hrn := row_new (w3.setCell ⟨wr.heap.size, 12, none⟩ (.slice A3 e.pairs.length c3)) (e.at A1 c1 A3 c3).cells 52
           rw [show (w3.setCell ⟨wr.heap.size, 12, none⟩ (.slice A3 e.pairs.length c3)).heap.size = w3.heap.size by simp] at hrn
           have HRN := Lib.hid hrn
           have HB4 := Lib.hid hb4; have HO4 := Lib.hid ho4
           clear ho3 hg3 hat3 hW2 hX2 hB2 hO2 hb3 hx3 hx4 n52 hb4 ho4 hrn)
        | (at_builtin; refine wpList_append_is rfl (.tmp 24) (.tmp 26) rfl elemEv rfl ((own_below HO.out HB4.out).alloc _) _ 1 _ (e.at A1 c1 A3 c3).cells rfl HRN.out rfl (Ev.cells_one _) (by unfold maxLen; omega) (by omega) (by have := HWB.out; have := HB4.out.size; simp at this ⊢; omega) (fun e => by cases e) ?_
           intro v5 w5 ho5 hg5 hat5
           obtain ⟨A5, c5, rfl, _, _⟩ := row_of_own ho5
           obtain ⟨W4, hW4⟩ : ∃ W4, W4 = w3.setCell ⟨wr.heap.size, 12, none⟩ (.slice A3 e.pairs.length c3) := ⟨_, rfl⟩
           have hB4 := HB4.out
           have hO4 := HO4.out
           rw [← hW4] at hg5 hB4 hO4
           have hba := (Below.refl W4.heap.size W4).alloc (Nat.le_refl _) (.cells (e.at A1 c1 A3 c3).arr 52)
           have hoW := (own_below HO.out hB4).alloc (.cells (e.at A1 c1 A3 c3).arr 52)
           have HFIN : Hid (CpRel l w (l.length - (j + 1)) (.slice A5 (j + 1) c5) (.int .i64 ((j + 1 : Nat) : Int)) w5) := by
             refine ⟨j + 1, l' ++ [e.at A1 c1 A3 c3], by omega, rfl, rfl, HC.out.snoc HE.out _ _ _ _, ?_, fun x hx => ?_, ?_⟩
             · rw [show evCells (l' ++ [e.at A1 c1 A3 c3]) = evCells l' ++ (e.at A1 c1 A3 c3).cells by simp [evCells]]
               exact ho5
             · rcases List.mem_append.1 hx with hx | hx
               · exact (((HOWN.out x hx).below hB4).below hba).grown hoW hg5
               · obtain rfl : x = e.at A1 c1 A3 c3 := by simpa using hx
                 exact (hO4.below hba).grown hoW hg5
             · exact (HB.out.trans (hB4.mono HB.out.size)).trans (((hba.mono (Nat.le_trans HWB.out hB4.size)).grown hg5 (by have := hB4.size; have := HWB.out; simp; omega) (fun k hk => (hoW.lt k hk).1)))
           clear ho5 hg5 hat5 hW4 hB4 hO4 hba hoW))
      go_roundg (l.length - (j + 1))
      case measure => omega
      case rel => exact HFIN.out
    · have hjl : j = l.length := by omega
      subst hjl
      clear hc ho hown hb
      go_wp2_with fail
      go_ret
      exact ⟨_, l', rfl, by have := HC.out; rwa [List.take_length] at this, HO.out, HOWN.out, HB.out⟩
end Go.Proofs.Ytpnegacfanbcfaa

/- The blames of a history turn on the events alone, not on where their lists lie. -/
namespace Go.Proofs.Ytpnegacfanbcfaa
open Go.RowKit Go.Maps

def Ev.core (e : Ev) : Ev := e.at none 0 none 0
theorem pubF_core (l : List Ev) (parts part n : Int) : pubF (l.map Ev.core) parts part n = (pubF l parts part n).map Ev.core := by
  unfold pubF
  rw [List.filter_map]
  rfl
theorem tells_core {F F' : Int → List Ev} (h : ∀ n, F' n = (F n).map Ev.core) : ∀ (k : Nat) (acc : List Tab), tellsL F' k acc = tellsL F k acc
  | 0, acc => rfl
  | k + 1, acc => by
    unfold tellsL
    rw [h]
    cases F ((acc.length : Int) + 1) with
    | nil => rfl
    | cons e r =>
      cases r with
      | nil => exact tells_core h k _
      | cons _ _ => rfl
theorem told_core (l : List Ev) (starts : List (List (Int × Int))) (p : Nat) : toldAt (l.map Ev.core) starts p = toldAt l starts p := by
  unfold toldAt told
  rw [List.length_map]
  exact tells_core (fun n => pubF_core l _ _ n) _ _
theorem busy_core (l : List Ev) (parts part : Int) : busyB (l.map Ev.core) parts part = busyB l parts part := by
  unfold busyB
  rw [List.any_map]
  rfl
theorem self_core (l : List Ev) (starts : List (List (Int × Int))) (i : Int) (a : Ev) : selfL (l.map Ev.core) starts i a.core = selfL l starts i a := by
  have h1 : selfA (l.map Ev.core) starts i a.core = selfA l starts i a := by
    unfold selfA
    rw [told_core, busy_core]
    rfl
  have h2 : selfC (l.map Ev.core) starts i a.core = selfC l starts i a := by
    unfold selfC
    rw [told_core]
    rfl
  unfold selfL
  rw [h1, h2]
  rfl
theorem zip_core (l : List Ev) (j : Nat) : ((l.map Ev.core).take j).zipIdx = ((l.take j).zipIdx).map (Prod.map Ev.core id) := by
  rw [← List.map_take, List.zipIdx_map]
theorem bes_core (l : List Ev) (parts : Int) (i : Nat) (a : Ev) (j : Nat) : besU (l.map Ev.core) parts i a.core j = besU l parts i a j := by
  unfold besU
  rw [zip_core, List.flatMap_map]
  rfl
theorem one_core (l : List Ev) (starts : List (List (Int × Int))) (p : Ev × Nat) : oneU (l.map Ev.core) starts (p.1.core, p.2) = oneU l starts p := by
  unfold oneU
  rw [self_core, List.length_map, bes_core]
  rfl
theorem versions_core (l : List Ev) (starts : List (List (Int × Int))) : versionsL starts (l.map Ev.core) = versionsL starts l := by
  unfold versionsL allU
  rw [List.length_map, zip_core, List.flatMap_map]
  congr 2
  funext p
  exact one_core l starts p
theorem CopOf.versions {l l' : List Ev} (h : CopOf l l') (starts : List (List (Int × Int))) : versionsL starts l' = versionsL starts l := by
  have e : l'.map Ev.core = l.map Ev.core := by
    apply List.ext_getElem?
    intro k
    rw [List.getElem?_map, List.getElem?_map]
    cases hk : l[k]? with
    | none =>
      have : l'[k]? = none := by
        rw [List.getElem?_eq_none_iff] at hk ⊢
        rw [h.1]
        exact hk
      rw [this]
    | some x =>
      obtain ⟨a, b, c, d, h2⟩ := h.2 k x hk
      rw [h2]
      rfl
  rw [← versions_core l', e, versions_core]
end Go.Proofs.Ytpnegacfanbcfaa
