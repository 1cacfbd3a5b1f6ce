/- A pool in memory: its blocks, and what a store into them makes of it. No condition. -/
import Derived.Test.YteeefedoffplmaaGreatWord
import Derived.RegionTactic
import Derived.LoopTactic
import Derived.LoopN
namespace Go.Proofs.YteeefedoffplmaaGreat
open Go.RowKit

theorem flatMap_get {α : Type} (f : α → List Value) (s : Nat) (hf : ∀ x, (f x).length = s) : ∀ (l : List α) (k : Nat) (x : α), l[k]? = some x → ∀ j, j < s → (l.flatMap f)[k * s + j]? = (f x)[j]?
  | [], k, x, h => by simp at h
  | y :: l, 0, x, h => fun j hj => by
    simp at h
    subst h
    simp [List.getElem?_append, hf, hj]
  | y :: l, k + 1, x, h => fun j hj => by
    have ih := flatMap_get f s hf l k x (by simpa using h) j hj
    rw [List.flatMap_cons, List.getElem?_append_right (by rw [hf, Nat.succ_mul]; omega), hf, ← ih]
    congr 1
    rw [Nat.succ_mul]
    omega
theorem flatMap_set {α : Type} (f : α → List Value) (s : Nat) (hf : ∀ x, (f x).length = s) : ∀ (l : List α) (k : Nat) (x : α), l[k]? = some x → ∀ j v y, j < s → f y = (f x).set j v → (l.flatMap f).set (k * s + j) v = (l.set k y).flatMap f
  | [], k, x, h => by simp at h
  | z :: l, 0, x, h => fun j v y hj hy => by
    simp at h
    subst h
    rw [List.set_cons_zero, List.flatMap_cons, List.flatMap_cons, hy, List.set_append_left _ _ (by rw [hf]; omega)]
    simp
  | z :: l, k + 1, x, h => fun j v y hj hy => by
    have ih := flatMap_set f s hf l k x (by simpa using h) j v y hj hy
    rw [List.set_cons_succ, List.flatMap_cons, List.flatMap_cons, List.set_append_right _ _ (by rw [hf, Nat.succ_mul]; omega), hf, ← ih]
    congr 2
    rw [Nat.succ_mul]
    omega
theorem flatMap_len {α : Type} (f : α → List Value) (s : Nat) (hf : ∀ x, (f x).length = s) (l : List α) : (l.flatMap f).length = l.length * s := by
  induction l with
  | nil => simp
  | cons x l ih => rw [List.flatMap_cons, List.length_append, hf, ih, List.length_cons, Nat.succ_mul]; omega

def NodeS.cells (x : NodeS) : List Value := [.int .i64 x.a, .int .i64 x.b, .int .i64 x.c, .int .i64 x.d]
def NodeS.val (x : NodeS) : Value := .agg #[.int .i64 x.a, .int .i64 x.b, .int .i64 x.c, .int .i64 x.d]
def SlotS.cells (s : SlotS) : List Value := [.int .i64 s.gen, .int .i64 s.mark, .int .i64 s.link, .int .i64 s.node.a, .int .i64 s.node.b, .int .i64 s.node.c, .int .i64 s.node.d]
theorem SlotS.cells_length (s : SlotS) : s.cells.length = 7 := rfl
structure NodeS.Ok (x : NodeS) : Prop where
  a : In64 x.a
  b : In64 x.b
  c : In64 x.c
  d : In64 x.d
structure SlotS.Ok (s : SlotS) : Prop where
  gen : In64 s.gen
  mark : In64 s.mark
  link : In64 s.link
  node : s.node.Ok

/-- where a pool lies: its struct, its slots, its pile, the pile's places. -/
structure PoolL where
  pb : Nat
  lb : Nat
  fb : Nat
  nb : Nat
/-- the blocks that its calls write. -/
def PoolL.blocks (L : PoolL) : List Nat := [L.lb, L.fb, L.nb]
def PoolL.all (L : PoolL) : List Nat := [L.pb, L.lb, L.fb, L.nb]
def ptr (b : Nat) : Value := .pointer (some ⟨b, 0, none⟩)
def sliceOf (b n : Nat) : Value := .slice (some ⟨b, 0, none⟩) n n
structure PoolAt (w : World) (L : PoolL) (S : PoolS) : Prop where
  p : Blk w L.pb [sliceOf L.lb S.slots.length, ptr L.fb, .int .i64 S.faults] 124
  l : Blk w L.lb (S.slots.flatMap SlotS.cells) 280
  f : Blk w L.fb [.int .i64 S.head, sliceOf L.nb S.next.length] 271
  n : Blk w L.nb (S.next.map (Value.int .i64)) 122
  apart : L.pb ≠ L.lb ∧ L.pb ≠ L.fb ∧ L.pb ≠ L.nb ∧ L.lb ≠ L.fb ∧ L.lb ≠ L.nb ∧ L.fb ≠ L.nb
  len : S.next.length = S.slots.length
  most : S.slots.length ≤ 4097
  ok : ∀ s ∈ S.slots, s.Ok
  nok : ∀ x ∈ S.next, In64 x

section
variable {w w' : World} {L : PoolL} {S : PoolS}
theorem PoolAt.only (h : PoolAt w L S) {X : List Nat} (ho : Only X w w') (hx : ∀ k ∈ L.all, k ∉ X) : PoolAt w' L S :=
  ⟨h.p.only ho (hx _ (by simp [PoolL.all])), h.l.only ho (hx _ (by simp [PoolL.all])), h.f.only ho (hx _ (by simp [PoolL.all])), h.n.only ho (hx _ (by simp [PoolL.all])), h.apart, h.len, h.most, h.ok, h.nok⟩
theorem PoolAt.drew (h : PoolAt w L S) : PoolAt w.drew L S := ⟨h.p, h.l, h.f, h.n, h.apart, h.len, h.most, h.ok, h.nok⟩
theorem PoolAt.alloc (h : PoolAt w L S) (o : Obj) : PoolAt (w.alloc o) L S := h.only (X := []) ((Only.refl _ _).alloc o) (by simp)
theorem PoolAt.below (h : PoolAt w L S) (hb : Below w.heap.size w w') : PoolAt w' L S := h.only (X := []) (.of_below hb) (by simp)
theorem PoolAt.lt (h : PoolAt w L S) : ∀ k ∈ L.all, k < w.heap.size := by
  intro k hk
  simp only [PoolL.all, List.mem_cons, List.not_mem_nil, or_false] at hk
  rcases hk with rfl | rfl | rfl | rfl
  · exact h.p.lt
  · exact h.l.lt
  · exact h.f.lt
  · exact h.n.lt
/-- the cells of a slot. -/
theorem PoolAt.slot (h : PoolAt w L S) {i : Nat} {s : SlotS} (hs : S.slots[i]? = some s) {j : Nat} (hj : j < 7) {v : Value} (hv : s.cells[j]? = some v) : w.cell? ⟨L.lb, i * 7 + j, none⟩ = some v :=
  h.l.cell ((flatMap_get SlotS.cells 7 SlotS.cells_length S.slots i s hs j hj).trans hv)
theorem PoolAt.setSlot (h : PoolAt w L S) {i : Nat} {s s' : SlotS} (hs : S.slots[i]? = some s) {j : Nat} (hj : j < 7) {v : Value} (hv : s'.cells = s.cells.set j v) (hok : s'.Ok) :
    PoolAt (w.setCell ⟨L.lb, i * 7 + j, none⟩ v) L { S with slots := S.slots.set i s' } := by
  obtain ⟨a1, a2, a3, a4, a5, a6⟩ := h.apart
  refine ⟨by simpa using h.p.other a1 _ _, ?_, h.f.other a4.symm _ _, h.n.other a5.symm _ _, h.apart, by simpa using h.len, by simpa using h.most, fun x hx => ?_, h.nok⟩
  · have := h.l.set (i * 7 + j) v
    rwa [flatMap_set SlotS.cells 7 SlotS.cells_length S.slots i s hs j v s' hj hv] at this
  · rcases List.mem_or_eq_of_mem_set hx with hx | rfl
    · exact h.ok x hx
    · exact hok
theorem PoolAt.setHead (h : PoolAt w L S) (x : Int) : PoolAt (w.setCell ⟨L.fb, 0, none⟩ (.int .i64 x)) L { S with head := x } := by
  obtain ⟨a1, a2, a3, a4, a5, a6⟩ := h.apart
  exact ⟨h.p.other a2 _ _, h.l.other a4 _ _, h.f.set 0 _, h.n.other a6.symm _ _, h.apart, h.len, h.most, h.ok, h.nok⟩
theorem PoolAt.setNext (h : PoolAt w L S) (i : Nat) (x : Int) (hx : In64 x) : PoolAt (w.setCell ⟨L.nb, i, none⟩ (.int .i64 x)) L { S with next := S.next.set i x } := by
  obtain ⟨a1, a2, a3, a4, a5, a6⟩ := h.apart
  refine ⟨h.p.other a3 _ _, h.l.other a5 _ _, by simpa using h.f.other a6 _ _, ?_, h.apart, by simpa using h.len, h.most, h.ok, fun y hy => ?_⟩
  · have := h.n.set i (.int .i64 x)
    rwa [← List.map_set] at this
  · rcases List.mem_or_eq_of_mem_set hy with hy | rfl
    · exact h.nok y hy
    · exact hx
theorem PoolAt.next (h : PoolAt w L S) {i : Nat} {x : Int} (hx : S.next[i]? = some x) : w.cell? ⟨L.nb, i, none⟩ = some (.int .i64 x) := h.n.cell (by simp [hx])
end
end Go.Proofs.YteeefedoffplmaaGreat

/- A slot's node read and laid down. Conditions: the slot's cells hold int64s and are not frozen. -/
namespace Go.Proofs.YteeefedoffplmaaGreat
open Go.RowKit

theorem holdsN (b o c : Nat) (k : Nat) (x : Int) (w : World) (kk : Int) (p : Nat) (hkk : kk = k) (hp : p = o + 3 + k) (hk : k < 4) (hc : w.cell? ⟨c, 0, none⟩ = some (.pointer (some ⟨b, o, none⟩))) (hx : w.cell? ⟨b, p, none⟩ = some (.int .i64 x)) :
    Calls Tryz.prog 210 #[.int .i64 kk, .pointer (some ⟨c, 0, none⟩)] w fun e w' => e = .returned (.int .i64 x) ∧ w = w' := by
  subst hkk hp
  go_enter Tryz.func210, Tryz.ntmps210
  go_wp2_with (go_at_call 51; refine (atomLoad _ _ _ _ hx).mono ?_; rintro e w' ⟨rfl, rfl⟩)
  go_ret
  exact ⟨rfl, rfl⟩
theorem cell_below {w w' : World} (hb : Below w.heap.size w w') {a : Addr} {v : Value} (h : w.cell? a = some v) : w'.cell? a = some v := (hb.cell (block_lt_of_cell h)).trans h
theorem cell_alloc {w : World} {a : Addr} {v : Value} (h : w.cell? a = some v) (o : Obj) : (w.alloc o).cell? a = some v := cell_below ((Below.refl _ _).alloc (Nat.le_refl _) o) h
theorem cell_new (w : World) (cs : Array Value) (t : TypeId) (i : Nat) (v : Value) (h : cs[i]? = some v) : (w.alloc (.cells cs t)).cell? ⟨w.heap.size, i, none⟩ = some v := by
  have h' := heap_alloc_new w (.cells cs t)
  unfold World.cell?
  rw [h']
  simpa using h
set_option maxRecDepth 100000 in
set_option maxHeartbeats 400000 in
theorem holds_any (b o : Nat) (x : NodeS) (w : World) (h0 : w.cell? ⟨b, o + 3, none⟩ = some (.int .i64 x.a)) (h1 : w.cell? ⟨b, o + 4, none⟩ = some (.int .i64 x.b))
    (h2 : w.cell? ⟨b, o + 5, none⟩ = some (.int .i64 x.c)) (h3 : w.cell? ⟨b, o + 6, none⟩ = some (.int .i64 x.d)) :
    Calls Tryz.prog 172 #[.pointer (some ⟨b, o, none⟩)] w fun e w' => e = .returned x.val ∧ Below w.heap.size w w' := by
  have hc := fun u => cell_alloc (cell_new w #[Value.pointer (some ⟨b, o, none⟩)] 277 0 _ rfl) u
  have g0 := fun v => holdsN b o w.heap.size 0 x.a _ 0 (o + 3) rfl rfl (by omega) (hc v) (cell_alloc (cell_alloc h0 _) v)
  have g1 := fun v => holdsN b o w.heap.size 1 x.b _ 1 (o + 4) rfl rfl (by omega) (hc v) (cell_alloc (cell_alloc h1 _) v)
  have g2 := fun v => holdsN b o w.heap.size 2 x.c _ 2 (o + 5) rfl rfl (by omega) (hc v) (cell_alloc (cell_alloc h2 _) v)
  have g3 := fun v => holdsN b o w.heap.size 3 x.d _ 3 (o + 6) rfl rfl (by omega) (hc v) (cell_alloc (cell_alloc h3 _) v)
  have G0 := Lib.hid g0; have G1 := Lib.hid g1; have G2 := Lib.hid g2; have G3 := Lib.hid g3
  clear g0 g1 g2 g3 hc h0 h1 h2 h3
  go_enter Tryz.func172, Tryz.ntmps172
  go_wp2_with (go_at_call 210; (first | (with_reducible refine (G0.out _).mono ?_) | (with_reducible refine (G1.out _).mono ?_) | (with_reducible refine (G2.out _).mono ?_) | (with_reducible refine (G3.out _).mono ?_)); rintro e w' ⟨rfl, rfl⟩)
  exact bodyPost_ret (v := x.val) (by simp [results, Tryz.results172, go_sem, NodeS.val]) rfl ⟨rfl, ((Below.refl _ _).alloc (Nat.le_refl _) _).alloc (by simp) _⟩

/-- what a store into a slot leaves. -/
def Stored (L : PoolL) (S' : PoolS) (w : World) (r : Value) (e : Ending) (w' : World) : Prop := e = .returned r ∧ PoolAt w' L S' ∧ Only L.blocks w w'
theorem poolStore {w : World} {L : PoolL} {S : PoolS} (h : PoolAt w L S) {i : Nat} {s : SlotS} (hs : S.slots[i]? = some s) (j : Nat) (hj : j < 7) (x : Int) (hx : s.cells[j]? = some (.int .i64 x)) (s' : SlotS) (y : Int) (hv : s'.cells = s.cells.set j (.int .i64 y)) (hok : s'.Ok) (p : Nat) (hp : p = i * 7 + j) :
    Calls Tryz.prog 100 #[.pointer (some ⟨L.lb, p, none⟩), .int .i64 y] w (Stored L { S with slots := S.slots.set i s' } w (.tuple #[])) := by
  subst hp
  refine (atomStore _ _ x _ _ (h.slot hs hj hx) (h.l.frozen _)).mono ?_
  rintro e w' ⟨rfl, rfl⟩
  exact ⟨rfl, h.setSlot hs hj hv hok, (Only.refl _ _).setCell (.inl (by simp [PoolL.blocks])) _⟩
/-- the slots, one set. -/
def PoolS.with (S : PoolS) (i : Nat) (s : SlotS) : PoolS := { S with slots := S.slots.set i s }
theorem PoolS.with_with (S : PoolS) (i : Nat) (s s' : SlotS) : (S.with i s).with i s' = S.with i s' := by simp [PoolS.with]
theorem PoolS.with_get (S : PoolS) {i : Nat} {s : SlotS} (hs : S.slots[i]? = some s) (s' : SlotS) : (S.with i s').slots[i]? = some s' := by
  have := (List.getElem?_eq_some_iff.1 hs).1
  simp [PoolS.with, this]
def SlotS.setj (s : SlotS) (j : Nat) (y : Int) : SlotS :=
  match j with
  | 0 => { s with gen := y }
  | 1 => { s with mark := y }
  | 2 => { s with link := y }
  | 3 => { s with node := { s.node with a := y } }
  | 4 => { s with node := { s.node with b := y } }
  | 5 => { s with node := { s.node with c := y } }
  | _ => { s with node := { s.node with d := y } }
theorem SlotS.setj_cells (s : SlotS) (j : Nat) (hj : j < 7) (y : Int) : (s.setj j y).cells = s.cells.set j (.int .i64 y) := by
  obtain rfl | rfl | rfl | rfl | rfl | rfl | rfl : j = 0 ∨ j = 1 ∨ j = 2 ∨ j = 3 ∨ j = 4 ∨ j = 5 ∨ j = 6 := by omega
  all_goals rfl
theorem SlotS.setj_ok {s : SlotS} (h : s.Ok) (j : Nat) (hj : j < 7) {y : Int} (hy : In64 y) : (s.setj j y).Ok := by
  obtain ⟨h0, h1, h2, h3, h4, h5, h6⟩ := h
  obtain rfl | rfl | rfl | rfl | rfl | rfl | rfl : j = 0 ∨ j = 1 ∨ j = 2 ∨ j = 3 ∨ j = 4 ∨ j = 5 ∨ j = 6 := by omega
  all_goals (refine ⟨?_, ?_, ?_, ?_, ?_, ?_, ?_⟩ <;> assumption)
theorem SlotS.cells_some (s : SlotS) (j : Nat) (hj : j < 7) : ∃ x, s.cells[j]? = some (.int .i64 x) := by
  obtain rfl | rfl | rfl | rfl | rfl | rfl | rfl : j = 0 ∨ j = 1 ∨ j = 2 ∨ j = 3 ∨ j = 4 ∨ j = 5 ∨ j = 6 := by omega
  all_goals exact ⟨_, rfl⟩
/-- a store into a slot that stands at s. -/
theorem slotStore {w : World} {L : PoolL} {S : PoolS} {i : Nat} {s0 s : SlotS} (hs : Hid (S.slots[i]? = some s0)) (h : Hid (PoolAt w L (S.with i s))) (j : Nat) (hj : j < 7) (y : Int) (hy : In64 y) (p : Nat) (hp : p = i * 7 + j) :
    Calls Tryz.prog 100 #[.pointer (some ⟨L.lb, p, none⟩), .int .i64 y] w (Stored L (S.with i (s.setj j y)) w (.tuple #[])) := by
  have hs' := S.with_get hs.out s
  obtain ⟨x, hx⟩ := s.cells_some j hj
  have := poolStore h.out hs' j hj x hx (s.setj j y) y (s.setj_cells j hj y) (SlotS.setj_ok (h.out.ok s (List.mem_of_getElem? hs')) j hj hy) p hp
  have e : ({ S.with i s with slots := (S.with i s).slots.set i (s.setj j y) } : PoolS) = S.with i (s.setj j y) := S.with_with i s _
  rwa [e] at this
theorem PoolS.with_self (S : PoolS) {i : Nat} {s : SlotS} (hs : S.slots[i]? = some s) : S.with i s = S := by
  have : S.slots.set i s = S.slots := by
    apply List.ext_getElem?
    intro k
    by_cases hk : i = k
    · subst hk
      rw [List.getElem?_set_self (List.getElem?_eq_some_iff.1 hs).1, hs]
    · rw [List.getElem?_set_ne hk]
  simp [PoolS.with, this]
set_option maxRecDepth 100000 in
set_option maxHeartbeats 800000 in
theorem lays_any (w : World) (L : PoolL) (S : PoolS) (h : PoolAt w L S) (i : Nat) (s : SlotS) (hs : S.slots[i]? = some s) (x : NodeS) (mark link : Int) (hx : x.Ok) (hm : In64 mark) (hl : In64 link) :
    Calls Tryz.prog 192 #[.pointer (some ⟨L.lb, i * 7, none⟩), x.val, .int .i64 mark, .int .i64 link] w (Stored L (S.with i ⟨s.gen, mark, link, x⟩) w (.tuple #[])) := by
  have hp : PoolAt (w.alloc (.cells #[.int .i64 x.a, .int .i64 x.b, .int .i64 x.c, .int .i64 x.d] 218)) L (S.with i s) := by
    rw [S.with_self hs]
    exact h.alloc _
  have ho : Only L.blocks w (w.alloc (.cells #[.int .i64 x.a, .int .i64 x.b, .int .i64 x.c, .int .i64 x.d] 218)) := (Only.refl _ _).alloc _
  have HP := Lib.hid hp
  have HO := Lib.hid ho
  have HS := Lib.hid hs
  clear hp ho h hs
  obtain ⟨x0, x1, x2, x3⟩ := hx
  have X0 := Lib.hid x0; have X1 := Lib.hid x1; have X2 := Lib.hid x2; have X3 := Lib.hid x3; have HM := Lib.hid hm; have HL := Lib.hid hl
  clear x0 x1 x2 x3 hm hl
  unfold NodeS.val
  obtain ⟨a, b, c, d⟩ := x
  have i0 : ∀ w : World, (Instr.index 328 (.agg #[.int .i64 a, .int .i64 b, .int .i64 c, .int .i64 d]) (.int .i64 0)).run Tryz.prog w = .ok (.int .i64 a) w := fun w => by kernel_rfl
  have i1 : ∀ w : World, (Instr.index 328 (.agg #[.int .i64 a, .int .i64 b, .int .i64 c, .int .i64 d]) (.int .i64 1)).run Tryz.prog w = .ok (.int .i64 b) w := fun w => by kernel_rfl
  have i2 : ∀ w : World, (Instr.index 328 (.agg #[.int .i64 a, .int .i64 b, .int .i64 c, .int .i64 d]) (.int .i64 2)).run Tryz.prog w = .ok (.int .i64 c) w := fun w => by kernel_rfl
  have i3 : ∀ w : World, (Instr.index 328 (.agg #[.int .i64 a, .int .i64 b, .int .i64 c, .int .i64 d]) (.int .i64 3)).run Tryz.prog w = .ok (.int .i64 d) w := fun w => by kernel_rfl
  go_enter Tryz.func192, Tryz.ntmps192
  go_wp2_with fail
  refine wp_loop_rounds 5 ?_
  rw [rounds_succ]
  go_wp2_with (go_at_call 100; (first | (with_reducible refine (slotStore HS HP 3 (by omega) _ X0.out _ rfl).mono ?_) | (with_reducible refine (slotStore HS HP 4 (by omega) _ X1.out _ rfl).mono ?_) | (with_reducible refine (slotStore HS HP 5 (by omega) _ X2.out _ rfl).mono ?_) | (with_reducible refine (slotStore HS HP 6 (by omega) _ X3.out _ rfl).mono ?_) | (with_reducible refine (slotStore HS HP 1 (by omega) _ HM.out _ rfl).mono ?_) | (with_reducible refine (slotStore HS HP 2 (by omega) _ HL.out _ rfl).mono ?_)); rintro e w' ⟨rfl, hp, ho⟩; have HP := Lib.hid hp; have HO := Lib.hid (HO.out.trans ho); clear hp ho)
  rw [rounds_succ]
  go_wp2_with (go_at_call 100; (first | (with_reducible refine (slotStore HS HP 3 (by omega) _ X0.out _ rfl).mono ?_) | (with_reducible refine (slotStore HS HP 4 (by omega) _ X1.out _ rfl).mono ?_) | (with_reducible refine (slotStore HS HP 5 (by omega) _ X2.out _ rfl).mono ?_) | (with_reducible refine (slotStore HS HP 6 (by omega) _ X3.out _ rfl).mono ?_) | (with_reducible refine (slotStore HS HP 1 (by omega) _ HM.out _ rfl).mono ?_) | (with_reducible refine (slotStore HS HP 2 (by omega) _ HL.out _ rfl).mono ?_)); rintro e w' ⟨rfl, hp, ho⟩; have HP := Lib.hid hp; have HO := Lib.hid (HO.out.trans ho); clear hp ho)
  rw [rounds_succ]
  go_wp2_with (go_at_call 100; (first | (with_reducible refine (slotStore HS HP 3 (by omega) _ X0.out _ rfl).mono ?_) | (with_reducible refine (slotStore HS HP 4 (by omega) _ X1.out _ rfl).mono ?_) | (with_reducible refine (slotStore HS HP 5 (by omega) _ X2.out _ rfl).mono ?_) | (with_reducible refine (slotStore HS HP 6 (by omega) _ X3.out _ rfl).mono ?_) | (with_reducible refine (slotStore HS HP 1 (by omega) _ HM.out _ rfl).mono ?_) | (with_reducible refine (slotStore HS HP 2 (by omega) _ HL.out _ rfl).mono ?_)); rintro e w' ⟨rfl, hp, ho⟩; have HP := Lib.hid hp; have HO := Lib.hid (HO.out.trans ho); clear hp ho)
  rw [rounds_succ]
  go_wp2_with (go_at_call 100; (first | (with_reducible refine (slotStore HS HP 3 (by omega) _ X0.out _ rfl).mono ?_) | (with_reducible refine (slotStore HS HP 4 (by omega) _ X1.out _ rfl).mono ?_) | (with_reducible refine (slotStore HS HP 5 (by omega) _ X2.out _ rfl).mono ?_) | (with_reducible refine (slotStore HS HP 6 (by omega) _ X3.out _ rfl).mono ?_) | (with_reducible refine (slotStore HS HP 1 (by omega) _ HM.out _ rfl).mono ?_) | (with_reducible refine (slotStore HS HP 2 (by omega) _ HL.out _ rfl).mono ?_)); rintro e w' ⟨rfl, hp, ho⟩; have HP := Lib.hid hp; have HO := Lib.hid (HO.out.trans ho); clear hp ho)
  rw [rounds_succ]
  go_wp2_with (go_at_call 100; (first | (with_reducible refine (slotStore HS HP 3 (by omega) _ X0.out _ rfl).mono ?_) | (with_reducible refine (slotStore HS HP 4 (by omega) _ X1.out _ rfl).mono ?_) | (with_reducible refine (slotStore HS HP 5 (by omega) _ X2.out _ rfl).mono ?_) | (with_reducible refine (slotStore HS HP 6 (by omega) _ X3.out _ rfl).mono ?_) | (with_reducible refine (slotStore HS HP 1 (by omega) _ HM.out _ rfl).mono ?_) | (with_reducible refine (slotStore HS HP 2 (by omega) _ HL.out _ rfl).mono ?_)); rintro e w' ⟨rfl, hp, ho⟩; have HP := Lib.hid hp; have HO := Lib.hid (HO.out.trans ho); clear hp ho)
  go_end0
  exact ⟨rfl, HP.out, HO.out⟩
end Go.Proofs.YteeefedoffplmaaGreat
