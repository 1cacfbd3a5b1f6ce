/- A list that is lent (lent), and that it stays (stays). -/
import Derived.Test.YtpnegacfanbcfaaFits
import Derived.Test.YtpnegacfanbcfaaSame
import Derived.Test.YtpnegacfanbcfaaKnown
import Derived.Test.YtpnegacfanbcfaaFitsW
namespace Go.Proofs.Ytpnegacfanbcfaa
open Go.RowKit

theorem make_cap {t e size bytes : Nat} (z : Value) (E : ElemOk Try.prog t e size bytes) (hz : (Try.prog.info? e).bind (fun i => i.zero) = some z) (c : Nat) (hc : c * size ≤ 16777216) (hb : bytes * c ≤ 281474976710656) (w : World) :
    (Instr.makeSlice t (.int .i64 0) (.int .i64 (c : Int))).run Try.prog w = .ok (.slice (some ⟨w.heap.size, 0, none⟩) 0 c) (w.alloc (.cells (madeCells z.cells (c * size)) e)) := by
  obtain ⟨ht, hs, i, z', hi, hz', h2, h3, h4⟩ := E
  have hzz : z' = z := by
    rw [hi] at hz
    simp only [Option.bind_some] at hz
    rw [hz'] at hz
    injection hz
  subst hzz
  have hcb : (bytes : Int) * c ≤ 281474976710656 := by
    have h : ((bytes * c : Nat) : Int) ≤ 281474976710656 := by omega
    rwa [Int.natCast_mul] at h
  have := run_makeSlice (P := Try.prog) (w := w) t e i z' ht hi hz' .i64 .i64 0 (c : Int) (by omega) (by omega) (by rw [h2]; simpa using hc) (by rw [h3]; exact hcb) (by
    rcases Nat.eq_zero_or_pos size with h | h
    · omega
    · have := Nat.le_mul_of_pos_right c h
      omega)
  rw [h2] at this
  simpa using this

theorem wpList_make_is {P : Program} {w : World} {ops : Array Oper} {rest : List Oper} {o : Oper} {a : Act} {Q : Exit → Act → World → Prop} (hg : o.guard = none) (l c : Operand) (t : TypeId) (hop : o.op = Op.makeSlice t l c) {vl vc : Value} (hl : a.eval l = vl) (hc : a.eval c = vc) {v : Value} {w' : World}
    (hrun : (Instr.makeSlice t vl vc).run P w = .ok v w') (h : wpList P ops Q rest (a.put o.dst v) w') : wpList P ops Q (o :: rest) a w := by
  refine wpList_plain hg fun K hK => ?_
  unfold Oper.wp
  simp [execOp, hop, hl, hc, hrun, Result.andThen]
  exact hK _ _ h
theorem wpList_append_room_is {P : Program} {t e size bytes : Nat} {w : World} {ops : Array Oper} {rest : List Oper} {o : Oper} {a : Act} {Q : Exit → Act → World → Prop} (hgd : o.guard = none) (s x : Operand)
    (ho : o.op = .call { callee := .builtin .append, args := #[s, x], argTypes := #[t, t] }) (E : ElemOk P t e size bytes) {g n cap : Nat} {cur : Array Value} (hs : a.eval s = .slice (some ⟨g, 0, none⟩) n cap) (hg : w.heap[g]? = some (.cells cur e (0, 0)))
    (A : Option Addr) (m c : Nat) (news : List Value) (hx : a.eval x = .slice A m c) (hr : Row w A news) (hl : news.length = m * size) (h1 : ∀ u ∈ news, u.oneCell' = true) (hroom : n + m ≤ cap) (hfit : n * size + m * size ≤ cur.size) (hA : A = none → m = 0)
    (h : ∀ w', w'.heap[g]? = some (.cells (cur.toList.take (n * size) ++ news ++ cur.toList.drop (n * size + m * size)).toArray e (0, 0)) → w.grownBy w' (some g) → w'.heap.size = w.heap.size → wpList P ops Q rest (a.put o.dst (.slice (some ⟨g, 0, none⟩) (n + m) cap)) w') :
    wpList P ops Q (o :: rest) a w := by
  refine wpList_plain hgd fun K hK => ?_
  obtain ⟨ht, hsz, i, z, hi, hz, h2, h3, h4⟩ := E
  cases A with
  | none =>
    obtain rfl := hA rfl
    have hn : news = [] := List.eq_nil_of_length_eq_zero (by simpa using hl)
    subst hn
    have hrun : (Builtin.append_ #[t, t] o.type #[.slice (some ⟨g, 0, none⟩) n cap, .slice none 0 c]).run P w = .ok (.slice (some ⟨g, 0, none⟩) n cap) w := by
      simp [Builtin.append_, run_underlying ht, sizeOf, typeInfo, hi, Builtin.lenOf, Builtin.firstCells, show n ≤ cap by omega, storeCells]
    unfold Oper.wp execOp
    simp only [ho, resolve, invoke, builtin, Sem.run_bind, Sem.run_pure, Result.andThen_ok, List.map_toArray, List.map_cons, List.map_nil, hs, hx, hrun]
    refine hK _ _ (h w ?_ (World.grownBy.refl w _) rfl)
    rw [hg]
    simp
  | some ad =>
    have hcells : ∀ j u, news[j]? = some u → w.cell? (ad.add j) = some u := by
      intro j u hu
      obtain ⟨b, off, e1, hc⟩ := hr j u hu
      injection e1 with e1
      rw [e1, addr_add]
      exact hc
    have hrun := run_append_room (P := P) w t o.type e i ht hi g n cap cur hg ad m c news (by rw [h2]; exact hl) hcells h1 hroom (by rw [h2, hl]; exact hfit)
    unfold Oper.wp execOp
    simp only [ho, resolve, invoke, builtin, Sem.run_bind, Sem.run_pure, Result.andThen_ok, List.map_toArray, List.map_cons, List.map_nil, hs, hx, hrun]
    refine hK _ _ (h _ ?_ ⟨rfl, rfl, rfl, by simp, fun k _ hk => setRow_other w g k _ (fun e => hk (by rw [e]))⟩ (by simp))
    rw [setRow_heap w g cur _ e _ hg, h2, hl]

def rooms : List Int := [-4000, -4001, -4002]
theorem madeInts (c : Nat) : (madeCells #[Value.int .i64 0] c).toList = nums (List.replicate c 0) := by
  simp [madeCells, nums, Nat.mod_one]
  apply List.ext_getElem?
  intro j
  by_cases hj : j < c <;> simp [hj]
theorem lent_start (first : List Int) (xs : List Value) : List.take (0 * 1) xs ++ nums first ++ List.drop (0 * 1 + first.length * 1) (nums (List.replicate (first.length + 3) 0)) = nums (first ++ (rooms.take 0 ++ List.replicate (3 - 0) 0)) := by
  simp [nums]

/-- while room is written. -/
def LentRel (first : List Int) (g : Nat) (w : World) (k : Nat) (i : Value) (wr : World) : Prop :=
  ∃ j : Nat, j ≤ 3 ∧ i = .int .i64 (j : Int) ∧ k = 3 - j ∧ wr.heap[g]? = some (.cells (nums (first ++ (rooms.take j ++ List.replicate (3 - j) 0))).toArray 3 (0, 0)) ∧ Below w.heap.size w wr
theorem rooms_next (first : List Int) (j : Nat) (hj : j < 3) : (nums (first ++ (rooms.take j ++ List.replicate (3 - j) 0))).toArray.setIfInBounds (first.length + j) (.int .i64 (-4000 - j)) = (nums (first ++ (rooms.take (j + 1) ++ List.replicate (3 - (j + 1)) 0))).toArray := by
  obtain rfl | rfl | rfl : j = 0 ∨ j = 1 ∨ j = 2 := by omega
  all_goals
    apply Array.toList_inj.1
    simp [nums, rooms, List.replicate]

set_option maxRecDepth 100000 in
set_option maxHeartbeats 1000000 in
theorem lent_walk (first : List Int) (fA : Option Addr) (fc : Nat) (w : World) (hn : first.length ≤ 1000) (hr : Row w fA (nums first)) (h0 : fA = none → first.length = 0) :
    Calls Try.prog 8 #[.slice fA first.length fc] w fun e w' => ∃ g, e = .returned (.slice (some ⟨g, 0, none⟩) first.length (first.length + 3)) ∧ w'.heap[g]? = some (.cells (nums (first ++ rooms)).toArray 3 (0, 0)) ∧ w.heap.size ≤ g ∧ Below w.heap.size w w' := by
  have HR := Lib.hid hr; have H0 := Lib.hid h0
  have hmk := fun w => make_cap (.int .i64 0) elemInt (by kernel_rfl) (first.length + 3) (by omega) (by omega) w
  have hmk' : ∀ w, (Instr.makeSlice 22 (.int .i64 0) (.int .i64 ((first.length : Int) + 3))).run Try.prog w = .ok (.slice (some ⟨w.heap.size, 0, none⟩) 0 (first.length + 3)) (w.alloc (.cells (madeCells (Value.int .i64 0).cells ((first.length + 3) * 1)) 3)) := by
    intro w
    have := hmk w
    rwa [show (((first.length + 3 : Nat)) : Int) = (first.length : Int) + 3 by omega] at this
  clear hr h0 hmk
  go_enter Try.func8, Try.ntmps8
  go_wp2_with (first
    | (at_make; refine wpList_make_is rfl (.const (.int .i64 0)) (.tmp 8) 22 rfl rfl rfl (hmk' _) ?_)
    | (at_builtin; refine wpList_append_room_is rfl (.tmp 9) (.tmp 10) rfl elemInt rfl (heap_alloc_new _ _) fA first.length fc (nums first) rfl (HR.out.below ((Below.refl _ _).alloc (Nat.le_refl _) _)) (by simp [nums]) (by intro u hu; obtain ⟨x, _, rfl⟩ := List.mem_map.1 hu; rfl) (by omega) (by rw [size_madeCells]; omega) H0.out ?_
       intro w1 hg1 hgr1 hsz1
       obtain ⟨g, hg⟩ : ∃ g, g = w.heap.size := ⟨_, rfl⟩
       have hbl : Below w.heap.size w w1 := ((Below.refl _ _).alloc (Nat.le_refl _) _).grown hgr1 (by simp) (fun k hk => by injection hk with hk; omega)
       rw [madeInts, lent_start] at hg1
       rw [← hg] at hg1 ⊢
       have HG1 := Lib.hid hg1; have HBL := Lib.hid hbl; have HG := Lib.hid hg
       clear hg1 hgr1 hsz1 hbl hg hmk'))
  rw [show first.length + 3 - first.length = 3 by omega]
  go_loopg [5] 3 (fun k i wr => LentRel first g w k i wr)
  case atStart => exact ⟨0, by omega, rfl, rfl, HG1.out, HBL.out⟩
  case round =>
    obtain ⟨j, hj, rfl, rfl, hgw, hbw⟩ := hrel
    have HGW := Lib.hid hgw; have HBW := Lib.hid hbw
    by_cases hlt : j < 3
    · have c0 : ∃ u, wr.cell? ⟨g, first.length + j, none⟩ = some u := by
        refine ⟨_, (cell_of_row _ _ _ _ _ _ hgw).trans (Array.getElem?_eq_getElem ?_)⟩
        simp [nums, rooms]
        omega
      obtain ⟨u, c0⟩ := c0
      have f0 : wr.frozen? ⟨g, first.length + j, none⟩ = false := by simp [World.frozen?, hgw]
      clear hgw hbw
      go_wp2_with fail
      go_roundg (3 - (j + 1))
      case measure => omega
      case rel =>
        refine ⟨j + 1, by omega, by go_num, rfl, ?_, HBW.out.setCell (by rw [HG.out]; exact Nat.le_refl _) _⟩
        rw [← rooms_next first j hlt]
        have := HGW.out
        simp [World.setCell, Array.getElem?_modify, this]
    · obtain rfl : j = 3 := by omega
      clear hgw hbw
      go_wp2_with fail
      go_ret
      exact ⟨g, rfl, by simpa [rooms] using HGW.out, Nat.le_of_eq HG.out.symm, HBW.out⟩

set_option maxRecDepth 100000 in
set_option maxHeartbeats 1000000 in
theorem stays_walk (first : List Int) (fA : Option Addr) (fc g : Nat) (w : World) (hn : first.length ≤ 1000) (hr : Row w fA (nums first)) (hg : w.heap[g]? = some (.cells (nums (first ++ rooms)).toArray 3 (0, 0))) :
    Calls Try.prog 13 #[.slice (some ⟨g, 0, none⟩) first.length (first.length + 3), .slice fA first.length fc] w fun e w' => e = .returned (.bool true) ∧ Below w.heap.size w w' := by
  have HR := Lib.hid hr; have HG := Lib.hid hg
  clear hr hg
  go_enter Try.func13, Try.ntmps13
  go_wp2_with fail
  go_loopg [5] first.length (fun k i wr => ∃ j : Nat, j ≤ first.length ∧ i = .int .i64 (j : Int) ∧ k = first.length - j ∧ Below w.heap.size w wr)
  case atStart => exact ⟨0, Nat.zero_le _, rfl, rfl, Below.refl _ _⟩
  case round =>
    obtain ⟨j, hj, rfl, rfl, hbw⟩ := hrel
    obtain ⟨wo, hwo⟩ : ∃ wo : World, wo = wr := ⟨_, rfl⟩
    subst hwo
    have HBW := Lib.hid hbw
    have hg2 : wo.heap[g]? = some (.cells (nums (first ++ rooms)).toArray 3 (0, 0)) := (hbw.block _ (Array.getElem?_eq_some_iff.1 HG.out).1).trans HG.out
    by_cases hlt : j < first.length
    · obtain ⟨x, hx⟩ : ∃ x, first[j]? = some x := ⟨_, List.getElem?_eq_getElem hlt⟩
      have c0 : wo.cell? ⟨g, j, none⟩ = some (.int .i64 x) := by
        rw [cell_of_row _ _ _ _ _ _ hg2]
        obtain ⟨_, h⟩ := List.getElem?_eq_some_iff.1 hx
        simp [nums, List.getElem?_append, hlt]
        exact h
      obtain ⟨b, off, hA, c1⟩ := (HR.out.below hbw) j (.int .i64 x) (by simp [nums, hx])
      subst hA
      have hxx : (x != x) = false := by simp
      clear hg2 hbw hx
      go_wp2_with fail
      go_quiet (fail)
      go_wp2_with fail
      go_roundg (first.length - (j + 1))
      case measure => omega
      case rel => exact ⟨j + 1, by omega, by go_num, rfl, below_drewN HBW.out _⟩
    · have c0 : wo.cell? ⟨g, first.length, none⟩ = some (.int .i64 (-4000)) := by
        rw [cell_of_row _ _ _ _ _ _ hg2]
        simp [nums, rooms]
      have c1 : wo.cell? ⟨g, first.length + 1, none⟩ = some (.int .i64 (-4001)) := by
        rw [cell_of_row _ _ _ _ _ _ hg2]
        simp [nums, rooms]
      have c2 : wo.cell? ⟨g, first.length + 2, none⟩ = some (.int .i64 (-4002)) := by
        rw [cell_of_row _ _ _ _ _ _ hg2]
        simp [nums, rooms]
      have e3 : first.length + 3 - first.length = 3 := by omega
      clear hg2 hbw
      go_wp2_with fail
      go_ret
      exact ⟨rfl, HBW.out⟩
end Go.Proofs.Ytpnegacfanbcfaa

/- JudgeOrders: what is lent to Order. -/
namespace Go.Proofs.Ytpnegacfanbcfaa
open Go.RowKit

theorem step_append_room_is {P : Program} {t e size bytes : Nat} {w : World} {ops : Array Oper} {o : Oper} {a : Act} {K : Act → World → Prop} {Q : Exit → Act → World → Prop} {F : Prop} (hgd : o.guard = none) (s x : Operand)
    (ho : o.op = .call { callee := .builtin .append, args := #[s, x], argTypes := #[t, t] }) (E : ElemOk P t e size bytes) {g n cap : Nat} {cur : Array Value} (hs : a.eval s = .slice (some ⟨g, 0, none⟩) n cap) (hg : w.heap[g]? = some (.cells cur e (0, 0)))
    (A : Option Addr) (m c : Nat) (news : List Value) (hx : a.eval x = .slice A m c) (hr : Row w A news) (hl : news.length = m * size) (h1 : ∀ u ∈ news, u.oneCell' = true) (hroom : n + m ≤ cap) (hfit : n * size + m * size ≤ cur.size) (hA : A = none → m = 0)
    (h : ∀ w', w'.heap[g]? = some (.cells (cur.toList.take (n * size) ++ news ++ cur.toList.drop (n * size + m * size)).toArray e (0, 0)) → w.grownBy w' (some g) → w'.heap.size = w.heap.size → K (a.put o.dst (.slice (some ⟨g, 0, none⟩) (n + m) cap)) w') :
    if Region.wanted o (yielded ops a.tmps) = true then Oper.wp P o a w K Q else F := by
  have hw : Region.wanted o (yielded ops a.tmps) = true := by simp [Region.wanted, hgd]
  rw [if_pos hw]
  obtain ⟨ht, hsz, i, z, hi, hz, h2, h3, h4⟩ := E
  cases A with
  | none =>
    obtain rfl := hA rfl
    have hn : news = [] := List.eq_nil_of_length_eq_zero (by simpa using hl)
    subst hn
    have hrun : (Builtin.append_ #[t, t] o.type #[.slice (some ⟨g, 0, none⟩) n cap, .slice none 0 c]).run P w = .ok (.slice (some ⟨g, 0, none⟩) n cap) w := by
      simp [Builtin.append_, run_underlying ht, sizeOf, typeInfo, hi, Builtin.lenOf, Builtin.firstCells, show n ≤ cap by omega, storeCells]
    unfold Oper.wp execOp
    simp only [ho, resolve, invoke, builtin, Sem.run_bind, Sem.run_pure, Result.andThen_ok, List.map_toArray, List.map_cons, List.map_nil, hs, hx, hrun]
    refine h w ?_ (World.grownBy.refl w _) rfl
    rw [hg]
    simp
  | some ad =>
    have hcells : ∀ j u, news[j]? = some u → w.cell? (ad.add j) = some u := by
      intro j u hu
      obtain ⟨b, off, e1, hc⟩ := hr j u hu
      injection e1 with e1
      rw [e1, addr_add]
      exact hc
    have hrun := run_append_room (P := P) w t o.type e i ht hi g n cap cur hg ad m c news (by rw [h2]; exact hl) hcells h1 hroom (by rw [h2, hl]; exact hfit)
    unfold Oper.wp execOp
    simp only [ho, resolve, invoke, builtin, Sem.run_bind, Sem.run_pure, Result.andThen_ok, List.map_toArray, List.map_cons, List.map_nil, hs, hx, hrun]
    refine h _ ?_ ⟨rfl, rfl, rfl, by simp, fun k _ hk => setRow_other w g k _ (fun e => hk (by rw [e]))⟩ (by simp)
    rw [setRow_heap w g cur _ e _ hg, h2, hl]

def zeroDeed : List Value := [.int .i64 0, .int .i64 0, .int .i64 0, .int .i64 0, .int .i64 0, .int .i64 0, .int .i64 0, .bool false]
def markDeed : List Value := [.int .i64 0, .int .i64 0, .int .i64 77, .int .i64 0, .int .i64 0, .int .i64 0, .int .i64 0, .bool false]
theorem made_drop (c : Nat) : (madeCells zeroDeed.toArray ((c + 1) * 8)).toList.drop (c * 8) = zeroDeed := by
  have h : List.drop (c * 8) (List.range ((c + 1) * 8)) = (List.range 8).map (c * 8 + ·) := by
    apply List.ext_getElem?
    intro j
    rw [List.getElem?_drop, List.getElem?_map]
    by_cases hj : j < 8
    · rw [List.getElem?_range (by omega), List.getElem?_range hj]
      rfl
    · rw [List.getElem?_eq_none (by simp; omega), List.getElem?_eq_none (by simp; omega)]
      rfl
  simp only [madeCells, Array.toList_map, Array.toList_range, ← List.map_drop, h, List.map_map]
  have e : ∀ k, k < 8 → (zeroDeed.toArray[(c * 8 + k) % zeroDeed.toArray.size]!) = zeroDeed.toArray[k]! := by
    intro k hk
    have : (c * 8 + k) % zeroDeed.toArray.size = k := by
      show (c * 8 + k) % 8 = k
      omega
    rw [this]
  have e2 : (List.range 8).map ((fun x => zeroDeed.toArray[x % zeroDeed.toArray.size]!) ∘ fun x => c * 8 + x) = (List.range 8).map fun k => zeroDeed.toArray[k]! :=
    List.map_congr_left fun k hk => e k (by simpa using hk)
  rw [e2]
  rfl
theorem make_deeds (c : Nat) (hc : c ≤ 200) : ∃ Z : Array Value, Z.size = (c + 1) * 8 ∧ Z.toList.drop (c * 8) = zeroDeed ∧ ∀ w : World, (Instr.makeSlice 23 (.int .i64 0) (.int .i64 ((c : Int) + 1))).run Try.prog w = .ok (.slice (some ⟨w.heap.size, 0, none⟩) 0 (c + 1)) (w.alloc (.cells Z 27)) := by
  refine ⟨madeCells zeroDeed.toArray ((c + 1) * 8), size_madeCells _ _, made_drop c, fun w => ?_⟩
  have := make_cap (.agg zeroDeed.toArray) elemDeed (by kernel_rfl) (c + 1) (by omega) (by omega) w
  rw [show (((c + 1 : Nat)) : Int) = (c : Int) + 1 by omega] at this
  exact this

theorem neqDeed (d : Deed) (w : World) : (binOp .neq 27 (.agg #[.int .i64 d.begin_, .int .i64 d.end_, .int .i64 d.kind, .int .i64 d.a, .int .i64 d.b, .int .i64 d.c, .int .i64 d.n, .bool d.ok]) (.agg #[.int .i64 d.begin_, .int .i64 d.end_, .int .i64 d.kind, .int .i64 d.a, .int .i64 d.b, .int .i64 d.c, .int .i64 d.n, .bool d.ok])).run Try.prog w = .ok (.bool false) w := by
  have h1 : Try.prog.stoodInHeld 27 = false := by kernel_rfl
  have hu := Try.underlying27
  go_simp
theorem guard27 : Try.prog.eqGuardType Try.prog.depth 27 = false := by kernel_rfl

/-- what has been lent. -/
def LendRel (first : List Int) (l : List Deed) (w1 : World) (a b : Value) (w2 : World) : Prop :=
  ∃ g h, a = .slice (some ⟨g, 0, none⟩) first.length (first.length + 3) ∧ b = .slice (some ⟨h, 0, none⟩) l.length (l.length + 1) ∧ w2.heap[g]? = some (.cells (nums (first ++ rooms)).toArray 3 (0, 0)) ∧
    w2.heap[h]? = some (.cells (deedCells l ++ zeroDeed).toArray 27 (0, 0)) ∧ w1.heap.size ≤ g ∧ w1.heap.size ≤ h ∧ Below w1.heap.size w1 w2
theorem heap_below {w w2 : World} (hb : Below w.heap.size w w2) {k : Nat} {o : Obj} (h : w.heap[k]? = some o) : w2.heap[k]? = some o := (hb.block _ (Array.getElem?_eq_some_iff.1 h).1).trans h
theorem lend_kept {w w2 : World} {h g : Nat} {c c' : Array Value} (hg : w.grownBy w2 (some h)) (hh : w.heap[h]? = some (.cells c 27 (0, 0))) (hl : w.heap[g]? = some (.cells c' 3 (0, 0))) : w2.heap[g]? = some (.cells c' 3 (0, 0)) := by
  refine (hg.block _ (Array.getElem?_eq_some_iff.1 hl).1 (fun e => ?_)).trans hl
  injection e with e
  rw [e, hh] at hl
  injection hl with hl
  injection hl with _ hl
  cases hl
theorem mark_set (l : List Deed) : (deedCells l ++ zeroDeed).toArray.setIfInBounds (l.length * 8 + 2) (.int .i64 77) = (deedCells l ++ markDeed).toArray := by
  apply Array.toList_inj.1
  have := deedCells_length l
  simp only [List.setIfInBounds_toArray, List.set_append, this, if_neg (show ¬ (l.length * 8 + 2 < l.length * 8) by omega), show l.length * 8 + 2 - l.length * 8 = 2 by omega]
  rfl
theorem mark_get (l : List Deed) (k : Nat) (x : List Value) : (deedCells l ++ x)[l.length * 8 + k]? = x[k]? := by
  have := deedCells_length l
  rw [List.getElem?_append_right (by omega), show l.length * 8 + k - (deedCells l).length = k by omega]
theorem row_prefix {w : World} {g : Nat} {xs ys : List Value} {t : TypeId} {fr : Nat × Nat} (h : w.heap[g]? = some (.cells (xs ++ ys).toArray t fr)) : Row w (some ⟨g, 0, none⟩) xs := by
  intro j u hu
  refine ⟨g, 0, rfl, ?_⟩
  rw [Nat.zero_add, cell_of_row _ _ _ _ _ _ h]
  have hj := (List.getElem?_eq_some_iff.1 hu).1
  simp only [List.getElem?_toArray]
  rw [List.getElem?_append_left hj]
  exact hu
/-- the order that is answered; nothing, where there is none. -/
def ansL (first : List Int) (l : List Deed) : List Int := ((orderAns first l).getD []).map fun (i : Nat) => (i : Int)
theorem OrderPost.own {first : List Int} {l : List Deed} {w w' : World} {e : Ending} (h : OrderPost first l w e w') : Below w.heap.size w w' ∧ ∃ A c, e = .returned (.tuple #[.slice A (ansL first l).length c, .bool (orderAns first l).isSome, .int .i64 (orderErr first l)]) ∧
    w'.ownsRow w.heap.size 3 1 (.slice A (ansL first l).length c) (ansL first l).length (nums (ansL first l)) := by
  obtain ⟨hb, r, b, rfl, h⟩ := h
  refine ⟨hb, ?_⟩
  unfold ansL
  rcases h with ⟨h1, rfl, rfl⟩ | ⟨t, h1, rfl, ho⟩
  · exact ⟨none, 0, by rw [h1]; rfl, by rw [h1]; exact World.ownsRow_nil _ _ _ _⟩
  · obtain ⟨A, c, rfl, _, _⟩ := row_of_own ho
    rw [h1]
    simp only [Option.getD_some, Option.isSome_some, List.length_map]
    rw [ints_nums] at ho
    exact ⟨A, c, rfl, ho⟩
theorem ansL_short (first : List Int) (l : List Deed) : (ansL first l).length ≤ 64 := by
  unfold ansL
  rw [List.length_map]
  cases h : orderAns first l with
  | none => simp
  | some t =>
    have hE : orderErr first l = 0 := by
      by_cases h0 : orderErr first l = 0
      · exact h0
      · rw [orderAns_err rfl h0] at h
        cases h
    have h1 := fits_short (l := l) _ _ _ (by simp) (order_fits hE h)
    have h2 := List.count_le_length (a := false) (l := List.replicate l.length false)
    have h3 := (right_a hE).1
    simp only [List.length_map, List.length_replicate] at h1 h2
    show t.length ≤ 64
    omega
end Go.Proofs.Ytpnegacfanbcfaa
