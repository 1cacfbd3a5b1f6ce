/- samePairs: contract. Lists are at most 4000000 long. -/
import Derived.Test.YtpnegacfanbcfaaSame
import Derived.Test.YtpnegacfanbcfaaVC
import Derived.Laws.CopyRow
namespace Go.Proofs.Ytpnegacfanbcfaa
open Go.RowKit Go.Maps

abbrev pCells (p : Int × Int) : List Value := [.int .i64 p.1, .int .i64 p.2]
theorem neqPair (x0 x1 y0 y1 : Int) (w : World) : (binOp .neq 58 (.agg #[.int .i64 x0, .int .i64 x1]) (.agg #[.int .i64 y0, .int .i64 y1])).run Try.prog w = .ok (.bool (!(x0 == y0 && x1 == y1))) w := by
  have h1 : Try.prog.stoodInHeld 58 = false := by kernel_rfl
  have hu := Try.underlying58
  go_simp
  by_cases e0 : x0 = y0 <;> by_cases e1 : x1 = y1 <;> simp [e0, e1]
theorem guard58 : Try.prog.eqGuardType Try.prog.depth 58 = false := by kernel_rfl
attribute [-go_sem] loadCellsFrom
attribute [-go_sem] run_neq_struct
set_option maxRecDepth 20000 in
theorem samePairs (a b : List (Int × Int)) (A B : Option Addr) (ac bc : Nat) (w : World) (hl : a.length ≤ 4000000) (_hl2 : b.length ≤ 4000000) (ha : Row w A (pairCells a)) (hb : Row w B (pairCells b)) :
    Calls Try.prog 47 #[.slice A a.length ac, .slice B b.length bc] w fun e w' => e = .returned (.bool (decide (a = b))) ∧ ∃ n, w' = w.drewN n := by
  have HA := Lib.hid ha; have HB := Lib.hid hb
  clear ha hb
  by_cases hlen : a.length = b.length
  · have HLEN := Lib.hid hlen
    have hq : ((a.length : Int) != (b.length : Int)) = false := by simp [hlen]
    clear hlen
    go_enter Try.func47, Try.ntmps47
    go_wp2_with fail
    go_loopg [5] a.length (fun k i wr => SmRel a b w k i wr)
    case atStart => exact ⟨0, Nat.zero_le _, rfl, rfl, by simp, 0, rfl⟩
    case round =>
      obtain ⟨j, hj, rfl, rfl, htk, n, rfl⟩ := hrel
      have HTK := Lib.hid htk
      clear htk hq
      by_cases hlt : j < a.length
      · have hltb : j < b.length := by rw [← HLEN.out]; exact hlt
        obtain ⟨x, hx⟩ : ∃ x, a[j]? = some x := ⟨_, List.getElem?_eq_getElem hlt⟩
        obtain ⟨y, hy⟩ : ∃ y, b[j]? = some y := ⟨_, List.getElem?_eq_getElem hltb⟩
        obtain ⟨ab, aoff, hAe, hla⟩ := load_elem pCells 2 (fun _ => rfl) (by decide) (l := a) HA.out hx
        subst hAe
        obtain ⟨bb, boff, hBe, hlb⟩ := load_elem pCells 2 (fun _ => rfl) (by decide) (l := b) HB.out hy
        subst hBe
        have hla' : ∀ m, (loadCellsFrom ⟨ab, aoff + j * 2, none⟩ 0 2 #[]).run Try.prog (w.drewN m) = .ok #[.int .i64 x.1, .int .i64 x.2] (w.drewN m) := fun m => (load_at (w := w.drewN m) pCells 2 (fun _ => rfl) (by decide) (HA.out) hx).trans rfl
        have hlb' : ∀ m, (loadCellsFrom ⟨bb, boff + j * 2, none⟩ 0 2 #[]).run Try.prog (w.drewN m) = .ok #[.int .i64 y.1, .int .i64 y.2] (w.drewN m) := fun m => (load_at (w := w.drewN m) pCells 2 (fun _ => rfl) (by decide) (HB.out) hy).trans rfl
        clear hla hlb
        have HX := Lib.hid hx; have HY := Lib.hid hy
        clear hx hy
        have hl' : (j : Int) < a.length := by omega
        have hl2' : (j : Int) < b.length := by omega
        by_cases hxy : x = y
        · have hq5 : ∀ V, (binOp .neq 58 (.agg #[.int .i64 x.1, .int .i64 x.2]) (.agg #[.int .i64 y.1, .int .i64 y.2])).run Try.prog V = .ok (.bool false) V := fun V => by rw [neqPair, hxy]; simp
          have hg5 := guard58
          have HXY := Lib.hid hxy
          clear hxy
          go_wp2_with fail
          go_quiet (fail)
          go_wp2_with fail
          go_roundg (a.length - (j + 1))
          case measure => omega
          case rel => exact ⟨j + 1, by omega, by go_num, rfl, take_eq_succ HTK.out HX.out (by rw [HY.out, HXY.out]), _, rfl⟩
        · have hq5 : ∀ V, (binOp .neq 58 (.agg #[.int .i64 x.1, .int .i64 x.2]) (.agg #[.int .i64 y.1, .int .i64 y.2])).run Try.prog V = .ok (.bool true) V := fun V => by
            rw [neqPair]
            have : (x.1 == y.1 && x.2 == y.2) = false := by
              rw [Bool.eq_false_iff]
              intro h
              simp only [Bool.and_eq_true, beq_iff_eq] at h
              apply hxy
              cases x
              cases y
              simp_all
            rw [this]
            rfl
          have hg5 := guard58
          have HXY := Lib.hid hxy
          clear hxy
          go_wp2_with fail
          go_quiet (fail)
          go_wp2_with fail
          go_ret
          refine ⟨ret_bool ?_, n + nq, World.drewN_drewN _ _ _⟩
          symm
          rw [decide_eq_false_iff_not]
          intro e
          have h1 := HX.out
          rw [e, HY.out] at h1
          injection h1 with h1
          exact HXY.out h1.symm
      · have HJ : Hid (a = b) := by
          have := HTK.out
          rw [List.take_of_length_le (by omega), List.take_of_length_le (by have := HLEN.out; omega)] at this
          exact this
        go_wp2_with fail
        go_ret
        exact ⟨ret_bool (by rw [decide_eq_true HJ.out]), _, rfl⟩
  · have hq : ((a.length : Int) != (b.length : Int)) = true := by
      have : ¬ (a.length : Int) = b.length := by omega
      simp [this]
    have HLEN := Lib.hid hlen
    clear hlen
    go_enter Try.func47, Try.ntmps47
    go_wp2_with fail
    go_ret
    refine ⟨ret_bool ?_, 0, rfl⟩
    symm
    rw [decide_eq_false_iff_not]
    intro e
    exact HLEN.out (by rw [e])
end Go.Proofs.Ytpnegacfanbcfaa

/- A list of pairs that is lent (lentPairs). Lists are at most 1048576 long. -/
namespace Go.Proofs.Ytpnegacfanbcfaa
open Go.RowKit Go.Maps

theorem make_cap {t e size bytes : Nat} (z : Value) (E : ElemOk Try.prog t e size bytes) (hz : (Try.prog.info? e).bind (fun i => i.zero) = some z) (c : Nat) (hc : c * size ≤ 16777216) (hb : bytes * c ≤ 281474976710656) (w : World) :
    (Instr.makeSlice t (.int .i64 0) (.int .i64 (c : Int))).run Try.prog w = .ok (.slice (some ⟨w.heap.size, 0, none⟩) 0 c) (w.alloc (.cells (madeCells z.cells (c * size)) e)) := by
  obtain ⟨ht, hs, i, z', hi, hz', h2, h3, h4⟩ := E
  have hzz : z' = z := by
    rw [hi] at hz
    simp only [Option.bind_some] at hz
    rw [hz'] at hz
    injection hz
  subst hzz
  have hcb : (bytes : Int) * c ≤ 281474976710656 := by
    have h : ((bytes * c : Nat) : Int) ≤ 281474976710656 := by omega
    rwa [Int.natCast_mul] at h
  have := run_makeSlice (P := Try.prog) (w := w) t e i z' ht hi hz' .i64 .i64 0 (c : Int) (by omega) (by omega) (by rw [h2]; simpa using hc) (by rw [h3]; exact hcb) (by
    rcases Nat.eq_zero_or_pos size with h | h
    · omega
    · have := Nat.le_mul_of_pos_right c h
      omega)
  rw [h2] at this
  simpa using this
theorem wpList_make_is {P : Program} {w : World} {ops : Array Oper} {rest : List Oper} {o : Oper} {a : Act} {Q : Exit → Act → World → Prop} (hg : o.guard = none) (l c : Operand) (t : TypeId) (hop : o.op = Op.makeSlice t l c) {vl vc : Value} (hl : a.eval l = vl) (hc : a.eval c = vc) {v : Value} {w' : World}
    (hrun : (Instr.makeSlice t vl vc).run P w = .ok v w') (h : wpList P ops Q rest (a.put o.dst v) w') : wpList P ops Q (o :: rest) a w := by
  refine wpList_plain hg fun K hK => ?_
  unfold Oper.wp
  simp [execOp, hop, hl, hc, hrun, Result.andThen]
  exact hK _ _ h
theorem wpList_append_room_is {P : Program} {t e size bytes : Nat} {w : World} {ops : Array Oper} {rest : List Oper} {o : Oper} {a : Act} {Q : Exit → Act → World → Prop} (hgd : o.guard = none) (s x : Operand)
    (ho : o.op = .call { callee := .builtin .append, args := #[s, x], argTypes := #[t, t] }) (E : ElemOk P t e size bytes) {g n cap : Nat} {cur : Array Value} (hs : a.eval s = .slice (some ⟨g, 0, none⟩) n cap) (hg : w.heap[g]? = some (.cells cur e (0, 0)))
    (A : Option Addr) (m c : Nat) (news : List Value) (hx : a.eval x = .slice A m c) (hr : Row w A news) (hl : news.length = m * size) (h1 : ∀ u ∈ news, u.oneCell' = true) (hroom : n + m ≤ cap) (hfit : n * size + m * size ≤ cur.size) (hA : A = none → m = 0)
    (h : ∀ w', w'.heap[g]? = some (.cells (cur.toList.take (n * size) ++ news ++ cur.toList.drop (n * size + m * size)).toArray e (0, 0)) → w.grownBy w' (some g) → w'.heap.size = w.heap.size → wpList P ops Q rest (a.put o.dst (.slice (some ⟨g, 0, none⟩) (n + m) cap)) w') :
    wpList P ops Q (o :: rest) a w := by
  refine wpList_plain hgd fun K hK => ?_
  obtain ⟨ht, hsz, i, z, hi, hz, h2, h3, h4⟩ := E
  cases A with
  | none =>
    obtain rfl := hA rfl
    have hn : news = [] := List.eq_nil_of_length_eq_zero (by simpa using hl)
    subst hn
    have hrun : (Builtin.append_ #[t, t] o.type #[.slice (some ⟨g, 0, none⟩) n cap, .slice none 0 c]).run P w = .ok (.slice (some ⟨g, 0, none⟩) n cap) w := by
      simp [Builtin.append_, run_underlying ht, sizeOf, typeInfo, hi, Builtin.lenOf, Builtin.firstCells, show n ≤ cap by omega, storeCells]
    unfold Oper.wp execOp
    simp only [ho, resolve, invoke, builtin, Sem.run_bind, Sem.run_pure, Result.andThen_ok, List.map_toArray, List.map_cons, List.map_nil, hs, hx, hrun]
    refine hK _ _ (h w ?_ (World.grownBy.refl w _) rfl)
    rw [hg]
    simp
  | some ad =>
    have hcells : ∀ j u, news[j]? = some u → w.cell? (ad.add j) = some u := by
      intro j u hu
      obtain ⟨b, off, e1, hc⟩ := hr j u hu
      injection e1 with e1
      rw [e1, addr_add]
      exact hc
    have hrun := run_append_room (P := P) w t o.type e i ht hi g n cap cur hg ad m c news (by rw [h2]; exact hl) hcells h1 hroom (by rw [h2, hl]; exact hfit)
    unfold Oper.wp execOp
    simp only [ho, resolve, invoke, builtin, Sem.run_bind, Sem.run_pure, Result.andThen_ok, List.map_toArray, List.map_cons, List.map_nil, hs, hx, hrun]
    refine hK _ _ (h _ ?_ ⟨rfl, rfl, rfl, by simp, fun k _ hk => setRow_other w g k _ (fun e => hk (by rw [e]))⟩ (by simp))
    rw [setRow_heap w g cur _ e _ hg, h2, hl]
theorem row_prefix {w : World} {g : Nat} {xs ys : List Value} {t : TypeId} {fr : Nat × Nat} (h : w.heap[g]? = some (.cells (xs ++ ys).toArray t fr)) : Row w (some ⟨g, 0, none⟩) xs := by
  intro j u hu
  refine ⟨g, 0, rfl, ?_⟩
  rw [Nat.zero_add, cell_of_row _ _ _ _ _ _ h]
  have hj := (List.getElem?_eq_some_iff.1 hu).1
  simp only [List.getElem?_toArray]
  rw [List.getElem?_append_left hj]
  exact hu
def rooms2 : List (Int × Int) := [(-4000, 0), (-4001, 0)]
theorem flat_set {α β : Type} (g : α → List β) (s : Nat) (hg : ∀ x, (g x).length = s) (b : α) : ∀ {M : List α} {j : Nat}, j < M.length → (M.set j b).flatMap g = (M.flatMap g).take (j * s) ++ g b ++ (M.flatMap g).drop (j * s + s) := by
  intro M
  induction M with
  | nil => intro j h; simp at h
  | cons m M ih =>
    intro j h
    have e3 := hg m
    cases j with
    | zero =>
      rw [List.set_cons_zero, List.flatMap_cons, List.flatMap_cons, Nat.zero_mul, List.take_zero, List.nil_append, Nat.zero_add, List.drop_append, e3, List.drop_eq_nil_of_le (by omega), Nat.sub_self]
      rfl
    | succ j =>
      have := ih (j := j) (by simpa using h)
      have e1 : (j + 1) * s = j * s + s := by rw [Nat.add_mul, Nat.one_mul]
      have e5 : (g m ++ M.flatMap g).take (j * s + s) = g m ++ (M.flatMap g).take (j * s) := by rw [List.take_append, e3, List.take_of_length_le (by rw [e3]; omega), Nat.add_sub_cancel]
      have e6 : (g m ++ M.flatMap g).drop (j * s + s + s) = (M.flatMap g).drop (j * s + s) := by rw [List.drop_append, e3, List.drop_eq_nil_of_le (by rw [e3]; omega), Nat.add_sub_cancel]; rfl
      rw [List.set_cons_succ, List.flatMap_cons, this, List.flatMap_cons, e1, e5, e6]
      simp only [List.append_assoc]
theorem pairCells_len (l : List (Int × Int)) : (pairCells l).length = l.length * 2 := by
  induction l with
  | nil => rfl
  | cons p l ih =>
    show ([Value.int .i64 p.1, Value.int .i64 p.2] ++ pairCells l).length = _
    rw [List.length_append, ih]
    simp
    omega
theorem pairCells_app (a b : List (Int × Int)) : pairCells (a ++ b) = pairCells a ++ pairCells b := by simp [pairCells]
theorem pairCells_one (l : List (Int × Int)) : ∀ u ∈ pairCells l, u.oneCell' = true := by
  intro u hu
  obtain ⟨p, _, hp⟩ := List.mem_flatMap.1 hu
  simp only [List.mem_cons, List.not_mem_nil, or_false] at hp
  rcases hp with rfl | rfl <;> rfl
theorem pair_zeros (c : Nat) : pairCells (List.replicate c (0, 0)) = List.replicate (c * 2) (.int .i64 0) := by
  induction c with
  | zero => rfl
  | succ c ih =>
    rw [List.replicate_succ, show (c + 1) * 2 = c * 2 + 1 + 1 by omega, List.replicate_succ, List.replicate_succ, ← ih]
    rfl
theorem madePairs (c : Nat) : (madeCells #[Value.int .i64 0, .int .i64 0] (c * 2)).toList = pairCells (List.replicate c (0, 0)) := by
  rw [pair_zeros]
  simp only [madeCells, Array.toList_map, Array.toList_range]
  apply List.ext_getElem?
  intro j
  by_cases hj : j < c * 2
  · have : j % 2 = 0 ∨ j % 2 = 1 := by omega
    rcases this with h | h <;> simp [hj, h]
  · simp [hj]
theorem store_pair {w : World} {g j : Nat} {M : List (Int × Int)} (b : Int × Int) (hg : w.heap[g]? = some (.cells (pairCells M).toArray 58 (0, 0))) (hj : j < M.length) :
    ∃ w2, (storeCells ⟨g, j * 2, none⟩ [.int .i64 b.1, .int .i64 b.2] 0).run Try.prog w = .ok () w2 ∧ w2.heap[g]? = some (.cells (pairCells (M.set j b)).toArray 58 (0, 0)) ∧ Below g w w2 := by
  have hst := run_storeCells_at (P := Try.prog) g (j * 2) 58 [.int .i64 b.1, .int .i64 b.2] 0 _ w hg (by simp [pairCells_len]; omega) (fun v hv => by simp at hv; rcases hv with rfl | rfl <;> rfl)
  refine ⟨_, hst, ?_, ⟨rfl, rfl, rfl, by rw [setRow_size]; exact Nat.le_refl _, fun k hk => setRow_other w g k _ (by omega)⟩⟩
  rw [setRow_heap w g _ _ 58 _ hg]
  have := flat_set pCells 2 (fun _ => rfl) b hj
  unfold pairCells
  rw [this]
  rfl
theorem lentPairs_start (s : List (Int × Int)) (xs : List Value) : List.take (0 * 2) xs ++ pairCells s ++ List.drop (0 * 2 + s.length * 2) (pairCells (List.replicate (s.length + 2) (0, 0))) = pairCells (s ++ [(0, 0), (0, 0)]) := by
  rw [pairCells_app, pair_zeros, List.drop_replicate, show (s.length + 2) * 2 - (0 * 2 + s.length * 2) = 4 by omega]
  simp
  rfl

attribute [-go_sem] loadCellsFrom storeCells
set_option maxRecDepth 100000 in
set_option maxHeartbeats 1000000 in
theorem lentPairs_walk (s : List (Int × Int)) (sA : Option Addr) (sc : Nat) (w : World) (hn : s.length ≤ 1048576) (hr : Row w sA (pairCells s)) (h0 : sA = none → s.length = 0) :
    Calls Try.prog 17 #[.slice sA s.length sc] w fun e w' => ∃ g, e = .returned (.slice (some ⟨g, 0, none⟩) s.length (s.length + 2)) ∧ w'.heap[g]? = some (.cells (pairCells (s ++ rooms2)).toArray 58 (0, 0)) ∧ w.heap.size ≤ g ∧ Below w.heap.size w w' := by
  have HR := Lib.hid hr; have H0 := Lib.hid h0
  have hmk := fun w => make_cap (.agg #[.int .i64 0, .int .i64 0]) elemPair (by kernel_rfl) (s.length + 2) (by omega) (by omega) w
  have hmk' : ∀ w, (Instr.makeSlice 41 (.int .i64 0) (.int .i64 ((s.length : Int) + 2))).run Try.prog w = .ok (.slice (some ⟨w.heap.size, 0, none⟩) 0 (s.length + 2)) (w.alloc (.cells (madeCells (Value.agg #[.int .i64 0, .int .i64 0]).cells ((s.length + 2) * 2)) 58)) := by
    intro w
    have := hmk w
    rwa [show (((s.length + 2 : Nat)) : Int) = (s.length : Int) + 2 by omega] at this
  have hzc : (Value.agg #[.int .i64 0, .int .i64 0]).cells = #[.int .i64 0, .int .i64 0] := rfl
  rw [hzc] at hmk'
  clear hr h0 hmk hzc
  go_enter Try.func17, Try.ntmps17
  go_wp2_with (first
    | (at_make; refine wpList_make_is rfl (.const (.int .i64 0)) (.tmp 7) 41 rfl rfl rfl (hmk' _) ?_)
    | (at_builtin; refine wpList_append_room_is rfl (.tmp 8) (.tmp 9) rfl elemPair rfl (heap_alloc_new _ _) sA s.length sc (pairCells s) rfl (HR.out.below ((Below.refl _ _).alloc (Nat.le_refl _) _)) (pairCells_len s) (pairCells_one s) (by omega) (by rw [size_madeCells]; omega) H0.out ?_
       intro w1 hg1 hgr1 hsz1
       obtain ⟨g, hg⟩ : ∃ g, g = w.heap.size := ⟨_, rfl⟩
       have hbl : Below w.heap.size w w1 := ((Below.refl _ _).alloc (Nat.le_refl _) _).grown hgr1 (by simp) (fun k hk => by injection hk with hk; omega)
       rw [madePairs, lentPairs_start] at hg1
       rw [← hg] at hg1 ⊢
       obtain ⟨w2, st1, hg2, hb2⟩ := store_pair (j := s.length) (-4000, 0) hg1 (by simp)
       obtain ⟨w3, st2, hg3, hb3⟩ := store_pair (j := s.length + 1) (-4001, 0) hg2 (by simp)
       rw [show (s.length + 1) * 2 = s.length * 2 + 2 by omega] at st2
       have HG3 := Lib.hid hg3; have HBL := Lib.hid (hbl.trans ((hb2.trans hb3).mono (Nat.le_of_eq hg.symm))); have HG := Lib.hid hg
       clear hg1 hgr1 hsz1 hbl hg hmk' hg2 hb2 hg3 hb3))
  go_ret
  refine ⟨g, rfl, ?_, Nat.le_of_eq HG.out.symm, HBL.out⟩
  have := HG3.out
  rw [this]
  congr 4
  rw [List.set_append_right _ _ (Nat.le_refl _), List.set_append_right _ _ (by omega)]
  simp [rooms2]
end Go.Proofs.Ytpnegacfanbcfaa

/- A lent list of pairs stays (stayPairs). -/
namespace Go.Proofs.Ytpnegacfanbcfaa
open Go.RowKit Go.Maps

theorem eqPair (x0 x1 y0 y1 : Int) (w : World) : (binOp .eql 58 (.agg #[.int .i64 x0, .int .i64 x1]) (.agg #[.int .i64 y0, .int .i64 y1])).run Try.prog w = .ok (.bool (x0 == y0 && x1 == y1)) w := by
  have h1 : Try.prog.stoodInHeld 58 = false := by kernel_rfl
  have hu := Try.underlying58
  go_simp
  by_cases e0 : x0 = y0 <;> by_cases e1 : x1 = y1 <;> simp [e0, e1]
theorem load_pair {w : World} {g j : Nat} {M : List (Int × Int)} {p : Int × Int} (hg : w.heap[g]? = some (.cells (pairCells M).toArray 58 (0, 0))) (hj : M[j]? = some p) : (loadCellsFrom ⟨g, j * 2, none⟩ 0 2 #[]).run Try.prog w = .ok #[.int .i64 p.1, .int .i64 p.2] w := by
  have hr : Row w (some ⟨g, 0, none⟩) (M.flatMap pCells) := fun k u hu => ⟨g, 0, rfl, by
    rw [cell_of_row _ _ _ _ _ _ hg, Nat.zero_add]
    rw [List.getElem?_toArray]
    exact hu⟩
  have := load_at pCells 2 (fun _ => rfl) (by decide) hr hj
  rwa [Nat.zero_add] at this
attribute [-go_sem] loadCellsFrom
attribute [-go_sem] run_neq_struct run_eql_struct
set_option maxRecDepth 100000 in
set_option maxHeartbeats 1000000 in
theorem stayPairs_walk (s : List (Int × Int)) (sA : Option Addr) (sc g : Nat) (w : World) (hn : s.length ≤ 1048576) (hr : Row w sA (pairCells s)) (hg : w.heap[g]? = some (.cells (pairCells (s ++ rooms2)).toArray 58 (0, 0))) :
    Calls Try.prog 23 #[.slice (some ⟨g, 0, none⟩) s.length (s.length + 2), .slice sA s.length sc] w fun e w' => e = .returned (.bool true) ∧ Below w.heap.size w w' := by
  have HR := Lib.hid hr; have HG := Lib.hid hg
  have t1 : decide (((s.length + 2 : Nat) : Int) < (s.length : Int) + 2) = false := by simp
  clear hr hg
  go_enter Try.func23, Try.ntmps23
  go_wp2_with fail
  go_loopg [5] s.length (fun k i wr => ∃ j : Nat, j ≤ s.length ∧ i = .int .i64 (j : Int) ∧ k = s.length - j ∧ Below w.heap.size w wr)
  case atStart => exact ⟨0, Nat.zero_le _, rfl, rfl, Below.refl _ _⟩
  case round =>
    obtain ⟨j, hj, rfl, rfl, hbw⟩ := hrel
    obtain ⟨wo, hwo⟩ : ∃ wo : World, wo = wr := ⟨_, rfl⟩
    subst hwo
    have HBW := Lib.hid hbw
    have hg2 : wo.heap[g]? = some (.cells (pairCells (s ++ rooms2)).toArray 58 (0, 0)) := (hbw.block _ (Array.getElem?_eq_some_iff.1 HG.out).1).trans HG.out
    have hg5 := guard58
    by_cases hlt : j < s.length
    · obtain ⟨x, hx⟩ : ∃ x, s[j]? = some x := ⟨_, List.getElem?_eq_getElem hlt⟩
      have c0 : ∀ m, (loadCellsFrom ⟨g, j * 2, none⟩ 0 2 #[]).run Try.prog (wo.drewN m) = .ok #[.int .i64 x.1, .int .i64 x.2] (wo.drewN m) := fun m => load_pair (w := wo.drewN m) hg2 (j := j) (p := x) (by rw [List.getElem?_append_left hlt]; exact hx)
      obtain ⟨b, off, hA, c1⟩ := load_elem pCells 2 (fun _ => rfl) (by decide) (l := s) (HR.out.below hbw) hx
      subst hA
      have c1' : ∀ m, (loadCellsFrom ⟨b, off + j * 2, none⟩ 0 2 #[]).run Try.prog (wo.drewN m) = .ok #[.int .i64 x.1, .int .i64 x.2] (wo.drewN m) := fun m => load_at (w := wo.drewN m) pCells 2 (fun _ => rfl) (by decide) ((HR.out.below hbw : Row wo (some ⟨b, off, none⟩) (pairCells s))) hx
      have hq5 : ∀ V, (binOp .neq 58 (.agg #[.int .i64 x.1, .int .i64 x.2]) (.agg #[.int .i64 x.1, .int .i64 x.2])).run Try.prog V = .ok (.bool false) V := fun V => by rw [neqPair]; simp
      clear hg2 hbw hx c1
      go_wp2_with fail
      go_quiet (fail)
      go_wp2_with fail
      go_roundg (s.length - (j + 1))
      case measure => omega
      case rel => exact ⟨j + 1, by omega, by go_num, rfl, below_drewN HBW.out _⟩
    · have c0 := load_pair hg2 (j := s.length) (p := (-4000, 0)) (by simp [rooms2])
      have c1 := load_pair hg2 (j := s.length + 1) (p := (-4001, 0)) (by simp [rooms2])
      rw [show (s.length + 1) * 2 = s.length * 2 + 2 by omega] at c1
      have e3 : s.length + 2 - s.length = 2 := by omega
      have q0 : ∀ V, (binOp .eql 58 (.agg #[.int .i64 (-4000), .int .i64 0]) (.agg #[.int .i64 (-4000), .int .i64 0])).run Try.prog V = .ok (.bool true) V := fun V => by rw [eqPair]; rfl
      have q1 : ∀ V, (binOp .eql 58 (.agg #[.int .i64 (-4001), .int .i64 0]) (.agg #[.int .i64 (-4001), .int .i64 0])).run Try.prog V = .ok (.bool true) V := fun V => by rw [eqPair]; rfl
      clear hg2 hbw
      go_wp2_with fail
      go_ret
      exact ⟨rfl, HBW.out⟩
end Go.Proofs.Ytpnegacfanbcfaa
