/- A pool's Slots. Conditions: the pool lies in memory. -/
import Derived.Test.YteeefedoffplmaaGreatCollect2
import Derived.Deep.RegionHeld3
namespace Go.Proofs.YteeefedoffplmaaGreat
open Go.RowKit

def SlotS.api (s : SlotS) : List Value := [.int .i64 s.gen, .int .i64 s.node.a, .int .i64 s.node.b, .int .i64 s.node.c, .int .i64 s.node.d, .int .i64 s.mark, .int .i64 s.link]
def apis (l : List SlotS) : List Value := l.flatMap SlotS.api
theorem apis_snoc (l : List SlotS) (s : SlotS) : apis (l ++ [s]) = apis l ++ s.api := by simp [apis]
theorem apis_length (l : List SlotS) : (apis l).length = l.length * 7 := flatMap_len _ 7 (fun _ => rfl) l
theorem api_one (s : SlotS) : ∀ u ∈ s.api, u.oneCell' = true := by
  intro u hu
  simp only [SlotS.api, List.mem_cons, List.not_mem_nil, or_false] at hu
  rcases hu with rfl | rfl | rfl | rfl | rfl | rfl | rfl <;> rfl
theorem elemSlot : ElemOk Tryz.prog 135 220 7 56 := elemOk_of (by kernel_rfl) (by decide) (.agg #[.int .i64 0, .int .i64 0, .int .i64 0, .int .i64 0, .int .i64 0, .int .i64 0, .int .i64 0]) (by kernel_rfl) rfl
theorem size_alloc_le (w : World) (o : Obj) : w.heap.size ≤ (w.alloc o).heap.size := by simp
theorem holds_agg (b o : Nat) (x0 x1 x2 x3 : Int) (w : World) (h0 : w.cell? ⟨b, o + 3, none⟩ = some (.int .i64 x0)) (h1 : w.cell? ⟨b, o + 4, none⟩ = some (.int .i64 x1)) (h2 : w.cell? ⟨b, o + 5, none⟩ = some (.int .i64 x2)) (h3 : w.cell? ⟨b, o + 6, none⟩ = some (.int .i64 x3)) :
    Calls Tryz.prog 172 #[.pointer (some ⟨b, o, none⟩)] w fun e w' => e = .returned (.agg #[.int .i64 x0, .int .i64 x1, .int .i64 x2, .int .i64 x3]) ∧ Below w.heap.size w w' := holds_any b o ⟨x0, x1, x2, x3⟩ w h0 h1 h2 h3
theorem below_undrew {w w1 : World} (h : Below w.drew.heap.size w.drew w1) : Below w.heap.size w w1 := ⟨h.os, h.tape, h.output, h.size, h.block⟩
/-- a list of slots that a call makes anew. -/
def NewSlots (l : List SlotS) (w : World) (e : Ending) (w' : World) : Prop := ∃ v, e = .returned v ∧ w'.ownsRow w.heap.size 220 7 v l.length (apis l) ∧ Only [] w w'
def SlRel (S : PoolS) (w : World) (k : Nat) (out i : Value) (wr : World) : Prop :=
  ∃ j : Nat, j + 1 ≤ S.slots.length ∧ i = .int .i64 ((j : Int) + 1) ∧ k = S.slots.length - j ∧ wr.ownsRow w.heap.size 220 7 out j (apis ((S.slots.drop 1).take j)) ∧ Only [] w wr
set_option maxRecDepth 100000 in
set_option maxHeartbeats 1600000 in
theorem slots_any (w : World) (L : PoolL) (S : PoolS) (hp : PoolAt w L S) (h1 : 1 ≤ S.slots.length) : Calls Tryz.prog 104 #[ptr L.pb] w (NewSlots (S.slots.drop 1) w) := by
  have HP := Lib.hid hp
  have c0 : w.cell? ⟨L.pb, 0, none⟩ = some (sliceOf L.lb S.slots.length) := hp.p.cell rfl
  have hm := hp.most
  unfold ptr
  unfold sliceOf at c0
  clear hp
  go_enter Tryz.func104, Tryz.ntmps104
  go_wp2_with fail
  go_loopg [3, 4] S.slots.length (fun k out i wr => SlRel S w k out i wr)
  case atStart => exact ⟨0, by omega, rfl, rfl, World.ownsRow_nil _ _ 220 7, Only.refl _ _⟩
  case round =>
    obtain ⟨j, hj, rfl, rfl, hown, ho⟩ := hrel
    have HO := Lib.hid ho
    have HW := Lib.hid hown
    have hpr := HP.out.only HO.out (by simp)
    have c0 : wr.cell? ⟨L.pb, 0, none⟩ = some (sliceOf L.lb S.slots.length) := hpr.p.cell rfl
    unfold sliceOf at c0
    have HPR := Lib.hid hpr
    clear ho hown hpr
    by_cases hlt : j + 1 < S.slots.length
    · have hlt' : (j : Int) + 1 < S.slots.length := by omega
      obtain ⟨s, hs⟩ : ∃ s, S.slots[j + 1]? = some s := ⟨_, List.getElem?_eq_getElem hlt⟩
      have g0 := HPR.out.slot hs (j := 0) (by omega) rfl
      have g1 := HPR.out.slot hs (j := 1) (by omega) rfl
      have g2 := HPR.out.slot hs (j := 2) (by omega) rfl
      have g3 := HPR.out.slot hs (j := 3) (by omega) rfl
      have g4 := HPR.out.slot hs (j := 4) (by omega) rfl
      have g5 := HPR.out.slot hs (j := 5) (by omega) rfl
      have g6 := HPR.out.slot hs (j := 6) (by omega) rfl
      rw [Nat.add_zero] at g0
      have HSS := Lib.hid hs
      have hne : some L.lb ≠ u3.ownBlock := fun e => by
        have h1 := (HW.out.lt _ e.symm).1
        have h2 := HP.out.l.lt
        omega
      have HNE := Lib.hid hne
      have HM1 : Hid (j + 1 ≤ maxLen) := Lib.hid (by unfold maxLen; omega)
      have HM2 : Hid ((j + 1) * 56 ≤ 140737488355328) := Lib.hid (by omega)
      clear hne
      clear hs
      obtain ⟨sg, sm, sl, ⟨sa, sb, sc, sd⟩⟩ := s
      go_wp2_with fail
      go_region_held3 (fun W => W.cell? ⟨L.lb, (j + 1) * 7, none⟩ = some (.int .i64 sg) ∧ W.cell? ⟨L.lb, (j + 1) * 7 + 1, none⟩ = some (.int .i64 sm) ∧ W.cell? ⟨L.lb, (j + 1) * 7 + 2, none⟩ = some (.int .i64 sl) ∧ W.cell? ⟨L.lb, (j + 1) * 7 + 3, none⟩ = some (.int .i64 sa) ∧ W.cell? ⟨L.lb, (j + 1) * 7 + 4, none⟩ = some (.int .i64 sb) ∧ W.cell? ⟨L.lb, (j + 1) * 7 + 5, none⟩ = some (.int .i64 sc) ∧ W.cell? ⟨L.lb, (j + 1) * 7 + 6, none⟩ = some (.int .i64 sd))
        (first | go_keep | (refine ⟨cell_below hb1 ?_, cell_below hb1 ?_, cell_below hb1 ?_, cell_below hb1 ?_, cell_below hb1 ?_, cell_below hb1 ?_, cell_below hb1 ?_⟩ <;> assumption) | (refine ⟨hg2.cell (cell_alloc ?_ _) HNE.out, hg2.cell (cell_alloc ?_ _) HNE.out, hg2.cell (cell_alloc ?_ _) HNE.out, hg2.cell (cell_alloc ?_ _) HNE.out, hg2.cell (cell_alloc ?_ _) HNE.out, hg2.cell (cell_alloc ?_ _) HNE.out, hg2.cell (cell_alloc ?_ _) HNE.out⟩ <;> assumption))
        (first | (go_simp; go_at_call 51; go_split_ands; refine (atomLoad _ _ _ _ (by assumption)).mono ?_; rintro e w' ⟨rfl, rfl⟩) | (go_simp; go_at_call 172; go_split_ands; refine (holds_agg _ _ sa sb sc sd _ (by assumption) (by assumption) (by assumption) (by assumption)).mono ?_; rintro e w1 ⟨rfl, hb1⟩; have HB1 := Lib.hid hb1; have HBS := Lib.hid (show w.heap.size ≤ w1.heap.size from Nat.le_trans HO.out.size hb1.size)) | (refine step_append_is rfl (.tmp 21) (.tmp 37) rfl elemSlot rfl ((own_below HW.out (below_undrew HB1.out)).alloc _) _ 1 _ (SlotS.api ⟨sg, sm, sl, ⟨sa, sb, sc, sd⟩⟩) rfl (row_new _ _ _) rfl (api_one _) HM1.out HM2.out (Nat.le_trans HBS.out (size_alloc_le _ _)) (fun e => by cases e) ?_; intro v2 w2 hown2 hg2 hat2; have HW2 := Lib.hid hown2; have HG2 := Lib.hid hg2))
      have HO2 := Lib.hid ((((HO.out.trans (.of_below (below_undrew HB1.out))).alloc _).grown HG2.out (fun k hk => .inl (HW.out.lt k hk).1)))
      go_wp2_with fail
      go_roundg (S.slots.length - (j + 1))
      case measure => omega
      case rel => exact ⟨j + 1, by omega, by go_num, rfl, by rw [take_snoc (by rw [List.getElem?_drop, Nat.add_comm]; exact HSS.out), apis_snoc]; exact HW2.out, HO2.out⟩
    · have hjl : j + 1 = S.slots.length := by omega
      have HJ := Lib.hid hjl
      clear hjl
      go_wp2_with fail
      go_ret
      refine ⟨_, rfl, ?_, HO.out⟩
      have h0 : (S.slots.drop 1).length = j := by rw [List.length_drop]; have := HJ.out; omega
      have := HW.out
      rw [List.take_of_length_le (by rw [h0]; exact Nat.le_refl _)] at this
      rw [h0]
      exact this
end Go.Proofs.YteeefedoffplmaaGreat

/- Arrays of 65 words: the comparison of two of them. No condition. -/
namespace Go.Proofs.YteeefedoffplmaaGreat
open Go.RowKit

def eqArr (d : Nat) (elem : TypeId) (n : Nat) (xs ys : Array Value) : List Nat → Sem Bool
  | [] => pure true
  | i :: is => do
    let a ← part elem xs (i * n)
    let b ← part elem ys (i * n)
    let r ← Op.equalIn d elem a b
    if (!r) = true then pure false else eqArr d elem n xs ys is
theorem run_equalIn_array {P : Program} (w : World) (d : Nat) (t elem : TypeId) (len n : Nat) (xs ys : Array Value) (ht : P.underlying t = some (.array len elem)) (hs : ∀ w, (sizeOf elem).run P w = .ok n w) :
    (Op.equalIn (d + 1) t (.agg xs) (.agg ys)).run P w = (eqArr d elem n xs ys (List.range' 0 len)).run P w := by
  simp only [Op.equalIn, Sem.run_bind, run_underlying ht, Result.andThen_ok, hs]
  simp only [Std.Legacy.Range.forIn_eq_forIn_range', Std.Legacy.Range.size, Nat.sub_zero, Nat.add_one_sub_one, Nat.div_one]
  generalize List.range' 0 len 1 = is
  clear ht
  induction is generalizing w with
  | nil => simp [eqArr]
  | cons i is ih =>
    simp only [List.forIn_cons, eqArr, Sem.run_bind, Sem.run_ite]
    generalize (part elem xs (i * n)).run P w = r1
    cases r1 with
    | ok a w1 =>
      simp only [Result.andThen_ok]
      generalize (part elem ys (i * n)).run P w1 = r2
      cases r2 with
      | ok b w2 =>
        simp only [Result.andThen_ok]
        generalize (Op.equalIn d elem a b).run P w2 = r3
        cases r3 with
        | ok r w3 =>
          cases r
          · simp only [Result.andThen_ok, Bool.not_false, if_true, Sem.run_pure]
          · simp only [Result.andThen_ok, Bool.not_true, Bool.false_eq_true, if_false, Sem.run_pure]
            exact ih w3
        | halt x w3 => simp [Result.andThen]
      | halt x w2 => simp [Result.andThen]
    | halt x w1 => simp [Result.andThen]
def mets (l : List Nat) : Array Value := (l.map fun x : Nat => Value.int .u64 (x : Int)).toArray
theorem mets_size (l : List Nat) : (mets l).size = l.length := by simp [mets]
theorem mets_get {l : List Nat} {i x : Nat} (h : l[i]? = some x) : (mets l)[i]? = some (.int .u64 (x : Int)) := by simp [mets, h]
theorem isAgg285 (w : World) : (isAgg 285).run Tryz.prog w = .ok false w := by kernel_rfl
theorem size285 (w : World) : (sizeOf 285).run Tryz.prog w = .ok 1 w := by kernel_rfl
theorem part_met (l : List Nat) (i x : Nat) (h : l[i]? = some x) (w : World) : (part 285 (mets l) i).run Tryz.prog w = .ok (.int .u64 (x : Int)) w := by
  unfold part
  simp only [Sem.run_bind, isAgg285, Result.andThen_ok, mets_get h]
  rfl
theorem eq_mets (xs ys : List Nat) (hx : xs.length = 65) (hy : ys.length = 65) : ∀ (k s : Nat) (w : World), s + k = 65 → (eqArr 9999 285 1 (mets xs) (mets ys) (List.range' s k)).run Tryz.prog w = .ok (decide (xs.drop s = ys.drop s)) w
  | 0, s, w, h => by
    have h1 : xs.drop s = [] := List.drop_eq_nil_of_le (by omega)
    have h2 : ys.drop s = [] := List.drop_eq_nil_of_le (by omega)
    rw [h1, h2]
    rfl
  | k + 1, s, w, h => by
    obtain ⟨a, ha⟩ : ∃ a, xs[s]? = some a := ⟨_, List.getElem?_eq_getElem (by omega)⟩
    obtain ⟨b, hb⟩ : ∃ b, ys[s]? = some b := ⟨_, List.getElem?_eq_getElem (by omega)⟩
    have ih := eq_mets xs ys hx hy k (s + 1) w (by omega)
    have hu : Tryz.prog.underlying 285 = some (.int .u64) := by kernel_rfl
    rw [List.range'_succ, eqArr]
    simp only [Sem.run_bind, Nat.mul_one, part_met xs s a ha, part_met ys s b hb, Result.andThen_ok, run_equalIn_int w 9998 285 .u64 .u64 (a : Int) (b : Int) hu]
    obtain ⟨hsx, hax⟩ := List.getElem?_eq_some_iff.1 ha
    obtain ⟨hsy, hby⟩ := List.getElem?_eq_some_iff.1 hb
    rw [List.drop_eq_getElem_cons hsx, List.drop_eq_getElem_cons hsy, hax, hby]
    by_cases hab : a = b
    · subst hab
      simp [ih]
    · have h1 : ((a : Int) == (b : Int)) = false := by simp; omega
      simp [h1, hab]
theorem eq_met (xs ys : List Nat) (hx : xs.length = 65) (hy : ys.length = 65) (w : World) : (binOp .eql 287 (.agg (mets xs)) (.agg (mets ys))).run Tryz.prog w = .ok (.bool (decide (xs = ys))) w := by
  have hu : Tryz.prog.underlying 287 = some (.array 65 285) := by kernel_rfl
  rw [run_eql_struct, run_equalIn_array w 9999 287 285 65 1 _ _ hu size285, eq_mets xs ys hx hy 65 0 w rfl]
  simp [Result.andThen]
end Go.Proofs.YteeefedoffplmaaGreat
