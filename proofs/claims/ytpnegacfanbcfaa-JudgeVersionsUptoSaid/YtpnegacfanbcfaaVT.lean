/- The document's judge of versions: the blames of one event are sorted where they lie. -/
import Derived.Test.YtpnegacfanbcfaaLess
import Derived.Test.YtpnegacfanbcfaaHist
import Derived.Deep.MidRow
import Derived.BigRegion
import Derived.Laws.CopyRow
import Derived.Deep.RegionLaw
import Derived.Deep.DeepCutAuto
namespace Go.Proofs.Ytpnegacfanbcfaa
open Go.RowKit Go.Maps

/-- the history's block and its blames in a block of their own. -/
structure OutIs (B X : Nat) (p lv tv : Value) (g c L : Nat) (M : List Blm) (w : World) : Prop where
  hX : B ≤ X
  x : w.heap[X]? = some (.cells #[p, lv, tv, .slice (some ⟨g, 0, none⟩) L c] 88 (0, 0))
  len : M.length = L
  o : w.ownsRow B 55 3 (.slice (some ⟨g, 0, none⟩) L c) L (blCells M)
theorem blCells_set {M : List Blm} {j : Nat} {y : Blm} (b : Blm) (h : M[j]? = some y) : blCells (M.set j b) = (blCells M).take (j * 3) ++ b.cells ++ (blCells M).drop (j * 3 + 3) := by
  induction M generalizing j with
  | nil => simp at h
  | cons m M ih =>
    cases j with
    | zero => simp [blCells, Blm.cells]
    | succ j =>
      have := ih (j := j) (by simpa using h)
      have e1 : (j + 1) * 3 = j * 3 + 3 := by omega
      have e2 : blCells (m :: M) = m.cells ++ blCells M := rfl
      have e3 : m.cells.length = 3 := rfl
      have e4 : blCells (m :: M.set j b) = m.cells ++ blCells (M.set j b) := rfl
      have e5 : (m.cells ++ blCells M).take (j * 3 + 3) = m.cells ++ (blCells M).take (j * 3) := by rw [List.take_append, e3, List.take_of_length_le (by rw [e3]; omega), Nat.add_sub_cancel]
      have e6 : (m.cells ++ blCells M).drop (j * 3 + 3 + 3) = (blCells M).drop (j * 3 + 3) := by rw [List.drop_append, e3, List.drop_eq_nil_of_le (by rw [e3]; omega), Nat.add_sub_cancel]; rfl
      rw [List.set_cons_succ, e4, this, e2, e1, e5, e6]
      simp only [List.append_assoc]
theorem take_mid {α : Type} (l b : List α) (j n : Nat) (h1 : j + b.length ≤ n) (h2 : n ≤ l.length) : (l.take j ++ b ++ l.drop (j + b.length)).take n = (l.take n).take j ++ b ++ (l.take n).drop (j + b.length) := by
  have e1 : (l.take j ++ b).length = j + b.length := by rw [List.length_append, List.length_take]; omega
  rw [List.take_append, e1, List.take_of_length_le (by omega), List.take_take, Nat.min_eq_left (by omega), List.drop_take]
section
variable {B X : Nat} {p lv tv : Value} {g c L : Nat} {M : List Blm} {w : World}
theorem OutIs.cell (h : OutIs B X p lv tv g c L M w) {j t : Nat} {b : Blm} (hj : M[j]? = some b) (ht : t < 3) : w.cell? ⟨g, j * 3 + t, none⟩ = b.cells[t]? := by
  have hb := blCells_get M j t b hj ht
  have h3 : t < b.cells.length := ht
  rw [List.getElem?_eq_getElem h3] at hb ⊢
  have := h.o.cells (g := g) rfl _ _ hb
  rwa [addr_add, Nat.zero_add] at this
theorem OutIs.below {w' : World} (h : OutIs B X p lv tv g c L M w) (hb : Below w.heap.size w w') : OutIs B X p lv tv g c L M w' :=
  ⟨h.hX, (hb.block _ (Array.getElem?_eq_some_iff.1 h.x).1).trans h.x, h.len, own_below h.o hb⟩
theorem OutIs.lt (h : OutIs B X p lv tv g c L M w) : X < w.heap.size := (Array.getElem?_eq_some_iff.1 h.x).1
theorem OutIs.load (h : OutIs B X p lv tv g c L M w) {j : Nat} {b : Blm} (hj : M[j]? = some b) : (loadCellsFrom ⟨g, j * 3, none⟩ 0 3 #[]).run Try.prog w = .ok #[.int .i64 b.at_, .int .i64 b.wit, .int .i64 b.why] w := by
  have hr : Row w (some ⟨g, 0, none⟩) (blCells M) := fun k u hu => ⟨g, 0, rfl, by have := h.o.cells (g := g) rfl k u hu; rwa [addr_add] at this⟩
  obtain ⟨b', off, h1, h2⟩ := load_elem Blm.cells 3 (fun _ => rfl) (by decide) hr hj
  simp only [Option.some.injEq, Addr.mk.injEq, and_true] at h1
  obtain ⟨rfl, rfl⟩ := h1
  rw [Nat.zero_add] at h2
  exact h2
theorem OutIs.ne (h : OutIs B X p lv tv g c L M w) : X ≠ g := fun e => by
  obtain ⟨cs, hc⟩ := own_block_cells h.o (g := g) rfl
  rw [← e, h.x] at hc
  injection hc with hc
  injection hc with _ hc
  cases hc
theorem OutIs.store (h : OutIs B X p lv tv g c L M w) {j : Nat} {y : Blm} (b : Blm) (hj : M[j]? = some y) :
    ∃ w2, (storeCells ⟨g, j * 3, none⟩ b.cells 0).run Try.prog w = .ok () w2 ∧ OutIs B X p lv tv g c L (M.set j b) w2 ∧ Keeps B X w w2 := by
  have hne := h.ne
  obtain ⟨hl, hf⟩ := h.o
  rcases hf with ⟨e, _⟩ | ⟨g', cap, cur, e, hB, hg, hnc, hcm, hs, ht⟩
  · cases e
  · injection e with e1 _ e2
    injection e1 with e1
    injection e1 with e1
    subst e1 e2
    have hjl : j < L := by rw [← h.len]; exact (List.getElem?_eq_some_iff.1 hj).1
    have hlen : j * 3 + 0 + b.cells.length ≤ cur.size := by
      rw [hs]
      show j * 3 + 0 + 3 ≤ c * 3
      omega
    have hst := run_storeCells_at (P := Try.prog) g (j * 3) 55 b.cells 0 cur w hg hlen (fun v hv => by simp [Blm.cells] at hv; rcases hv with rfl | rfl | rfl <;> rfl)
    have hgl := (Array.getElem?_eq_some_iff.1 hg).1
    refine ⟨_, hst, ⟨h.hX, ?_, by rw [List.length_set]; exact h.len, by rw [blCells_length, List.length_set, h.len], .inr ⟨g, c, _, rfl, hB, setRow_heap w g cur _ 55 _ hg, hnc, hcm, ?_, ?_⟩⟩, ?_, ?_⟩
    · rw [setRow_other w g X _ hne]
      exact h.x
    · rw [List.size_toArray, List.length_append, List.length_append, List.length_take, List.length_drop, Array.length_toList]
      omega
    · have e3 : b.cells.length = 3 := rfl
      rw [blCells_set b hj, ← ht]
      have := take_mid cur.toList b.cells (j * 3) (L * 3) (by rw [e3]; omega) (by rw [Array.length_toList, hs]; omega)
      simpa [e3] using this
    · exact ⟨rfl, rfl, rfl, by rw [setRow_size]; exact Nat.le_refl _, fun k hk => setRow_other w g k _ (by omega)⟩
    · intro k hk hkX hn
      exact setRow_other w g k _ (fun e => hn cur (by rw [e]; exact hg))
end

def SortPost (B X : Nat) (p lv tv ov : Value) (outs : List Blm) (w : World) (e : Ending) (w' : World) : Prop :=
  e = .returned (.tuple #[]) ∧ Keeps B X w w' ∧ w'.heap[X]? = some (.cells #[p, lv, tv, ov] 88 (0, 0)) ∧ w'.ownsRow B 55 3 ov outs.length (blCells outs)
/-- the outer round. -/
def SwRel (B X : Nat) (p lv tv : Value) (g c L : Nat) (pre chunk : List Blm) (w : World) (k : Nat) (i : Value) (wr : World) : Prop :=
  ∃ s rest M, SrtSt pre chunk s rest M ∧ s ≠ [] ∧ k = rest.length ∧ i = .int .i64 ((pre.length + s.length : Nat) : Int) ∧ OutIs B X p lv tv g c L M wr ∧ Keeps B X w wr
/-- the inner round. -/
def InnRel (B X : Nat) (p lv tv : Value) (g c L : Nat) (pre chunk rest : List Blm) (x : Blm) (m : Nat) (w : World) (k : Nat) (i : Value) (wr : World) : Prop :=
  ∃ s t M, InsSt pre chunk rest s t x M ∧ s.length + t.length = m ∧ k = s.length ∧ i = .int .i64 ((pre.length + s.length : Nat) : Int) ∧ OutIs B X p lv tv g c L M wr ∧ Keeps B X w wr

theorem snoc_cases {α : Type} (l : List α) : l = [] ∨ ∃ s y, l = s ++ [y] := by
  rcases List.eq_nil_or_concat l with h | ⟨s, y, h⟩
  · exact .inl h
  · exact .inr ⟨s, y, by rw [h, List.concat_eq_append]⟩

attribute [-go_sem] loadCellsFrom storeCells
set_option maxRecDepth 100000 in
set_option maxHeartbeats 4000000 in
theorem refSort (B X : Nat) (p lv tv ov : Value) (pre chunk : List Blm) (a0 : Int) (w : World) (hX : B ≤ X) (hx : w.heap[X]? = some (.cells #[p, lv, tv, ov] 88 (0, 0))) (ho : w.ownsRow B 55 3 ov (pre ++ chunk).length (blCells (pre ++ chunk)))
    (ha : ∀ z ∈ chunk, z.at_ = a0) (hn : (pre ++ chunk).length ≤ 3000000) (hBw : B ≤ w.heap.size) :
    Calls Try.prog 37 #[.pointer (some ⟨X, 0, none⟩), .int .i64 (pre.length : Nat)] w (SortPost B X p lv tv ov (pre ++ sortB chunk) w) := by
  obtain ⟨F, hF⟩ : ∃ F, F = pre.length := ⟨_, rfl⟩
  obtain ⟨L, hL⟩ : ∃ L, L = (pre ++ chunk).length := ⟨_, rfl⟩
  cases chunk with
  | nil =>
    obtain ⟨oA, oc, rfl, _, _⟩ := row_of_own ho
    have c3 : w.cell? ⟨X, 3, none⟩ = some (.slice oA L oc) := by rw [hL]; exact cell_of_row _ _ _ _ _ _ hx
    have hlt : ¬ ((F : Int) + 1 < L) := by rw [hF, hL]; simp; omega
    have hF3 : F ≤ 3000000 := by rw [hF]; simp at hn; omega
    have HX := Lib.hid hx; have HO := Lib.hid ho; have HL := Lib.hid hL
    rw [← hF]
    clear hx ho hn ha hF hX hL hBw
    go_enter Try.func37, Try.ntmps37
    go_wp2_with fail
    go_loopg [4] 0 (fun k i wr => k = 0 ∧ i = .int .i64 ((F : Int) + 1) ∧ wr = w)
    case atStart => exact ⟨rfl, by go_num, rfl⟩
    case round =>
      obtain ⟨rfl, rfl, hwr⟩ := hrel
      subst hwr
      go_wp2_with fail
      go_end0
      exact ⟨rfl, Keeps.refl _, by simpa using HX.out, by simpa [sortB] using HO.out⟩
  | cons x0 l0 =>
    obtain ⟨g, c, rfl, _, _⟩ := ho.form (by rw [List.length_append, List.length_cons]; omega)
    have ho1 : OutIs B X p lv tv g c L (pre ++ x0 :: l0) w := ⟨hX, by rw [hL]; exact hx, hL.symm, by rw [hL]; exact ho⟩
    have hF3 : F < L := by rw [hF, hL]; simp
    have hL3 : L ≤ 3000000 := by rw [hL]; exact hn
    have HO := Lib.hid ho1; have HA := Lib.hid ha; have HL := Lib.hid hL; have HF := Lib.hid hF; have HBW := Lib.hid hBw
    rw [← hF, ← hL]
    clear hx ho hn ha hF hX hL hBw ho1
    go_enter Try.func37, Try.ntmps37
    go_wp2_with fail
    go_loopg [4] l0.length (fun k i wr => SwRel B X p lv tv g c L pre (x0 :: l0) w k i wr)
    case atStart => exact ⟨[x0], l0, _, SrtSt.start x0 l0, by simp, rfl, by rw [HF.out]; go_num, HO.out, Keeps.refl _⟩
    case round =>
      obtain ⟨s, rest, M, hs, hne, rfl, rfl, hoi, hkp⟩ := hrel
      obtain ⟨wo, rfl⟩ : ∃ wo : World, wo = wr := ⟨_, rfl⟩
      have c3 : wo.cell? ⟨X, 3, none⟩ = some (.slice (some ⟨g, 0, none⟩) L c) := cell_of_row _ _ _ _ _ _ hoi.x
      obtain ⟨q, hq⟩ : ∃ q, q = pre.length + s.length := ⟨_, rfl⟩
      have hlen := hs.len
      rw [hoi.len, ← hq] at hlen
      have HS := Lib.hid hs; have HOI := Lib.hid hoi; have HKP := Lib.hid hkp; have HQ := Lib.hid hq; have HNE := Lib.hid hne
      rw [← hq]
      clear hs hoi hkp hq hne
      cases rest with
      | nil =>
        have hge : ¬ ((q : Int) < L) := by simp at hlen; omega
        have HLEN := Lib.hid hlen
        clear hlen
        go_wp2_with fail
        go_end0
        have := HS.out.done
        refine ⟨rfl, HKP.out, ?_, ?_⟩
        · exact HOI.out.x
        · have h1 := HOI.out.o
          have h2 := HOI.out.len
          rw [this] at h1 h2
          rw [h2]
          rw [HL.out] at h1 ⊢
          exact h1
      | cons x rest =>
        have hlt : (q : Int) < L := by simp at hlen; omega
        have HLEN := Lib.hid hlen
        clear hlen
        go_wp2_with fail
        go_loopg [5] s.length (fun k i wr => InnRel B X p lv tv g c L pre (x0 :: l0) rest x s.length wo k i wr)
        case atStart => exact ⟨s, [], M, HS.out.next, by simp, rfl, by rw [HQ.out], HOI.out, Keeps.refl _⟩
        case round =>
          obtain ⟨s2, t2, M2, hin, hm, rfl, rfl, hoi2, hk2⟩ := hrel
          rcases snoc_cases s2 with rfl | ⟨s3, y, rfl⟩
          · have e0 : ((pre.length + ([] : List Blm).length : Nat) : Int) = F := by rw [HF.out]; simp
            rw [e0]
            have HIN := Lib.hid hin; have HOI2 := Lib.hid hoi2; have HK2 := Lib.hid hk2; have HM := Lib.hid hm
            have d3 : wr.cell? ⟨X, 3, none⟩ = some (.slice (some ⟨g, 0, none⟩) L c) := cell_of_row _ _ _ _ _ _ hoi2.x
            clear hin hoi2 hk2 hm c3 e0
            go_wp2_with fail
            go_quiet (fail)
            go_wp2_with fail
            go_roundg rest.length
            case measure => simp
            case rel => exact ⟨x :: t2, rest, M2, HIN.out.put_nil, by simp, rfl, by have := HQ.out; have := HM.out; rw [HQ.out, ← HM.out]; simp; omega, HOI2.out.below (below_drewN (Below.refl _ _) _), HKP.out.trans (HK2.out.trans (Keeps.of_below (below_drewN (Below.refl _ _) _) (Nat.le_trans HOI2.out.hX (Nat.le_of_lt HOI2.out.lt))))⟩
          · obtain ⟨q2, hq2⟩ : ∃ q2, q2 = pre.length + s3.length := ⟨_, rfl⟩
            have e1 : ((pre.length + (s3 ++ [y]).length : Nat) : Int) = (q2 : Int) + 1 := by rw [hq2]; simp; omega
            rw [e1]
            have hfr : (F : Int) < (q2 : Int) + 1 := by rw [hq2, ← HF.out]; omega
            obtain ⟨gy, gx, gset⟩ := hin.gets
            rw [← hq2] at gy gx gset
            have hql : (q2 : Int) + 1 < L := by have := (List.getElem?_eq_some_iff.1 gx).1; rw [hoi2.len] at this; omega
            have d3 : wr.cell? ⟨X, 3, none⟩ = some (.slice (some ⟨g, 0, none⟩) L c) := cell_of_row _ _ _ _ _ _ hoi2.x
            have y1 : wr.cell? ⟨g, q2 * 3 + 1, none⟩ = some (.int .i64 y.wit) := hoi2.cell gy (by decide)
            have y2 : wr.cell? ⟨g, q2 * 3 + 2, none⟩ = some (.int .i64 y.why) := hoi2.cell gy (by decide)
            have x1 : wr.cell? ⟨g, (q2 + 1) * 3 + 1, none⟩ = some (.int .i64 x.wit) := hoi2.cell gx (by decide)
            have x2 : wr.cell? ⟨g, (q2 + 1) * 3 + 2, none⟩ = some (.int .i64 x.why) := hoi2.cell gx (by decide)
            have hq3 : q2 ≤ 3000000 := by omega
            have hq5 : (q2 : Int) < L := by omega
            have hq6 : ((q2 : Int) + 1).toNat = q2 + 1 := by omega
            have hq4 : IntKind.i64.wrap (q2 : Int) = (q2 : Int) := IntWalk.i64_in _ (by omega)
            have HIN := Lib.hid hin; have HOI2 := Lib.hid hoi2; have HK2 := Lib.hid hk2; have HM := Lib.hid hm; have HQ2 := Lib.hid hq2; have HGX := Lib.hid gx; have HGY := Lib.hid gy; have HGS := Lib.hid gset
            clear hin hoi2 hk2 hm c3 e1 hq2 gx gy gset
            by_cases hup : upB y x = true
            · have h3 : decide (x.wit < y.wit) = true ∨ (decide (x.wit < y.wit) = false ∧ (y.wit == x.wit) = true ∧ decide (x.why < y.why) = true) := by
                simp [upB] at hup ⊢
                omega
              have HUP := Lib.hid hup
              clear hup
              rcases h3 with h3 | ⟨h3, h4, h5⟩
              all_goals
                go_wp2_with fail
                go_quiet (fail)
                have hoV := HOI2.out.below (below_drewN (Below.refl wr.heap.size wr) nq)
                have hkV : Keeps B X wr (wr.drewN nq) := Keeps.of_below (below_drewN (Below.refl _ _) _) (Nat.le_trans HOI2.out.hX (Nat.le_of_lt HOI2.out.lt))
                obtain ⟨V, hV⟩ : ∃ V, V = wr.drewN nq := ⟨_, rfl⟩
                rw [← hV] at hoV hkV ⊢
                have HV := Lib.hid hV
                have hoD := hoV.below ((Below.refl V.heap.size V).drew)
                have v3 : V.drew.cell? ⟨X, 3, none⟩ = some (.slice (some ⟨g, 0, none⟩) L c) := cell_of_row _ _ _ _ _ _ hoD.x
                have l1 := hoD.load HGX.out
                have l2 := hoD.load HGY.out
                obtain ⟨w2, st1, ho2, hk2⟩ := hoD.store x HGY.out
                obtain ⟨w3, st2, ho3, hk3⟩ := ho2.store (j := q2 + 1) (y := x) y (by rw [List.getElem?_set_ne (by omega)]; exact HGX.out)
                have HOV := Lib.hid hoV; have HKV := Lib.hid hkV; have HOD := Lib.hid hoD; have HO2 := Lib.hid ho2; have HK2' := Lib.hid hk2; have HO3 := Lib.hid ho3; have HK3 := Lib.hid hk3
                unfold Blm.cells at st1 st2
                clear hV hoV hkV hoD ho2 hk2 ho3 hk3 d3 y1 y2 x1 x2 h3
                try clear h4 h5
                go_wp2_with fail
                go_region
                go_wp2_with fail
                go_roundg s3.length
                case measure => simp
                case rel =>
                  have ho3 := HO3.out
                  rw [HGS.out] at ho3
                  have hm := HM.out
                  rw [List.length_append, List.length_singleton] at hm
                  exact ⟨s3, y :: t2, _, HIN.out.down HA.out HUP.out, by rw [List.length_cons]; omega, rfl, by rw [HQ2.out], ho3, HK2.out.trans (HKV.out.trans ((Keeps.of_below (Below.refl V.heap.size V).drew (Nat.le_trans HOV.out.hX (Nat.le_of_lt HOV.out.lt))).trans (HK2'.out.trans HK3.out)))⟩
            · have hup' : upB y x = false := by simpa using hup
              have h3 : decide (x.wit < y.wit) = false ∧ ((y.wit == x.wit) = false ∨ ((y.wit == x.wit) = true ∧ decide (x.why < y.why) = false)) := by
                simp [upB] at hup' ⊢
                omega
              have HUP := Lib.hid hup'
              clear hup hup'
              obtain ⟨h3, h4 | ⟨h4, h5⟩⟩ := h3
              all_goals
                go_wp2_with fail
                go_quiet (fail)
                go_wp2_with fail
                go_roundg rest.length
                case measure => simp
                case rel =>
                  have hm := HM.out
                  rw [List.length_append, List.length_singleton] at hm
                  exact ⟨_, rest, M2, HIN.out.put HA.out HUP.out, by simp, rfl, by rw [HQ.out]; simp; omega, HOI2.out.below (below_drewN (Below.refl _ _) _), HKP.out.trans (HK2.out.trans (Keeps.of_below (below_drewN (Below.refl _ _) _) (Nat.le_trans HOI2.out.hX (Nat.le_of_lt HOI2.out.lt))))⟩
end Go.Proofs.Ytpnegacfanbcfaa
