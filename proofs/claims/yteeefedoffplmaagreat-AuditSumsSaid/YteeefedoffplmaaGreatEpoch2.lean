/- The epoch, for worker 0: Advance, At, Waiting. Conditions: the epoch lies in memory; worker 0 is not within. -/
import Derived.Test.YteeefedoffplmaaGreatEpoch
namespace Go.Proofs.YteeefedoffplmaaGreat
open Go.RowKit

theorem ints_zeros (j : Nat) : ints (List.replicate (j + 1) 0) = ints (List.replicate j 0) ++ [.int .i64 0] := by
  rw [List.replicate_succ', ints_snoc]
theorem ints_append (l r : List Int) : ints (l ++ r) = ints l ++ ints r := by simp [ints]
theorem at_cells (pb : Nat) (E : EpochS) (lv : Value) (h0 : E.at0 = 0) (k : Nat) (hk : k < 8) : (epochCells pb E lv)[3 + k]? = some (.int .i64 0) := by
  unfold epochCells
  rw [h0]
  obtain rfl | rfl | rfl | rfl | rfl | rfl | rfl | rfl : k = 0 ∨ k = 1 ∨ k = 2 ∨ k = 3 ∨ k = 4 ∨ k = 5 ∨ k = 6 ∨ k = 7 := by omega
  all_goals rfl
theorem advance1 (k : Int) (c : Nat) (w : World) : Calls Tryz.prog 134 #[.int .i64 k, .int .i64 0, ptr c] w fun e w' => e = .returned (.bool true) ∧ w = w' := by
  unfold ptr
  go_enter Tryz.func134, Tryz.ntmps134
  go_wp2
  go_ret
  exact ⟨rfl, rfl⟩
def OtRel (n : Nat) (k : Nat) (i : Value) (w wr : World) : Prop := ∃ j : Nat, j ≤ n ∧ i = .int .i64 j ∧ k = n - j ∧ w = wr
section
variable (w : World) (eb pb base : Nat) (ed : Option Nat) (E : EpochS) (h : EpochAt w eb pb base ed E)
include h
set_option maxRecDepth 100000 in
set_option maxHeartbeats 800000 in
theorem others_any (h0 : E.at0 = 0) (c : Nat) : Calls Tryz.prog 133 #[ptr eb, .pointer none, .func (.func 134) #[] #[ptr c]] w fun e w' => e = .returned (.bool true) ∧ w = w' := by
  obtain ⟨lv, hb, hown, he⟩ := h.ex
  obtain ⟨k1, k2⟩ := h.workers
  have c1 : w.cell? ⟨eb, 1, none⟩ = some (.int .i64 (E.workers : Int)) := hb.cell rfl
  have hl := fun k hk => atomLoad eb (3 + k) 0 w (hb.cell (at_cells pb E lv h0 k hk))
  have HL := Lib.hid hl
  have ha1 := fun k => advance1 k c w
  unfold ptr at ha1 ⊢
  have HA1 := Lib.hid ha1
  clear h hb hown hl h0 ha1
  generalize E.workers = n at *
  go_enter Tryz.func133, Tryz.ntmps133
  go_wp2_with fail
  go_loopg [12] n (fun k i wr => OtRel n k i w wr)
  case atStart => exact ⟨0, Nat.zero_le _, rfl, rfl, rfl⟩
  case round =>
    obtain ⟨j, hj, rfl, rfl, rfl⟩ := hrel
    by_cases hlt : j < n
    · have hlt' : (j : Int) < n := by omega
      have hj8 : (j : Int) < 8 := by omega
      have hlj := HL.out j (by omega)
      go_wp2_with (first | (go_at_call 71; refine (step_nil _).mono ?_; rintro e w' ⟨rfl, rfl⟩) | (go_at_call 51; refine hlj.mono ?_; rintro e w' ⟨rfl, rfl⟩) | (go_at_call 134; refine (HA1.out _).mono ?_; rintro e w' ⟨rfl, rfl⟩))
      go_roundg (n - (j + 1))
      case measure => omega
      case rel => exact ⟨j + 1, by omega, by go_num, rfl, rfl⟩
    · go_wp2_with fail
      go_ret
      exact ⟨rfl, rfl⟩
set_option maxRecDepth 100000 in
set_option maxHeartbeats 800000 in
theorem advance_any (h0 : E.at0 = 0) (hn : E.now + 1 ≤ 1099511627776) : Calls Tryz.prog 73 #[ptr eb, .pointer none] w (Epoched eb pb base [eb] ed { E with now := E.now + 1 } w (.bool true)) := by
  have hmine := mine_any w eb pb base ed E h
  have hal : ∀ o : Obj, EpochAt (w.alloc o) eb pb base ed E := fun o => h.only (X := []) ((Only.refl _ _).alloc o) (by simp) (by simp)
  have hoth := fun o => others_any (w.alloc o) eb pb base ed E (hal o) h0 w.heap.size
  obtain ⟨lv, hb, hown, he⟩ := h.ex
  obtain ⟨n1, n2⟩ := h.now
  have hl := atomLoad eb 2 E.now w (hb.cell rfl)
  have hba := (hb.alloc (.cells #[.int .i64 E.now] 2)).drew
  have hcas := atomCas eb 2 E.now _ (E.now + 1) (hba.cell rfl) (hba.frozen _)
  have hfin : EpochAt ((w.alloc (.cells #[.int .i64 E.now] 2)).drew.setCell ⟨eb, 2, none⟩ (.int .i64 (E.now + 1))) eb pb base ed { E with now := E.now + 1 } ∧ Only [eb] w ((w.alloc (.cells #[.int .i64 E.now] 2)).drew.setCell ⟨eb, 2, none⟩ (.int .i64 (E.now + 1))) := by
    have ho : Only [eb] w ((w.alloc (.cells #[.int .i64 E.now] 2)).drew.setCell ⟨eb, 2, none⟩ (.int .i64 (E.now + 1))) := (((Only.refl _ _).alloc _).drew').setCell (.inl (by simp)) _
    exact ⟨⟨⟨lv, hba.set 2 _, own_only hown ho (fun k hk => by have := ed_ge h k (he ▸ hk); have := h.lt; simp; omega), he⟩, h.lt, Nat.le_trans h.room ho.size, h.workers, ⟨by show 0 ≤ E.now + 1; omega, hn⟩, h.at0, h.deep, h.ok⟩, ho⟩
  have HF := Lib.hid hfin; have HCAS := Lib.hid hcas; have HOT := Lib.hid hoth
  have c9 := cell_new w #[.int .i64 E.now] 2 0 _ rfl
  unfold ptr at hmine HOT ⊢
  clear h hb hba hown hfin hcas hoth hal h0
  generalize E.now = now at *
  go_enter Tryz.func73, Tryz.ntmps73
  go_wp2_with (first | (go_at_call 132; refine hmine.mono ?_; rintro e w' ⟨rfl, rfl⟩) | (go_at_call 71; refine (step_nil _).mono ?_; rintro e w' ⟨rfl, rfl⟩) | (go_at_call 51; refine hl.mono ?_; rintro e w' ⟨rfl, rfl⟩) | (go_at_call 133; refine (HOT.out _).mono ?_; rintro e w' ⟨rfl, rfl⟩))
  refine wp_region_still_tail 6 (by kernel_rfl) (by kernel_rfl) ?_
  simp only [List.take_succ_cons, List.take_zero, List.drop_succ_cons, List.drop_zero]
  change wpStill _ _ (World.drew _) (fun a' => wpList _ _ _ _ a' (World.drew _)) _ _
  iterate 6 still_step
  refine wpStill_nil ?_
  go_wp2_with (go_at_call 135; refine HCAS.out.mono ?_; rintro e w' ⟨rfl, rfl⟩)
  go_ret
  exact ⟨rfl, HF.out⟩
def AtRel (n : Nat) (w : World) (k : Nat) (out i : Value) (wr : World) : Prop :=
  ∃ j : Nat, j ≤ n ∧ i = .int .i64 j ∧ k = n - j ∧ wr.ownsRow w.heap.size 3 1 out j (ints (List.replicate j 0)) ∧ Only [] w wr
set_option maxRecDepth 100000 in
set_option maxHeartbeats 800000 in
theorem at_all (h0 : E.at0 = 0) : Calls Tryz.prog 66 #[ptr eb] w (NewInts (List.replicate E.workers 0) w) := by
  obtain ⟨lv, hb, hown, he⟩ := h.ex
  obtain ⟨k1, k2⟩ := h.workers
  have c1 : w.cell? ⟨eb, 1, none⟩ = some (.int .i64 (E.workers : Int)) := hb.cell rfl
  have hl := fun wr (ho : Only [] w wr) k hk => atomLoad eb (3 + k) 0 wr ((hb.only ho (by simp)).cell (at_cells pb E lv h0 k hk))
  have HL := Lib.hid hl
  unfold ptr
  clear h hb hown hl h0
  generalize E.workers = n at *
  go_enter Tryz.func66, Tryz.ntmps66
  go_wp2_with fail
  go_loopg [3, 9] n (fun k out i wr => AtRel n w k out i wr)
  case atStart => exact ⟨0, Nat.zero_le _, rfl, rfl, World.ownsRow_nil _ _ 3 1, Only.refl _ _⟩
  case round =>
    obtain ⟨j, hj, rfl, rfl, hown, ho⟩ := hrel
    have HO := Lib.hid ho
    have HW := Lib.hid hown
    clear ho hown c1
    by_cases hlt : j < n
    · have hlt' : (j : Int) < n := by omega
      have hj8 : (j : Int) < 8 := by omega
      have hlj := HL.out wr HO.out j (by omega)
      go_wp2_with (first | (go_at_call 51; refine hlj.mono ?_; rintro e w' ⟨rfl, rfl⟩) | (at_builtin; refine wpList_append_is rfl (.tmp 12) (.tmp 19) rfl elemInt rfl (HW.out.alloc (.cells #[.int .i64 0] 3)) _ 1 _ [.int .i64 0] rfl (row_new _ _ _) rfl (by simp [Value.oneCell']) (by unfold maxLen; omega) (by omega) (by have := HO.out.size; simp; omega) (fun e => by cases e) ?_; intro v2 w2 hown2 hg2 hat2; have HW2 := Lib.hid hown2; have HO2 := Lib.hid ((HO.out.alloc _).grown hg2 (fun k hk => .inl (HW.out.lt k hk).1)); clear hown2 hg2 hat2))
      go_roundg (n - (j + 1))
      case measure => omega
      case rel => exact ⟨j + 1, by omega, by go_num, rfl, by rw [ints_zeros]; exact HW2.out, HO2.out⟩
    · have hjl : j = n := by omega
      have HJ := Lib.hid hjl
      clear hjl
      go_wp2_with fail
      go_ret
      refine ⟨_, rfl, ?_, HO.out⟩
      have := HW.out
      rw [HJ.out] at this
      rw [List.length_replicate]
      exact this
def WtRel (l : List (Int × Int)) (w : World) (k : Nat) (out i : Value) (wr : World) : Prop :=
  ∃ j : Nat, j ≤ l.length ∧ i = .int .i64 j ∧ k = l.length - j ∧ wr.ownsRow w.heap.size 3 1 out j (ints ((l.take j).map (·.1))) ∧ Only [] w wr
set_option maxRecDepth 100000 in
set_option maxHeartbeats 800000 in
theorem waiting0 (hlen : E.list.length ≤ 100000) : Calls Tryz.prog 67 #[ptr eb, .int .i64 0] w (NewInts (E.list.map (·.1)) w) := by
  obtain ⟨lv, hb, hown, he⟩ := h.ex
  obtain ⟨k1, k2⟩ := h.workers
  obtain ⟨A, c, hlv, hrow, hnil⟩ := row_of_own hown
  have c1 : w.cell? ⟨eb, 1, none⟩ = some (.int .i64 (E.workers : Int)) := hb.cell rfl
  have c12 : w.cell? ⟨eb, 12, none⟩ = some lv := hb.cell rfl
  rw [hlv] at c12
  have e1 : decide ((E.workers : Int) ≤ 0) = false := by simp; omega
  have HR := Lib.hid hrow
  unfold ptr
  clear h hb hown hlv hrow hnil
  generalize (E.workers : Int) = ws at *
  generalize E.list = l at *
  go_enter Tryz.func67, Tryz.ntmps67
  go_wp2_with fail
  go_loopg [5, 26] l.length (fun k out i wr => WtRel l w k out i wr)
  case atStart => exact ⟨0, Nat.zero_le _, rfl, rfl, World.ownsRow_nil _ _ 3 1, Only.refl _ _⟩
  case round =>
    obtain ⟨j, hj, rfl, rfl, hown, ho⟩ := hrel
    have HO := Lib.hid ho
    have HW := Lib.hid hown
    clear ho hown c1 c12
    by_cases hlt : j < l.length
    · have hlt' : (j : Int) < l.length := by omega
      obtain ⟨x, hx⟩ : ∃ x, l[j]? = some x := ⟨_, List.getElem?_eq_getElem hlt⟩
      have hg : ∀ i, i < 2 → (waitCells l)[j * 2 + i]? = [Value.int .i64 x.1, .int .i64 x.2][i]? := flatMap_get _ 2 (fun _ => rfl) l j x hx
      have hr2 : Row wr A (waitCells l) := HR.out.keep fun a v hc => cell_below HO.out.below hc
      obtain ⟨b, off, hA, h1⟩ := hr2 (j * 2 + 0) _ ((hg 0 (by omega)).trans rfl)
      obtain ⟨b', off', hA', h2⟩ := hr2 (j * 2 + 1) _ ((hg 1 (by omega)).trans rfl)
      subst hA
      simp only [Option.some.injEq, Addr.mk.injEq, and_true] at hA'
      obtain ⟨rfl, rfl⟩ := hA'
      have HX := Lib.hid hx
      clear hx hg hr2
      rw [Nat.add_zero] at h1
      rw [← Nat.add_assoc] at h2
      generalize hx1 : x.1 = x1 at *
      generalize x.2 = x2 at *
      have HX1 := Lib.hid hx1
      clear hx1
      have hrn := row_new (wr.alloc (.cells #[.int .i64 x1, .int .i64 x2] 229)) [.int .i64 x1] 3
      rw [World.size_alloc] at hrn
      have HRN := Lib.hid hrn
      clear hrn
      go_wp2_with (at_builtin; refine wpList_append_is rfl (.tmp 30) (.tmp 33) rfl elemInt rfl ((HW.out.alloc (.cells #[.int .i64 x1, .int .i64 x2] 229)).alloc (.cells #[.int .i64 x1] 3)) _ 1 _ [.int .i64 x1] rfl HRN.out rfl (by simp [Value.oneCell']) (by unfold maxLen; omega) (by omega) (by have := HO.out.size; simp; omega) (fun e => by cases e) ?_; intro v2 w2 hown2 hg2 hat2; have HW2 := Lib.hid hown2; have HO2 := Lib.hid (((HO.out.alloc _).alloc _).grown hg2 (fun k hk => .inl (HW.out.lt k hk).1)); clear hown2 hg2 hat2)
      go_roundg (l.length - (j + 1))
      case measure => omega
      case rel => exact ⟨j + 1, by omega, by go_num, rfl, by rw [take_snoc HX.out, List.map_append, ints_append, List.map_singleton, HX1.out]; exact HW2.out, HO2.out⟩
    · have hjl : j = l.length := by omega
      have HJ := Lib.hid hjl
      clear hjl
      go_wp2_with fail
      go_ret
      refine ⟨_, rfl, ?_, HO.out⟩
      have := HW.out
      rw [HJ.out, List.take_length] at this
      rw [List.length_map]
      exact this
set_option maxRecDepth 100000 in
theorem waitingK (k : Nat) (hk : 1 ≤ k) (hk2 : k < E.workers) : Calls Tryz.prog 67 #[ptr eb, .int .i64 (k : Int)] w (NewInts [] w) := by
  obtain ⟨lv, hb, hown, he⟩ := h.ex
  obtain ⟨k1, k2⟩ := h.workers
  have c1 : w.cell? ⟨eb, 1, none⟩ = some (.int .i64 (E.workers : Int)) := hb.cell rfl
  have hc : w.cell? ⟨eb, 11 + k * 2 + 1, none⟩ = some (.slice none 0 0) := hb.cell (by
    unfold epochCells
    obtain rfl | rfl | rfl | rfl | rfl | rfl | rfl : k = 1 ∨ k = 2 ∨ k = 3 ∨ k = 4 ∨ k = 5 ∨ k = 6 ∨ k = 7 := by omega
    all_goals rfl)
  have e1 : decide (E.workers ≤ k) = false := by simp; omega
  have hk8 : (k : Int) < 8 := by omega
  unfold ptr
  clear h hb hown
  generalize E.workers = n at *
  go_enter Tryz.func67, Tryz.ntmps67
  go_wp2_with fail
  refine wp_loop_rounds 1 ?_
  rw [rounds_succ]
  go_wp2_with fail
  go_ret
  exact ⟨_, rfl, World.ownsRow_nil _ _ 3 1, Only.refl _ _⟩
end
end Go.Proofs.YteeefedoffplmaaGreat
