/- The document's judge of versions: its small functions. -/
import Derived.Test.YtpnegacfanbcfaaOrderParts
import Derived.Test.YtpnegacfanbcfaaOpen
import Derived.Test.YtpnegacfanbcfaaWr
import Derived.Test.YtpnegacfanbcfaaSelf
import Derived.Test.YtpnegacfanbcfaaQuiet
import Derived.BigQuiet
import Derived.Test.YtpnegacfanbcfaaTell
import Derived.Deep.RegionLaw
import Derived.Deep.DeepCutAuto
namespace Go.Proofs.Ytpnegacfanbcfaa
open Go.RowKit Go.Maps

theorem refTimes (b e : Int) (w : World) :
    Calls Try.prog 52 #[.int .i64 b, .int .i64 e] w fun r w' => r = .returned (.bool (timesB b e)) ∧ w = w' := by
  go_enter Try.func52, Try.ntmps52
  go_wp2
  all_goals (go_ret; refine ⟨ret_bool ?_, rfl⟩; simp_all [timesB]; try omega)
theorem refBefore (e b : Int) (w : World) : Calls Try.prog 62 #[.int .i64 e, .int .i64 b] w fun r w' => r = .returned (.bool (aheadB e b)) ∧ w' = w := by
  by_cases h0 : e = 0
  · subst h0
    go_enter Try.func62, Try.ntmps62
    go_wp2
    go_ret
    exact ⟨by simp [aheadB], rfl⟩
  · have h1 : (e == 0) = false := by simpa using h0
    go_enter Try.func62, Try.ntmps62
    go_wp2
    all_goals
      go_ret
      refine ⟨ret_bool ?_, rfl⟩
      simp_all [aheadB, bne]

theorem refWrites (e : Ev) (w : World) : Calls Try.prog 57 #[e.val] w fun r w' => r = .returned (.bool (writesB e)) ∧ Below w.heap.size w w' := by
  simp only [Ev.val, Ev.arr]
  go_enter Try.func57, Try.ntmps57
  go_wp2
  all_goals
    go_ret
    refine ⟨ret_bool ?_, (Below.refl _ _).alloc (Nat.le_refl _) _⟩
    simp_all [writesB]

attribute [-go_sem] loadCellsFrom

/-- the seven ways of the first test. -/
def Way (e : Ev) (parts : Int) (c : Bool) : Prop :=
  (decide (e.kind < 1) = true ∧ c = true) ∨ (decide (e.kind < 1) = false ∧ decide (5 < e.kind) = true ∧ c = true) ∨ (decide (e.kind < 1) = false ∧ decide (5 < e.kind) = false ∧ timesB e.begin_ e.end_ = false ∧ c = true) ∨
  (decide (e.kind < 1) = false ∧ decide (5 < e.kind) = false ∧ timesB e.begin_ e.end_ = true ∧ decide (e.part < 0) = true ∧ c = true) ∨
  (decide (e.kind < 1) = false ∧ decide (5 < e.kind) = false ∧ timesB e.begin_ e.end_ = true ∧ decide (e.part < 0) = false ∧ decide (parts ≤ e.part) = true ∧ c = true) ∨
  (decide (e.kind < 1) = false ∧ decide (5 < e.kind) = false ∧ timesB e.begin_ e.end_ = true ∧ decide (e.part < 0) = false ∧ decide (parts ≤ e.part) = false ∧ (e.kind == 4) = false ∧ c = false) ∨
  (decide (e.kind < 1) = false ∧ decide (5 < e.kind) = false ∧ timesB e.begin_ e.end_ = true ∧ decide (e.part < 0) = false ∧ decide (parts ≤ e.part) = false ∧ (e.kind == 4) = true ∧ (e.part != 0) = c)
theorem way (e : Ev) (parts : Int) : ∃ c, Way e parts c := by
  unfold Way
  by_cases h1 : e.kind < 1
  · exact ⟨true, .inl ⟨by simpa using h1, rfl⟩⟩
  by_cases h2 : 5 < e.kind
  · exact ⟨true, .inr (.inl ⟨by simpa using h1, by simpa using h2, rfl⟩)⟩
  cases h3 : timesB e.begin_ e.end_
  · exact ⟨true, .inr (.inr (.inl ⟨by simpa using h1, by simpa using h2, rfl, rfl⟩))⟩
  by_cases h4 : e.part < 0
  · exact ⟨true, .inr (.inr (.inr (.inl ⟨by simpa using h1, by simpa using h2, rfl, by simpa using h4, rfl⟩)))⟩
  by_cases h5 : parts ≤ e.part
  · exact ⟨true, .inr (.inr (.inr (.inr (.inl ⟨by simpa using h1, by simpa using h2, rfl, by simpa using h4, by simpa using h5, rfl⟩))))⟩
  by_cases h6 : e.kind = 4
  · exact ⟨(e.part != 0), .inr (.inr (.inr (.inr (.inr (.inr ⟨by simpa using h1, by simpa using h2, rfl, by simpa using h4, by simpa using h5, by simpa using h6, rfl⟩)))))⟩
  · exact ⟨false, .inr (.inr (.inr (.inr (.inr (.inl ⟨by simpa using h1, by simpa using h2, rfl, by simpa using h4, by simpa using h5, by simpa using h6, rfl⟩)))))⟩
theorem Way.no {e : Ev} {parts : Int} (h : Way e parts true) : isB e parts = false := by
  unfold Way at h
  unfold isB
  simp only [decide_eq_true_eq, decide_eq_false_iff_not, beq_iff_eq, bne_iff_ne, beq_eq_false_iff_ne] at h
  grind
theorem Way.yes {e : Ev} {parts : Int} (h : Way e parts false) : isB e parts = (e.end_ == 0 || (if e.kind = 4 then decide ((e.nums.length : Int) = parts) && e.nums.all (fun n => decide (1 ≤ n)) else if writesB e then decide (2 ≤ e.number) else decide (1 ≤ e.number))) := by
  unfold Way at h
  unfold isB
  simp only [decide_eq_true_eq, decide_eq_false_iff_not, beq_iff_eq, beq_eq_false_iff_ne, bne_eq_false_iff_eq] at h
  grind
/-- over a snapshot's numbers. -/
def NumRel (e : Ev) (W : World) (k : Nat) (i : Value) (wr : World) : Prop :=
  ∃ j : Nat, j ≤ e.nums.length ∧ i = .int .i64 (j : Int) ∧ k = e.nums.length - j ∧ (∀ j' x, j' < j → e.nums[j']? = some x → decide (1 ≤ x) = true) ∧ wr = W

set_option maxRecDepth 100000 in
set_option maxHeartbeats 4000000 in
theorem refIs (e : Ev) (parts : Int) (X : Nat) (w : World) (hx : w.cell? ⟨X, 0, none⟩ = some (.int .i64 parts)) (hl : e.nums.length ≤ 3000) (hi : e.In w) :
    Calls Try.prog 35 #[.pointer (some ⟨X, 0, none⟩), e.val] w fun r w' => r = .returned (.bool (isB e parts)) ∧ Below w.heap.size w w' := by
  have HI := Lib.hid hi; clear hi
  have hX : X < w.heap.size := by
    rcases Nat.lt_or_ge X w.heap.size with h | h
    · exact h
    · simp [World.cell?, Array.getElem?_eq_none h] at hx
  obtain ⟨c, hway⟩ := way e parts
  have HWAY := Lib.hid hway
  have hb0 : Below w.heap.size w (w.alloc (.cells e.arr 52)) := (Below.refl _ _).alloc (Nat.le_refl _) _
  unfold Ev.arr at hb0
  have HB0 := Lib.hid hb0
  clear hb0
  simp only [Ev.val, Ev.arr]
  rcases hway with ⟨h1, rfl⟩ | ⟨h1, h2, rfl⟩ | ⟨h1, h2, h3, rfl⟩ | ⟨h1, h2, h3, h4, rfl⟩ | ⟨h1, h2, h3, h4, h5, rfl⟩ | ⟨h1, h2, h3, h4, h5, h6, rfl⟩ | ⟨h1, h2, h3, h4, h5, h6, h7⟩
  · go_enter Try.func35, Try.ntmps35
    go_wp2_with fail
    go_quiet ((go_at_call 52; exact Calls.quiet_of_same ((refTimes _ _ _).mono fun _ _ h => ⟨h.1.trans (congrArg (fun b => Ending.returned (Value.bool b)) H3.out), h.2.symm⟩)))
    go_wp2_with fail
    go_ret
    exact ⟨ret_bool (by rw [HWAY.out.no]), below_drewN HB0.out _⟩
  · go_enter Try.func35, Try.ntmps35
    go_wp2_with fail
    go_quiet ((go_at_call 52; exact Calls.quiet_of_same ((refTimes _ _ _).mono fun _ _ h => ⟨h.1.trans (congrArg (fun b => Ending.returned (Value.bool b)) H3.out), h.2.symm⟩)))
    go_wp2_with fail
    go_ret
    exact ⟨ret_bool (by rw [HWAY.out.no]), below_drewN HB0.out _⟩
  · have H3 := Lib.hid h3
    clear h3
    go_enter Try.func35, Try.ntmps35
    go_wp2_with fail
    go_quiet ((go_at_call 52; exact Calls.quiet_of_same ((refTimes _ _ _).mono fun _ _ h => ⟨h.1.trans (congrArg (fun b => Ending.returned (Value.bool b)) H3.out), h.2.symm⟩)))
    go_wp2_with fail
    go_ret
    exact ⟨ret_bool (by rw [HWAY.out.no]), below_drewN HB0.out _⟩
  · have H3 := Lib.hid h3
    clear h3
    go_enter Try.func35, Try.ntmps35
    go_wp2_with fail
    go_quiet ((go_at_call 52; exact Calls.quiet_of_same ((refTimes _ _ _).mono fun _ _ h => ⟨h.1.trans (congrArg (fun b => Ending.returned (Value.bool b)) H3.out), h.2.symm⟩)))
    go_wp2_with fail
    go_ret
    exact ⟨ret_bool (by rw [HWAY.out.no]), below_drewN HB0.out _⟩
  · have H3 := Lib.hid h3
    clear h3
    go_enter Try.func35, Try.ntmps35
    go_wp2_with fail
    go_quiet ((go_at_call 52; exact Calls.quiet_of_same ((refTimes _ _ _).mono fun _ _ h => ⟨h.1.trans (congrArg (fun b => Ending.returned (Value.bool b)) H3.out), h.2.symm⟩)))
    go_wp2_with fail
    go_ret
    exact ⟨ret_bool (by rw [HWAY.out.no]), below_drewN HB0.out _⟩
  · have H3 := Lib.hid h3
    clear h3
    go_enter Try.func35, Try.ntmps35
    go_wp2_with fail
    go_quiet ((go_at_call 52; exact Calls.quiet_of_same ((refTimes _ _ _).mono fun _ _ h => ⟨h.1.trans (congrArg (fun b => Ending.returned (Value.bool b)) H3.out), h.2.symm⟩)))
    have HYES := Lib.hid HWAY.out.yes
    by_cases he : e.end_ = 0
    · have he' : (e.end_ == 0) = true := by simpa using he
      have HV : Hid (isB e parts = true) := by show _ = _; rw [HYES.out, he']; rfl
      clear he
      go_wp2_with fail
      go_ret
      exact ⟨ret_bool (by rw [HV.out]), below_drewN HB0.out _⟩
    · have he' : (e.end_ == 0) = false := by simpa using he
      have HE := Lib.hid he'
      clear he
      have h6' : (e.kind != 4) = true := by simp [bne, h6]
      have hk4 : ¬ e.kind = 4 := by simpa using h6
      obtain ⟨W, hW⟩ : ∃ W, W = (w.alloc (.cells e.arr 52)).drewN nq := ⟨_, rfl⟩
      have hW' := hW
      unfold Ev.arr at hW'
      rw [← hW']
      have hbW : Below w.heap.size w W := by rw [hW']; exact below_drewN HB0.out _
      have hBW : W.heap[w.heap.size]? = some (.cells e.arr 52 (0, 0)) := by rw [hW]; exact heap_alloc_new w _
      have hld : (loadCellsFrom ⟨w.heap.size, 0, none⟩ 0 13 #[]).run Try.prog W = .ok e.arr W := load_block hBW rfl
      have c2 : W.cell? ⟨w.heap.size, 2, none⟩ = some (.int .i64 e.end_) := cell_of_row _ _ 2 _ _ _ hBW
      have c3 : W.cell? ⟨w.heap.size, 3, none⟩ = some (.int .i64 e.kind) := cell_of_row _ _ 3 _ _ _ hBW
      have c6 : W.cell? ⟨w.heap.size, 6, none⟩ = some (.int .i64 e.number) := cell_of_row _ _ 6 _ _ _ hBW
      have HBW := Lib.hid hbW; have HBB := Lib.hid hBW
      have HKW := Lib.hid hk4
      unfold Ev.arr at hld
      clear hW hW' hbW hBW hk4 h1 h2 h4 h5 hx
      go_wp2_with (go_at_call 57; refine (refWrites e _).mono ?_; rintro e1 w1 ⟨rfl, hb1⟩; have c6' : w1.cell? ⟨w.heap.size, 6, none⟩ = some (.int .i64 e.number) := cell_below hb1 _ _ c6; have HB1 := Lib.hid (HBW.out.trans (hb1.mono HBW.out.size)); clear hb1)
      all_goals
        go_ret
        refine ⟨ret_bool ?_, by first | exact HB1.out | exact HBW.out⟩
        rw [HYES.out, HE.out, if_neg HKW.out, Bool.false_or]
        go_tidy
        grind
  · cases c
    rotate_left
    · have H3 := Lib.hid h3
      clear h3
      go_enter Try.func35, Try.ntmps35
      go_wp2_with fail
      go_quiet ((go_at_call 52; exact Calls.quiet_of_same ((refTimes _ _ _).mono fun _ _ h => ⟨h.1.trans (congrArg (fun b => Ending.returned (Value.bool b)) H3.out), h.2.symm⟩)))
      go_wp2_with fail
      go_ret
      exact ⟨ret_bool (by rw [HWAY.out.no]), below_drewN HB0.out _⟩
    · have H3 := Lib.hid h3
      clear h3
      go_enter Try.func35, Try.ntmps35
      go_wp2_with fail
      go_quiet ((go_at_call 52; exact Calls.quiet_of_same ((refTimes _ _ _).mono fun _ _ h => ⟨h.1.trans (congrArg (fun b => Ending.returned (Value.bool b)) H3.out), h.2.symm⟩)))
      have HYES := Lib.hid HWAY.out.yes
      by_cases he : e.end_ = 0
      · have he' : (e.end_ == 0) = true := by simpa using he
        have HV : Hid (isB e parts = true) := by show _ = _; rw [HYES.out, he']; rfl
        clear he
        go_wp2_with fail
        go_ret
        exact ⟨ret_bool (by rw [HV.out]), below_drewN HB0.out _⟩
      · have he' : (e.end_ == 0) = false := by simpa using he
        have HE := Lib.hid he'
        clear he
        have h6' : (e.kind != 4) = false := by simp [bne, h6]
        have hk4 : e.kind = 4 := by simpa using h6
        obtain ⟨W, hW⟩ : ∃ W, W = (w.alloc (.cells e.arr 52)).drewN nq := ⟨_, rfl⟩
        have hW' := hW
        unfold Ev.arr at hW'
        rw [← hW']
        have hbW : Below w.heap.size w W := by rw [hW']; exact below_drewN HB0.out _
        have hBW : W.heap[w.heap.size]? = some (.cells e.arr 52 (0, 0)) := by rw [hW]; exact heap_alloc_new w _
        have c2 : W.cell? ⟨w.heap.size, 2, none⟩ = some (.int .i64 e.end_) := cell_of_row _ _ 2 _ _ _ hBW
        have c3 : W.cell? ⟨w.heap.size, 3, none⟩ = some (.int .i64 e.kind) := cell_of_row _ _ 3 _ _ _ hBW
        have c11 : W.cell? ⟨w.heap.size, 11, none⟩ = some (.slice e.nA e.nums.length e.nc) := cell_of_row _ _ 11 _ _ _ hBW
        have hxW := cell_below hbW _ _ hx
        have HBW := Lib.hid hbW
        have HKW := Lib.hid hk4
        clear hW hW' hbW hBW hk4 h1 h2 h4 h5 hx
        go_wp2_with fail
        go_loopg [5] e.nums.length (fun k i wr => NumRel e W k i wr)
        case atStart => exact ⟨0, Nat.zero_le _, rfl, rfl, fun j' x h => absurd h (Nat.not_lt_zero _), rfl⟩
        case round =>
          obtain ⟨j, hj, rfl, rfl, hall, hwr⟩ := hrel
          subst hwr
          obtain ⟨wo, rfl⟩ : ∃ wo : World, wo = wr := ⟨_, rfl⟩
          have HALL := Lib.hid hall
          by_cases hlt : j < e.nums.length
          · obtain ⟨x, hx⟩ : ∃ x, e.nums[j]? = some x := ⟨_, List.getElem?_eq_getElem hlt⟩
            obtain ⟨b, off, hA, hc⟩ := (HI.out.n.below HBW.out) j (.int .i64 x) (by simp [intsZ, hx])
            have HX := Lib.hid hx
            rw [hA] at c11
            clear hall hx hA
            by_cases h1x : x < 1
            · have h1x' : decide (x < 1) = true := by simpa using h1x
              have HV : Hid (isB e parts = false) := by
                show _ = _
                rw [HYES.out, HE.out, if_pos HKW.out, Bool.false_or, Bool.and_eq_false_iff]
                right
                rw [Bool.eq_false_iff]
                intro h
                rw [List.all_eq_true] at h
                have := h x (List.mem_of_getElem? HX.out)
                simp only [decide_eq_true_eq] at this
                omega
              clear h1x
              go_wp2_with fail
              go_ret
              exact ⟨ret_bool (by rw [HV.out]), HBW.out⟩
            · have h1x' : decide (x < 1) = false := by simpa using h1x
              go_wp2_with fail
              go_roundg (e.nums.length - (j + 1))
              case measure => omega
              case rel =>
                refine ⟨j + 1, by omega, by go_num, rfl, fun j' y hj' hy => ?_, rfl⟩
                rcases Nat.lt_or_ge j' j with h | h
                · exact HALL.out j' y h hy
                · obtain rfl : j' = j := by omega
                  rw [HX.out] at hy
                  injection hy with hy
                  rw [decide_eq_true_eq]
                  omega
          · have HA : Hid (e.nums.all (fun n => decide (1 ≤ n)) = true) := by
              show _ = _
              rw [List.all_eq_true]
              intro x hx
              obtain ⟨j', hj'⟩ := List.getElem?_of_mem hx
              exact hall j' x (by have := (List.getElem?_eq_some_iff.1 hj').1; omega) hj'
            clear hall
            go_wp2_with fail
            go_quiet (fail)
            go_wp2_with fail
            go_ret
            refine ⟨ret_bool ?_, below_drewN HBW.out _⟩
            rw [HYES.out, HE.out, if_pos HKW.out, HA.out, Bool.false_or, Bool.and_true]
            simp [BEq.beq]

/-- a right event of a part (not a snapshot) that has ended. -/
def endedB (parts part : Int) (e : Ev) : Bool := isB e parts && (!(e.end_ == 0) && (!(e.kind == 4) && (e.part == part)))

set_option maxRecDepth 100000 in
set_option maxHeartbeats 2000000 in
theorem refEnded (l : List Ev) (parts : Int) (X : Nat) (lA : Option Addr) (lc : Nat) (i : Nat) (e : Ev) (part : Int) (w : World) (hx0 : w.cell? ⟨X, 0, none⟩ = some (.int .i64 parts)) (hx1 : w.cell? ⟨X, 1, none⟩ = some (.slice lA l.length lc))
    (hrow : Row w lA (evCells l)) (he : l[i]? = some e) (hl : e.nums.length ≤ 3000) (hi : e.In w) :
    Calls Try.prog 56 #[.pointer (some ⟨X, 0, none⟩), .int .i64 (i : Int), .int .i64 part] w fun r w' => r = .returned (.bool (endedB parts part e)) ∧ Below w.heap.size w w' := by
  have HI := Lib.hid hi; have HX0 := Lib.hid hx0
  obtain ⟨b, off, rfl, hld⟩ := load_ev hrow he
  have hil := (List.getElem?_eq_some_iff.1 he).1
  have hl0 : (loadCellsFrom ⟨w.heap.size, 0, none⟩ 0 13 #[]).run Try.prog (w.alloc (.cells e.arr 52)) = .ok e.arr (w.alloc (.cells e.arr 52)) := load_block (heap_alloc_new w _) rfl
  have HCL : Hid (∀ V, Below (w.alloc (.cells e.arr 52)).heap.size (w.alloc (.cells e.arr 52)) V → V.cell? ⟨w.heap.size, 2, none⟩ = some (.int .i64 e.end_) ∧ V.cell? ⟨w.heap.size, 3, none⟩ = some (.int .i64 e.kind) ∧ V.cell? ⟨w.heap.size, 4, none⟩ = some (.int .i64 e.part)) := by
    intro V hV
    exact ⟨cell_below hV _ _ (cell_of_row _ _ 2 _ _ _ (heap_alloc_new w _)), cell_below hV _ _ (cell_of_row _ _ 3 _ _ _ (heap_alloc_new w _)), cell_below hV _ _ (cell_of_row _ _ 4 _ _ _ (heap_alloc_new w _))⟩
  have HB0 : Hid (Below w.heap.size w (w.alloc (.cells e.arr 52))) := (Below.refl _ _).alloc (Nat.le_refl _) _
  have hlt : X < w.heap.size := by
    rcases Nat.lt_or_ge X w.heap.size with h | h
    · exact h
    · simp [World.cell?, Array.getElem?_eq_none h] at hx0
  have HXL := Lib.hid hlt
  unfold Ev.arr at hld hl0 HCL HB0
  clear hi hx0 hrow he hlt
  go_enter Try.func56, Try.ntmps56
  go_wp2_with (go_at_call 35; refine (refIs e parts X _ (by rw [World.cell?_of_block (Below.heap_alloc w _ X HXL.out)]; exact HX0.out) hl (HI.out.below HB0.out)).mono ?_
               rintro e1 w1 ⟨rfl, hb1⟩
               obtain ⟨c2, c3, c4⟩ := HCL.out _ hb1
               have HB1 := Lib.hid (HB0.out.trans (hb1.mono HB0.out.size))
               clear hb1)
  all_goals
    go_ret
    refine ⟨ret_bool ?_, HB1.out⟩
    go_tidy
    simp only [endedB]
    grind

/-- so far none is less. -/
def LsRel (a b : Ev) (W : World) (k : Nat) (i : Value) (wr : World) : Prop :=
  ∃ j : Nat, j ≤ a.nums.length ∧ i = .int .i64 (j : Int) ∧ k = a.nums.length - j ∧ (∀ (j' : Nat) x y, j' < j → a.nums[j']? = some x → b.nums[j']? = some y → ¬ x < y) ∧ Below W.heap.size W wr
set_option maxRecDepth 100000 in
set_option maxHeartbeats 2000000 in
theorem refLess (a b : Ev) (w : World) (ha : a.In w) (hb : b.In w) (hl : a.nums.length ≤ 3000) (hlen : a.nums.length = b.nums.length) :
    Calls Try.prog 63 #[a.val, b.val] w fun r w' => r = .returned (.bool (belowB a b)) ∧ Below w.heap.size w w' := by
  have HA := Lib.hid ha; have HB := Lib.hid hb; have HLEN := Lib.hid hlen
  clear ha hb hlen
  simp only [Ev.val]
  obtain ⟨W, hW⟩ : ∃ W, W = (w.alloc (.cells a.arr 52)).alloc (.cells b.arr 52) := ⟨_, rfl⟩
  have hbW : Below w.heap.size w W := by rw [hW]; exact ((Below.refl _ _).alloc (Nat.le_refl _) _).alloc (by simp) _
  have h1 : W.heap[w.heap.size]? = some (.cells a.arr 52 (0, 0)) := by
    rw [hW]
    exact (Below.heap_alloc _ _ _ (by simp)).trans (heap_alloc_new w _)
  have h2 : W.heap[w.heap.size + 1]? = some (.cells b.arr 52 (0, 0)) := by
    rw [hW]
    have := heap_alloc_new (w.alloc (.cells a.arr 52)) (.cells b.arr 52)
    simpa using this
  have HBW := Lib.hid hbW; have H1 := Lib.hid h1; have H2 := Lib.hid h2
  clear hbW h1 h2
  simp only [Ev.arr] at hW ⊢
  go_enter Try.func63, Try.ntmps63
  go_upto_region 1 with fail
  rw [← hW]
  clear hW
  go_wp2_with fail
  go_loopg [5] a.nums.length (fun k i wr => LsRel a b W k i wr)
  case atStart => exact ⟨0, Nat.zero_le _, rfl, rfl, fun j' x y h => absurd h (Nat.not_lt_zero _), Below.refl _ _⟩
  case round =>
    obtain ⟨j, hj, rfl, rfl, hno, hbr⟩ := hrel
    obtain ⟨wo, hwo⟩ : ∃ wo : World, wo = wr := ⟨_, rfl⟩
    subst hwo
    have HNO := Lib.hid hno; have HBR := Lib.hid hbr
    have ca : wo.cell? ⟨w.heap.size, 11, none⟩ = some (.slice a.nA a.nums.length a.nc) := cell_below hbr _ _ (cell_of_row _ _ 11 _ _ _ H1.out)
    have cb : wo.cell? ⟨w.heap.size + 1, 11, none⟩ = some (.slice b.nA b.nums.length b.nc) := cell_below hbr _ _ (cell_of_row _ _ 11 _ _ _ H2.out)
    have hbw := HBW.out.trans (hbr.mono HBW.out.size)
    clear hno
    by_cases hlt : j < a.nums.length
    · have hltb : j < b.nums.length := by rw [← HLEN.out]; exact hlt
      obtain ⟨x, hx⟩ : ∃ x, a.nums[j]? = some x := ⟨_, List.getElem?_eq_getElem hlt⟩
      obtain ⟨y, hy⟩ : ∃ y, b.nums[j]? = some y := ⟨_, List.getElem?_eq_getElem hltb⟩
      obtain ⟨ab, aoff, hA, hca⟩ := (HA.out.n.below hbw) j (.int .i64 x) (by simp [intsZ, hx])
      obtain ⟨bb, boff, hB, hcb⟩ := (HB.out.n.below hbw) j (.int .i64 y) (by simp [intsZ, hy])
      have HX := Lib.hid hx; have HY := Lib.hid hy
      rw [hA] at ca
      rw [hB] at cb
      have hj1 : (j : Int) < a.nums.length := by omega
      have hj2 : (j : Int) < b.nums.length := by omega
      clear hx hy hA hB hbw hbr
      by_cases hxy : x < y
      · have hxy' : decide (x < y) = true := by simpa using hxy
        have HXY := Lib.hid hxy
        clear hxy
        go_wp2_with fail
        go_quiet (fail)
        go_wp2_with fail
        go_ret
        refine ⟨ret_bool ?_, HBW.out.trans ((below_drewN HBR.out _).mono HBW.out.size)⟩
        symm
        unfold belowB
        rw [List.any_eq_true]
        exact ⟨(x, y), List.mem_of_getElem? (i := j) (by rw [List.getElem?_zip_eq_some]; exact ⟨HX.out, HY.out⟩), by simpa using HXY.out⟩
      · have hxy' : decide (x < y) = false := by simpa using hxy
        have HXY := Lib.hid hxy
        clear hxy
        go_wp2_with fail
        go_quiet (fail)
        go_wp2_with fail
        go_roundg (a.nums.length - (j + 1))
        case measure => omega
        case rel =>
          refine ⟨j + 1, by omega, by go_num, rfl, fun j' x' y' hj' hx' hy' => ?_, below_drewN HBR.out _⟩
          rcases Nat.lt_or_ge j' j with h | h
          · have := HNO.out j' x' y' h hx' hy'
            omega
          · obtain rfl : j' = j := by omega
            rw [HX.out] at hx'
            rw [HY.out] at hy'
            injection hx' with hx'
            injection hy' with hy'
            rw [← hx', ← hy']
            have := HXY.out
            omega
    · have hjl : j = a.nums.length := by omega
      have HJ := Lib.hid hjl
      clear hjl hbw hbr
      go_wp2_with fail
      go_ret
      refine ⟨ret_bool ?_, HBW.out.trans (HBR.out.mono HBW.out.size)⟩
      symm
      unfold belowB
      rw [List.any_eq_false]
      rintro ⟨x, y⟩ hp
      obtain ⟨i, hi⟩ := List.getElem?_of_mem hp
      rw [List.getElem?_zip_eq_some] at hi
      have := HNO.out i x y (by have := (List.getElem?_eq_some_iff.1 hi.1).1; have := HJ.out; omega) hi.1 hi.2
      simpa using this

/-- the four ways of busy's test. -/
def BsWay (e : Ev) (parts part : Int) (c : Bool) : Prop :=
  (isB e parts = false ∧ c = false) ∨ (isB e parts = true ∧ (e.end_ == 0) = false ∧ c = false) ∨ (isB e parts = true ∧ (e.end_ == 0) = true ∧ writesB e = false ∧ c = false) ∨ (isB e parts = true ∧ (e.end_ == 0) = true ∧ writesB e = true ∧ (e.part == part) = c)
theorem bsWay (e : Ev) (parts part : Int) : ∃ c, BsWay e parts part c := by
  unfold BsWay
  cases isB e parts
  · exact ⟨false, .inl ⟨rfl, rfl⟩⟩
  cases (e.end_ == 0)
  · exact ⟨false, .inr (.inl ⟨rfl, rfl, rfl⟩)⟩
  cases writesB e
  · exact ⟨false, .inr (.inr (.inl ⟨rfl, rfl, rfl, rfl⟩))⟩
  · exact ⟨_, .inr (.inr (.inr ⟨rfl, rfl, rfl, rfl⟩))⟩
theorem bsWay_is {e : Ev} {parts part : Int} {c : Bool} (h : BsWay e parts part c) : (isB e parts && writesB e && decide (e.end_ = 0) && decide (e.part = part)) = c := by
  unfold BsWay at h
  rcases h with ⟨h1, rfl⟩ | ⟨h1, h2, rfl⟩ | ⟨h1, h2, h3, rfl⟩ | ⟨h1, h2, h3, h4⟩
  · rw [h1]; rfl
  · have : ¬ e.end_ = 0 := by simpa using h2
    simp [this]
  · rw [h1, h3]; rfl
  · have : e.end_ = 0 := by simpa using h2
    rw [h1, h3, ← h4]
    simp [this, BEq.beq]
/-- so far none is busy. -/
def BsRel (l : List Ev) (parts part : Int) (w : World) (k : Nat) (i : Value) (wr : World) : Prop :=
  ∃ j : Nat, j ≤ l.length ∧ i = .int .i64 (j : Int) ∧ k = l.length - j ∧ busyB (l.take j) parts part = false ∧ Below w.heap.size w wr
theorem busyB_succ {l : List Ev} {parts part : Int} {j : Nat} {e : Ev} (h : l[j]? = some e) : busyB (l.take (j + 1)) parts part = (busyB (l.take j) parts part || (isB e parts && writesB e && decide (e.end_ = 0) && decide (e.part = part))) := by
  unfold busyB
  rw [take_snoc' h]
  simp
theorem busyB_mono {l : List Ev} {parts part : Int} {j : Nat} (h : busyB (l.take j) parts part = true) : busyB l parts part = true := by
  unfold busyB at *
  rw [List.any_eq_true] at *
  obtain ⟨e, he, h⟩ := h
  exact ⟨e, List.mem_of_mem_take he, h⟩
set_option maxRecDepth 100000 in
set_option maxHeartbeats 2000000 in
theorem refBusy (l : List Ev) (parts : Int) (X : Nat) (lA : Option Addr) (lc : Nat) (part : Int) (w : World) (hx0 : w.cell? ⟨X, 0, none⟩ = some (.int .i64 parts)) (hx1 : w.cell? ⟨X, 1, none⟩ = some (.slice lA l.length lc))
    (hrow : Row w lA (evCells l)) (hll : l.length ≤ 1024) (hl : ∀ e ∈ l, e.nums.length ≤ 3000) (hi : ∀ e ∈ l, e.In w) :
    Calls Try.prog 60 #[.pointer (some ⟨X, 0, none⟩), .int .i64 part] w fun r w' => r = .returned (.bool (busyB l parts part)) ∧ Below w.heap.size w w' := by
  have HI := Lib.hid hi; have HX0 := Lib.hid hx0; have HX1 := Lib.hid hx1; have HROW := Lib.hid hrow; have HL := Lib.hid hl
  clear hi hx0 hx1 hrow hl
  go_enter Try.func60, Try.ntmps60
  go_wp2_with fail
  go_loopg [5] l.length (fun k i wr => BsRel l parts part w k i wr)
  case atStart => exact ⟨0, Nat.zero_le _, rfl, rfl, rfl, Below.refl _ _⟩
  case round =>
    obtain ⟨j, hj, rfl, rfl, hno, hbr⟩ := hrel
    obtain ⟨wo, hwo⟩ : ∃ wo : World, wo = wr := ⟨_, rfl⟩
    subst hwo
    have HNO := Lib.hid hno; have HBR := Lib.hid hbr
    have x1 := cell_below hbr _ _ HX1.out
    clear hno
    by_cases hlt : j < l.length
    · obtain ⟨e, he⟩ : ∃ e, l[j]? = some e := ⟨_, List.getElem?_eq_getElem hlt⟩
      obtain ⟨b, off, hA, hld⟩ := load_ev (HROW.out.below hbr) he
      have hXo : X < wo.heap.size := by
        rcases Nat.lt_or_ge X wo.heap.size with h | h
        · exact h
        · simp [World.cell?, Array.getElem?_eq_none h] at x1
      have hl0 : (loadCellsFrom ⟨wo.heap.size, 0, none⟩ 0 13 #[]).run Try.prog (wo.alloc (.cells e.arr 52)) = .ok e.arr (wo.alloc (.cells e.arr 52)) := load_block (heap_alloc_new wo _) rfl
      have HCL : Hid (∀ V, Below (wo.alloc (.cells e.arr 52)).heap.size (wo.alloc (.cells e.arr 52)) V → V.cell? ⟨wo.heap.size, 2, none⟩ = some (.int .i64 e.end_) ∧ V.cell? ⟨wo.heap.size, 4, none⟩ = some (.int .i64 e.part) ∧ (loadCellsFrom ⟨wo.heap.size, 0, none⟩ 0 13 #[]).run Try.prog V = .ok e.arr V) := by
        intro V hV
        have hh := heap_alloc_new wo (.cells e.arr 52)
        have hh2 := (hV.block _ (Array.getElem?_eq_some_iff.1 hh).1).trans hh
        exact ⟨cell_of_row _ _ 2 _ _ _ hh2, cell_of_row _ _ 4 _ _ _ hh2, load_block hh2 rfl⟩
      have HB0 : Hid (Below wo.heap.size wo (wo.alloc (.cells e.arr 52))) := (Below.refl _ _).alloc (Nat.le_refl _) _
      have HX0o : Hid ((wo.alloc (.cells e.arr 52)).cell? ⟨X, 0, none⟩ = some (.int .i64 parts)) := cell_below HB0.out _ _ (cell_below hbr _ _ HX0.out)
      have HE := Lib.hid he
      have HIE := Lib.hid ((HI.out e (List.mem_of_getElem? he)).below hbr)
      have HLE := Lib.hid (HL.out e (List.mem_of_getElem? he))
      have HSUC := Lib.hid (busyB_succ (parts := parts) (part := part) he)
      unfold Ev.arr at hld hl0 HCL HB0 HX0o
      clear he hbr
      subst hA
      obtain ⟨c, hc⟩ := bsWay e parts part
      have HC : Hid ((isB e parts && writesB e && decide (e.end_ = 0) && decide (e.part = part)) = c) := bsWay_is hc
      rcases hc with ⟨h1, rfl⟩ | ⟨h1, h2, rfl⟩ | ⟨h1, h2, h3, rfl⟩ | ⟨h1, h2, h3, h4⟩
      rotate_right
      · cases c
        all_goals
          have H1 := Lib.hid h1; have H3 := Lib.hid h3
          clear h1 h3
          go_wp2_with (first
            | (go_at_call 35; refine (refIs e parts X _ HX0o.out HLE.out (HIE.out.below HB0.out)).mono ?_
               rintro e1 w1 ⟨rfl, hb1⟩
               obtain ⟨c2, c4, hld1⟩ := HCL.out _ hb1
               have HB1 := Lib.hid (HBR.out.trans ((HB0.out.trans (hb1.mono HB0.out.size)).mono HBR.out.size))
               rw [H1.out]
               clear hb1)
            | (go_at_call 57; refine (refWrites e _).mono ?_
               rintro e2 w2 ⟨rfl, hb2⟩
               have c4' := cell_below hb2 _ _ c4
               have HB2 := Lib.hid (HB1.out.trans (hb2.mono HB1.out.size))
               rw [H3.out]
               clear hb2))
        · go_roundg (l.length - (j + 1))
          case measure => omega
          case rel => exact ⟨j + 1, by omega, by go_num, rfl, by rw [HSUC.out, HNO.out, HC.out]; rfl, HB2.out⟩
        · go_ret
          exact ⟨ret_bool (by rw [busyB_mono (j := j + 1) (by rw [HSUC.out, HC.out, Bool.or_true])]), HB2.out⟩
      all_goals
        have H1 := Lib.hid h1
        clear h1
        try (have H3 := Lib.hid h3; clear h3)
        go_wp2_with (first
          | (go_at_call 35; refine (refIs e parts X _ HX0o.out HLE.out (HIE.out.below HB0.out)).mono ?_
             rintro e1 w1 ⟨rfl, hb1⟩
             obtain ⟨c2, c4, hld1⟩ := HCL.out _ hb1
             have HB1 := Lib.hid (HBR.out.trans ((HB0.out.trans (hb1.mono HB0.out.size)).mono HBR.out.size))
             rw [H1.out]
             clear hb1)
          | (go_at_call 57; refine (refWrites e _).mono ?_
             rintro e2 w2 ⟨rfl, hb2⟩
             have HB2 := Lib.hid (HB1.out.trans (hb2.mono HB1.out.size))
             rw [H3.out]
             clear hb2))
        go_roundg (l.length - (j + 1))
        case measure => omega
        case rel => exact ⟨j + 1, by omega, by go_num, rfl, by rw [HSUC.out, HNO.out, HC.out]; rfl, by first | exact HB2.out | exact HB1.out⟩
    · have hjl : j = l.length := by omega
      have HV : Hid (busyB l parts part = false) := by
        have := HNO.out
        rwa [hjl, List.take_length] at this
      clear hbr hjl
      go_wp2_with fail
      go_ret
      exact ⟨ret_bool (by rw [HV.out]), HBR.out⟩
end Go.Proofs.Ytpnegacfanbcfaa

/- The document's judge of versions: tables. -/
namespace Go.Proofs.Ytpnegacfanbcfaa
open Go.RowKit Go.Maps

/-- what a table's list holds. -/
def tabOf (t : List (Int × Int)) : Tab := tab0.puts t
theorem puts_append (T : Tab) (a b : List (Int × Int)) : T.puts (a ++ b) = (T.puts a).puts b := by simp [Tab.puts, List.foldl_append]
theorem puts_ne {key : Int} : ∀ {b : List (Int × Int)} {T : Tab}, (∀ p ∈ b, p.1 ≠ key) → (T.puts b) key = T key
  | [], _, _ => rfl
  | p :: b, T, h => by
    have h1 := puts_ne (b := b) (T := T.put p.1 p.2) fun q hq => h q (List.mem_cons_of_mem _ hq)
    have h2 := h p (List.mem_cons_self ..)
    show ((T.put p.1 p.2).puts b) key = _
    rw [h1]
    unfold Tab.put
    rw [if_neg (fun e => h2 e.symm)]
theorem puts_last {l : List (Int × Int)} {key : Int} {j : Nat} {p : Int × Int} (h : l[j]? = some p) (hp : p.1 = key) (hno : ∀ (j' : Nat) q, j < j' → l[j']? = some q → q.1 ≠ key) (T : Tab) : (T.puts l) key = some p.2 := by
  have hj := (List.getElem?_eq_some_iff.1 h).1
  have e : l = (l.take j ++ [p]) ++ l.drop (j + 1) := by
    rw [← take_snoc' h, List.take_append_drop]
  rw [e, puts_append, puts_ne, puts_append]
  · show (((T.puts (l.take j)).put p.1 p.2)) key = _
    unfold Tab.put
    rw [if_pos hp.symm]
  · intro q hq
    obtain ⟨i, hi⟩ := List.getElem?_of_mem hq
    rw [List.getElem?_drop] at hi
    exact hno (j + 1 + i) q (by omega) hi

theorem row_pair {w : World} {A : Option Addr} {l : List (Int × Int)} (h : Row w A (pairCells l)) {k : Nat} {p : Int × Int} (hp : l[k]? = some p) :
    ∃ b off, A = some ⟨b, off, none⟩ ∧ w.cell? ⟨b, off + k * 2, none⟩ = some (.int .i64 p.1) ∧ w.cell? ⟨b, off + k * 2 + 1, none⟩ = some (.int .i64 p.2) := by
  have g : ∀ j, j < 2 → (pairCells l)[k * 2 + j]? = [Value.int .i64 p.1, .int .i64 p.2][j]? := flatMap_get (fun p : Int × Int => [Value.int .i64 p.1, .int .i64 p.2]) 2 (fun _ => rfl) l k p hp
  obtain ⟨b, off, hA, h0⟩ := h (k * 2 + 0) _ ((g 0 (by omega)).trans rfl)
  obtain ⟨b', off', hA', h1⟩ := h (k * 2 + 1) _ ((g 1 (by omega)).trans rfl)
  rw [hA] at hA'
  injection hA' with hA'
  injection hA' with e1 e2
  subst e1 e2
  exact ⟨b, off, hA, h0, by rwa [← Nat.add_assoc] at h1⟩

theorem heap_below' {w w2 : World} (hb : Below w.heap.size w w2) {k : Nat} {o : Obj} (h : w.heap[k]? = some o) : w2.heap[k]? = some o := (hb.block _ (Array.getElem?_eq_some_iff.1 h).1).trans h

attribute [-go_sem] loadCellsFrom

/-- none from there on has the key. -/
def FnRel (t : List (Int × Int)) (key : Int) (W : World) (k : Nat) (i : Value) (wr : World) : Prop :=
  ∃ j : Nat, j ≤ t.length ∧ i = .int .i64 ((j : Int) - 1) ∧ k = j ∧ (∀ (j' : Nat) p, j ≤ j' → t[j']? = some p → p.1 ≠ key) ∧ wr = W
set_option maxRecDepth 100000 in
set_option maxHeartbeats 2000000 in
theorem refFind (t : List (Int × Int)) (A : Option Addr) (c : Nat) (key : Int) (w : World) (hr : Row w A (pairCells t)) (hl : t.length ≤ 4000000) :
    Calls Try.prog 61 #[.agg #[.slice A t.length c], .int .i64 key] w fun r w' => r = .returned (.tuple #[.int .i64 ((tabOf t key).getD 0), .bool (tabOf t key).isSome]) ∧ Below w.heap.size w w' := by
  have HR := Lib.hid hr
  clear hr
  obtain ⟨W, hW⟩ : ∃ W, W = w.alloc (.cells #[.slice A t.length c] 114) := ⟨_, rfl⟩
  have hbW : Below w.heap.size w W := by rw [hW]; exact (Below.refl _ _).alloc (Nat.le_refl _) _
  have h1 : W.heap[w.heap.size]? = some (.cells #[.slice A t.length c] 114 (0, 0)) := by
    rw [hW]
    exact heap_alloc_new w _
  have HBW := Lib.hid hbW; have H1 := Lib.hid h1
  clear hbW h1
  go_enter Try.func61, Try.ntmps61
  go_upto_region 1 with fail
  rw [← hW]
  clear hW
  have c0 : W.cell? ⟨w.heap.size, 0, none⟩ = some (.slice A t.length c) := cell_of_row _ _ 0 _ _ _ H1.out
  go_wp2_with fail
  go_loopg [6] t.length (fun k i wr => FnRel t key W k i wr)
  case atStart => exact ⟨t.length, Nat.le_refl _, by go_num, rfl, fun j' p h1 h2 => by have := (List.getElem?_eq_some_iff.1 h2).1; omega, rfl⟩
  case round =>
    obtain ⟨j, hj, rfl, rfl, hno, hwr⟩ := hrel
    subst hwr
    obtain ⟨wo, rfl⟩ : ∃ wo : World, wo = wr := ⟨_, rfl⟩
    have HNO := Lib.hid hno
    clear hno
    cases gk with
    | zero =>
      have HV : Hid (tabOf t key = none) := by
        show _ = _
        unfold tabOf
        rw [puts_ne]
        · rfl
        · intro p hp
          obtain ⟨i, hi⟩ := List.getElem?_of_mem hp
          exact HNO.out i p (Nat.zero_le _) hi
      go_wp2_with fail
      go_ret2
      refine ⟨?_, HBW.out⟩
      rw [HV.out]
      rfl
    | succ j =>
      have hlt : j < t.length := by omega
      obtain ⟨p, hp⟩ : ∃ p, t[j]? = some p := ⟨_, List.getElem?_eq_getElem hlt⟩
      obtain ⟨b, off, hA, p0, p1⟩ := row_pair (HR.out.below HBW.out) hp
      have HP := Lib.hid hp
      rw [hA] at c0
      have ej : (((j + 1 : Nat) : Int) - 1) = (j : Int) := by omega
      rw [ej]
      clear hA hp
      by_cases hk : p.1 = key
      · have hk' : (p.1 == key) = true := by simpa using hk
        have HV : Hid (tabOf t key = some p.2) := puts_last HP.out hk (fun j' q h1 h2 => HNO.out j' q (by omega) h2) _
        clear hk
        go_wp2_with fail
        go_ret2
        refine ⟨?_, HBW.out⟩
        rw [HV.out]
        rfl
      · have hk' : (p.1 == key) = false := by simpa using hk
        have HK := Lib.hid hk
        clear hk
        go_wp2_with fail
        go_roundg j
        case measure => omega
        case rel =>
          refine ⟨j, by omega, by go_num, rfl, fun j' q h1 h2 => ?_, rfl⟩
          rcases Nat.lt_or_ge j j' with h | h
          · exact HNO.out j' q (by omega) h2
          · obtain rfl : j' = j := by omega
            rw [HP.out] at h2
            injection h2 with h2
            exact h2 ▸ HK.out

theorem load_table (w : World) {R : Nat} {v : Value} (hc : w.heap[R]? = some (.cells #[v] 114 (0, 0))) : (loadVar 114 ⟨R, 0, none⟩).run Try.prog w = .ok (.agg #[v]) w := by
  have hu := Try.underlying114
  have ld : (loadCellsFrom ⟨R, 0, none⟩ 0 1 #[]).run Try.prog w = .ok #[v] w := load_block hc rfl
  go_simp
theorem results_table {fn : Func} {a : Tmp} (h : fn.results = #[.cell a 114]) (tmps : Array Value) (w : World) {R : Nat} {v : Value} (ht : tmps.getD a undef = .pointer (some ⟨R, 0, none⟩)) (hc : w.heap[R]? = some (.cells #[v] 114 (0, 0))) :
    (results fn tmps).run Try.prog w = .ok (.agg #[v]) w := by
  have h1 := load_table w hc
  simp only [results, h, List.mapM_toArray, List.mapM_cons, List.mapM_nil, Sem.run_bind, Sem.run_pure, ht, asAddr]
  simp [h1]
theorem elemPair : ElemOk Try.prog 41 58 2 16 := elemOk_of (by kernel_rfl) (by decide) (.agg #[.int .i64 0, .int .i64 0]) (by kernel_rfl) rfl
theorem kept114 {w wp w2 : World} {B n k : Nat} {v : Value} {xs : List Value} {cs : Array Value} {e : TypeId} (he : e ≠ 58) (hb : Below w.heap.size w wp) (ho : wp.ownsRow B 58 2 v n xs) (hg : wp.grownBy w2 v.ownBlock) (h : w.heap[k]? = some (.cells cs e (0, 0))) : w2.heap[k]? = some (.cells cs e (0, 0)) := by
  have h1 : wp.heap[k]? = some (.cells cs e (0, 0)) := (hb.block _ (Array.getElem?_eq_some_iff.1 h).1).trans h
  refine (hg.block _ (Array.getElem?_eq_some_iff.1 h1).1 (fun e' => ?_)).trans h1
  obtain ⟨cs', hc⟩ := own_block_cells ho e'.symm
  rw [h1] at hc
  injection hc with hc
  injection hc with _ hc
  exact he hc
/-- what without carries. -/
structure WoSt (B S R O : Nat) (A : Option Addr) (n c : Nat) (w : World) (F : List (Int × Int)) (oA : Option Addr) (oc : Nat) (wr : World) : Prop where
  s : wr.heap[S]? = some (.cells #[.slice A n c] 114 (0, 0))
  r : wr.heap[R]? = some (.cells #[.slice none 0 0] 114 (0, 0))
  o : wr.heap[O]? = some (.cells #[.slice oA F.length oc] 114 (0, 0))
  own : wr.ownsRow B 58 2 (.slice oA F.length oc) F.length (pairCells F)
  b : Below B w wr
theorem WoSt.below {B S R O : Nat} {A : Option Addr} {n c : Nat} {w : World} {F : List (Int × Int)} {oA : Option Addr} {oc : Nat} {wr w' : World} (h : WoSt B S R O A n c w F oA oc wr) (hb : Below wr.heap.size wr w') (hB : B ≤ wr.heap.size) : WoSt B S R O A n c w F oA oc w' :=
  ⟨heap_below' hb h.s, heap_below' hb h.r, heap_below' hb h.o, own_below h.own hb, h.b.trans (hb.mono hB)⟩
def WoRel (B S R O : Nat) (t : List (Int × Int)) (key : Int) (A : Option Addr) (c : Nat) (w : World) (k : Nat) (i : Value) (wr : World) : Prop :=
  ∃ (j : Nat) (oA : Option Addr) (oc : Nat), j ≤ t.length ∧ i = .int .i64 (j : Int) ∧ k = t.length - j ∧ WoSt B S R O A t.length c w ((t.take j).filter fun p => !(p.1 == key)) oA oc wr
theorem pairCells_snoc (l : List (Int × Int)) (p : Int × Int) : pairCells (l ++ [p]) = pairCells l ++ [.int .i64 p.1, .int .i64 p.2] := by simp [pairCells]
set_option maxRecDepth 100000 in
set_option maxHeartbeats 4000000 in
theorem refWithout (t : List (Int × Int)) (A : Option Addr) (c : Nat) (key : Int) (w : World) (hr : Row w A (pairCells t)) (hl : t.length ≤ 4000000) :
    Calls Try.prog 73 #[.agg #[.slice A t.length c], .int .i64 key] w fun r w' => ∃ A' c', r = .returned (.agg #[.slice A' (t.filter fun p => !(p.1 == key)).length c']) ∧ w'.ownsRow w.heap.size 58 2 (.slice A' (t.filter fun p => !(p.1 == key)).length c') (t.filter fun p => !(p.1 == key)).length (pairCells (t.filter fun p => !(p.1 == key))) ∧ Below w.heap.size w w' := by
  have HR := Lib.hid hr
  clear hr
  obtain ⟨W, hW⟩ : ∃ W, W = ((w.alloc (.cells #[.slice A t.length c] 114)).alloc (.cells #[.slice none 0 0] 114)).alloc (.cells #[.slice none 0 0] 114) := ⟨_, rfl⟩
  have hst : WoSt w.heap.size w.heap.size (w.heap.size + 1) (w.heap.size + 1 + 1) A t.length c w [] none 0 W := by
    have e1 := heap_alloc_new w (.cells #[.slice A t.length c] 114)
    have e2 := heap_alloc_new (w.alloc (.cells #[.slice A t.length c] 114)) (.cells #[.slice none 0 0] 114)
    have e3 := heap_alloc_new ((w.alloc (.cells #[.slice A t.length c] 114)).alloc (.cells #[.slice none 0 0] 114)) (.cells #[.slice none 0 0] 114)
    simp only [World.heap_size_alloc'] at e2 e3
    refine ⟨?_, ?_, ?_, World.ownsRow_nil _ _ _ _, ?_⟩
    · rw [hW, Below.heap_alloc _ _ _ (by simp; omega), Below.heap_alloc _ _ _ (by simp)]
      exact e1
    · rw [hW, Below.heap_alloc _ _ _ (by simp)]
      exact e2
    · rw [hW]
      exact e3
    · rw [hW]
      exact (((Below.refl _ _).alloc (Nat.le_refl _) _).alloc (by simp) _).alloc (by simp; omega) _
  have HST := Lib.hid hst
  clear hst
  go_enter Try.func73, Try.ntmps73
  go_wp2_with fail
  rw [← hW]
  clear hW
  go_loopg [6] t.length (fun k i wr => WoRel w.heap.size w.heap.size (w.heap.size + 1) (w.heap.size + 1 + 1) t key A c w k i wr)
  case atStart => exact ⟨0, none, 0, Nat.zero_le _, rfl, rfl, HST.out⟩
  case round =>
    obtain ⟨j, oA, oc, hj, rfl, rfl, hs⟩ := hrel
    obtain ⟨wo, hwo⟩ : ∃ wo : World, wo = wr := ⟨_, rfl⟩
    subst hwo
    obtain ⟨F, hF⟩ : ∃ F, F = (t.take j).filter fun p => !(p.1 == key) := ⟨_, rfl⟩
    rw [← hF] at hs
    have hFl : F.length ≤ j := by
      rw [hF]
      exact Nat.le_trans (List.length_filter_le _ _) (by simp; omega)
    have HS := Lib.hid hs; have HF := Lib.hid hF
    have hBo := hs.b.size
    have s0 := cell_of_row _ _ 0 _ _ _ hs.s
    have o0 := cell_of_row _ _ 0 _ _ _ hs.o
    simp only [List.getElem?_toArray, List.getElem?_cons_zero] at s0 o0
    clear hF
    by_cases hlt : j < t.length
    · obtain ⟨p, hp⟩ : ∃ p, t[j]? = some p := ⟨_, List.getElem?_eq_getElem hlt⟩
      have HP := Lib.hid hp
      have hrw := HR.out.below hs.b
      obtain ⟨b, off, hA, p0, p1⟩ := row_pair hrw hp
      obtain ⟨b', off', hA', hld⟩ := load_elem (fun p : Int × Int => [Value.int .i64 p.1, Value.int .i64 p.2]) 2 (fun _ => rfl) (by decide) hrw hp
      rw [hA] at hA'
      injection hA' with hA'
      injection hA' with e1 e2
      subst e1 e2
      rw [hA] at s0
      clear hA hp
      by_cases hk : p.1 = key
      · have hk' : (p.1 != key) = false := by simp [hk]
        have HN : Hid ((t.take (j + 1)).filter (fun p => !(p.1 == key)) = F) := by
          show _ = _
          rw [take_snoc' HP.out, List.filter_append, HF.out]
          simp [hk]
        clear hs hk hld
        go_wp2_with fail
        go_roundg (t.length - (j + 1))
        case measure => omega
        case rel => exact ⟨j + 1, oA, oc, by omega, by go_num, rfl, by rw [HN.out]; exact HS.out⟩
      · have hk' : (p.1 != key) = true := by simp [hk]
        have HN : Hid ((t.take (j + 1)).filter (fun p => !(p.1 == key)) = F ++ [p]) := by
          show _ = _
          rw [take_snoc' HP.out, List.filter_append, HF.out]
          simp [hk]
        clear hk hs
        go_wp2_with fail
        have hldD : (loadCellsFrom ⟨b, off + j * 2, none⟩ 0 2 #[]).run Try.prog wo.drew = .ok #[.int .i64 p.1, .int .i64 p.2] wo.drew := by
          obtain ⟨b', off', hA', hld'⟩ := load_elem (w := wo.drew) (fun p : Int × Int => [Value.int .i64 p.1, Value.int .i64 p.2]) 2 (fun _ => rfl) (by decide) (HR.out.below HS.out.b.drew) HP.out
          obtain ⟨b2, off2, hA2, _⟩ := row_pair (HR.out.below HS.out.b) HP.out
          have e1 : (some ⟨b2, off2, none⟩ : Option Addr) = some ⟨b', off', none⟩ := hA2.symm.trans hA'
          have e3 : (⟨b, off, none⟩ : Addr) = ⟨b2, off2, none⟩ := by
            have h1 := s0
            rw [cell_of_row _ _ 0 _ _ _ HS.out.s] at h1
            simp only [List.getElem?_toArray, List.getElem?_cons_zero, hA2] at h1
            injection h1 with h1
            injection h1 with h1
            injection h1 with h1
            exact h1.symm
          injection e1 with e1
          rw [← e3] at e1
          injection e1 with e4 e5
          subst e4 e5
          exact hld'
        have hO : w.heap.size + 1 + 1 < wo.heap.size := (Array.getElem?_eq_some_iff.1 HS.out.o).1
        have hj1 : (j : Int) < t.length := by omega
        go_region_law (first
          | (refine step_append_is rfl (.tmp 23) (.tmp 29) rfl elemPair rfl (base := w.heap.size) (n := F.length) (xs := pairCells F) (by exact own_below HS.out.own (by repeat' first | refine Below.drew ?_ | refine Below.alloc ?_ (by first | exact Nat.le_refl _ | exact BelowOf.le _ | simp) _ | exact Below.refl _ _ | exact BelowOf.h _)) _ 1 _ [.int .i64 p.1, .int .i64 p.2] rfl (by first | exact row_new _ _ _ | exact (row_new _ _ _).below (Below.refl _ _).drew) rfl (by intro u hu; simp only [List.mem_cons, List.not_mem_nil, or_false] at hu; rcases hu with rfl | rfl <;> rfl) (by unfold maxLen; omega) (by omega) (by first | assumption | (simp; omega)) (fun e => by cases e) ?_
             intro v2 w2 ho2 hg2 hat2
             obtain ⟨A2, c2, rfl, _, _⟩ := row_of_own ho2
             have hS2 := kept114 (by decide) (by repeat' first | refine Below.drew ?_ | refine Below.alloc ?_ (by first | exact Nat.le_refl _ | exact BelowOf.le _ | simp) _ | exact Below.refl _ _ | exact BelowOf.h _) (own_below HS.out.own (by repeat' first | refine Below.drew ?_ | refine Below.alloc ?_ (by first | exact Nat.le_refl _ | exact BelowOf.le _ | simp) _ | exact Below.refl _ _ | exact BelowOf.h _)) hg2 HS.out.s
             have hR2 := kept114 (by decide) (by repeat' first | refine Below.drew ?_ | refine Below.alloc ?_ (by first | exact Nat.le_refl _ | exact BelowOf.le _ | simp) _ | exact Below.refl _ _ | exact BelowOf.h _) (own_below HS.out.own (by repeat' first | refine Below.drew ?_ | refine Below.alloc ?_ (by first | exact Nat.le_refl _ | exact BelowOf.le _ | simp) _ | exact Below.refl _ _ | exact BelowOf.h _)) hg2 HS.out.r
             have hO2 := kept114 (by decide) (by repeat' first | refine Below.drew ?_ | refine Below.alloc ?_ (by first | exact Nat.le_refl _ | exact BelowOf.le _ | simp) _ | exact Below.refl _ _ | exact BelowOf.h _) (own_below HS.out.own (by repeat' first | refine Below.drew ?_ | refine Below.alloc ?_ (by first | exact Nat.le_refl _ | exact BelowOf.le _ | simp) _ | exact Below.refl _ _ | exact BelowOf.h _)) hg2 HS.out.o
             have hB2 : Below w.heap.size w w2 := Below.grown (Below.trans HS.out.b (Below.mono (by repeat' first | refine Below.drew ?_ | refine Below.alloc ?_ (by first | exact Nat.le_refl _ | exact BelowOf.le _ | simp) _ | exact Below.refl _ _ | exact BelowOf.h _) hBo)) hg2 (by first | assumption | (simp; omega)) (fun k hk => ((own_below HS.out.own (by repeat' first | refine Below.drew ?_ | refine Below.alloc ?_ (by first | exact Nat.le_refl _ | exact BelowOf.le _ | simp) _ | exact Below.refl _ _ | exact BelowOf.h _)).lt k hk).1)
             rw [← pairCells_snoc] at ho2
             have oc2 := cell_of_row _ _ 0 _ _ _ hO2
             have of2 : w2.frozen? ⟨w.heap.size + 1 + 1, 0, none⟩ = false := frozen_block hO2
             simp only [List.getElem?_toArray, List.getElem?_cons_zero] at oc2
             have HS2 := Lib.hid hS2; have HR2 := Lib.hid hR2; have HO2 := Lib.hid hO2; have HB2 := Lib.hid hB2; have HOW2 := Lib.hid ho2
             clear hS2 hR2 hO2 hB2 ho2 hg2 hat2))
        all_goals
          go_wp2_with fail
          go_roundg (t.length - (j + 1))
          case measure => omega
          case rel =>
            refine ⟨j + 1, A2, c2, by omega, by go_num, rfl, ?_⟩
            rw [HN.out]
            refine ⟨?_, ?_, ?_, ?_, ?_⟩
            · exact (Below.heap_setCell _ _ _ _ (by show _ ≠ _; simp; omega)).trans HS2.out
            · exact (Below.heap_setCell _ _ _ _ (by show _ ≠ _; simp)).trans HR2.out
            · have := set_block (i := 0) HO2.out (.slice A2 (F.length + 1) c2)
              simpa using this
            · have := own_setCell HOW2.out (fun cs hc => by
                rw [HO2.out] at hc
                injection hc with hc
                injection hc with _ hc
                cases hc) (.slice A2 (F.length + 1) c2) (i := 0)
              simpa using this
            · exact HB2.out.setCell (by show w.heap.size ≤ w.heap.size + 1 + 1; omega) _
    · have hjl : t.take j = t := List.take_of_length_le (by omega)
      have HN : Hid (t.filter (fun p => !(p.1 == key)) = F) := by
        show _ = _
        rw [HF.out, hjl]
      have r0 := cell_of_row _ _ 0 _ _ _ hs.r
      simp only [List.getElem?_toArray, List.getElem?_cons_zero] at r0
      have rf : wo.frozen? ⟨w.heap.size + 1, 0, none⟩ = false := frozen_block hs.r
      have ldO : (loadCellsFrom ⟨w.heap.size + 1 + 1, 0, none⟩ 0 1 #[]).run Try.prog wo = .ok #[.slice oA F.length oc] wo := load_block hs.o rfl
      clear hs hjl
      go_wp2_with fail
      have hR : (wo.setCell ⟨w.heap.size + 1, 0, none⟩ (.slice oA F.length oc)).heap[w.heap.size + 1]? = some (.cells #[.slice oA F.length oc] 114 (0, 0)) := by
        have := set_block (i := 0) HS.out.r (.slice oA F.length oc)
        simpa using this
      refine bodyPost_ret (results_table rfl _ _ rfl hR) rfl ?_
      have hO : (wo.setCell ⟨w.heap.size + 1, 0, none⟩ (.slice oA F.length oc)).ownsRow w.heap.size 58 2 (.slice oA F.length oc) F.length (pairCells F) := own_setCell HS.out.own (fun cs hc => by
        rw [HS.out.r] at hc
        injection hc with hc
        injection hc with _ hc
        cases hc) _
      rw [HN.out]
      exact ⟨oA, oc, rfl, hO, HS.out.b.setCell (by show w.heap.size ≤ w.heap.size + 1; omega) _⟩
end Go.Proofs.Ytpnegacfanbcfaa

/- The document's judge of versions: the version behind an event. -/
namespace Go.Proofs.Ytpnegacfanbcfaa
open Go.RowKit Go.Maps

def stepP (t : List (Int × Int)) (p : Int × Int) : List (Int × Int) := (t.filter fun q => !(q.1 == p.1)) ++ [p]
def behindL (t : List (Int × Int)) (e : Ev) : List (Int × Int) :=
  if e.kind = 5 then e.pairs.foldl stepP t else (t.filter fun q => !(q.1 == e.key)) ++ (if e.has = true then [(e.key, e.new)] else [])
theorem stepP_len (t : List (Int × Int)) (p : Int × Int) : (stepP t p).length ≤ t.length + 1 := by
  have := List.length_filter_le (fun q : Int × Int => !(q.1 == p.1)) t
  simp only [stepP, List.length_append, List.length_singleton]
  omega
theorem foldP_len : ∀ (l : List (Int × Int)) (t : List (Int × Int)), (l.foldl stepP t).length ≤ t.length + l.length
  | [], t => by simp
  | p :: l, t => by
    have h1 := foldP_len l (stepP t p)
    have h2 := stepP_len t p
    simp only [List.foldl_cons, List.length_cons]
    omega
theorem behindL_len (t : List (Int × Int)) (e : Ev) : (behindL t e).length ≤ t.length + e.pairs.length + 1 := by
  unfold behindL
  split
  · have := foldP_len e.pairs t
    omega
  · have := List.length_filter_le (fun q : Int × Int => !(q.1 == e.key)) t
    simp only [List.length_append]
    split <;> simp <;> omega
theorem puts_filter (key : Int) : ∀ (t : List (Int × Int)) (T : Tab) (x : Int), x ≠ key → (T.puts (t.filter fun q => !(q.1 == key))) x = (T.puts t) x
  | [], _, _, _ => rfl
  | p :: t, T, x, hx => by
    by_cases hp : p.1 = key
    · have : ∀ (T1 T2 : Tab) (l : List (Int × Int)), T1 x = T2 x → (T1.puts l) x = (T2.puts l) x := by
        intro T1 T2 l
        induction l generalizing T1 T2 with
        | nil => exact id
        | cons q l ih =>
          intro h
          refine ih (T1.put q.1 q.2) (T2.put q.1 q.2) ?_
          unfold Tab.put
          rw [h]
      rw [List.filter_cons_of_neg (by simp [hp])]
      rw [puts_filter key t T x hx]
      refine this T (T.put p.1 p.2) t ?_
      unfold Tab.put
      rw [if_neg (by rw [hp]; exact hx)]
    · rw [List.filter_cons_of_pos (by simp [hp])]
      exact puts_filter key t (T.put p.1 p.2) x hx
theorem tab_filter (t : List (Int × Int)) (key : Int) : tabOf (t.filter fun q => !(q.1 == key)) = (tabOf t).del key := by
  funext x
  unfold Tab.del
  by_cases hx : x = key
  · subst hx
    rw [if_pos rfl]
    unfold tabOf
    rw [puts_ne]
    · rfl
    · intro p hp
      have := (List.mem_filter.1 hp).2
      simpa using this
  · rw [if_neg hx]
    exact puts_filter key t tab0 x hx
theorem tab_step (t : List (Int × Int)) (p : Int × Int) : tabOf (stepP t p) = (tabOf t).put p.1 p.2 := by
  unfold stepP tabOf
  rw [puts_append]
  show ((tabOf (t.filter fun q => !(q.1 == p.1))).put p.1 p.2) = _
  rw [tab_filter]
  funext x
  unfold Tab.put Tab.del
  split <;> rfl
theorem tab_fold : ∀ (l t : List (Int × Int)), tabOf (l.foldl stepP t) = (tabOf t).puts l
  | [], _ => rfl
  | p :: l, t => by
    show tabOf (l.foldl stepP (stepP t p)) = ((tabOf t).put p.1 p.2).puts l
    rw [tab_fold l, tab_step]
theorem tab_behind (t : List (Int × Int)) (e : Ev) : tabOf (behindL t e) = laysT (tabOf t) e := by
  unfold behindL laysT
  split
  · exact tab_fold _ _
  · split
    · exact tab_step t (e.key, e.new)
    · rw [List.append_nil]
      exact tab_filter t e.key

/-- a table's list, in a block of pairs. -/
structure Row58 (w : World) (A : Option Addr) (T : List (Int × Int)) : Prop where
  row : Row w A (pairCells T)
  nil : A = none → T.length = 0
  ty : ∀ b off, A = some ⟨b, off, none⟩ → ∃ cs fr, w.heap[b]? = some (.cells cs 58 fr)
theorem Row58.below {w w' : World} {A : Option Addr} {T : List (Int × Int)} (h : Row58 w A T) (hb : Below w.heap.size w w') : Row58 w' A T :=
  ⟨h.row.below hb, h.nil, fun b off e => let ⟨cs, fr, hc⟩ := h.ty b off e; ⟨cs, fr, heap_below' hb hc⟩⟩
theorem Row58.kept {w w' : World} {A : Option Addr} {T : List (Int × Int)} (h : Row58 w A T) (hk : ∀ (k : Nat) (cs : Array Value) (fr : Nat × Nat), w.heap[k]? = some (Obj.cells cs 58 fr) → w'.heap[k]? = some (Obj.cells cs 58 fr)) : Row58 w' A T := by
  refine ⟨fun j u hu => ?_, h.nil, fun b off e => let ⟨cs, fr, hc⟩ := h.ty b off e; ⟨cs, fr, hk _ _ _ hc⟩⟩
  obtain ⟨b, off, hA, hc⟩ := h.row j u hu
  obtain ⟨cs, fr, hcs⟩ := h.ty b off hA
  refine ⟨b, off, hA, ?_⟩
  rw [cell_of_row _ _ _ _ _ _ hcs] at hc
  rw [cell_of_row _ _ _ _ _ _ (hk _ _ _ hcs)]
  exact hc
theorem Row58.of_own {w : World} {B n c : Nat} {A : Option Addr} {T : List (Int × Int)} (h : w.ownsRow B 58 2 (.slice A n c) n (pairCells T)) (hn : n = T.length) : Row58 w A T := by
  subst hn
  refine ⟨(row_of_own' h).1, (row_of_own' h).2, fun b off e => ?_⟩
  subst e
  rcases h.2 with ⟨h', _⟩ | ⟨g, cap, cur, e1, _, hg, _⟩
  · cases h'
  · simp only [Value.slice.injEq, Option.some.injEq, Addr.mk.injEq, and_true] at e1
    exact ⟨cur, (0, 0), by rw [e1.1.1]; exact hg⟩
/-- what behind carries: S the table's variable, E the event, R the result. -/
structure BhSt (B S E R : Nat) (e : Ev) (w : World) (T : List (Int × Int)) (A : Option Addr) (c : Nat) (wr : World) : Prop where
  s : wr.heap[S]? = some (.cells #[.slice A T.length c] 114 (0, 0))
  e : wr.heap[E]? = some (.cells e.arr 52 (0, 0))
  r : wr.heap[R]? = some (.cells #[.slice none 0 0] 114 (0, 0))
  row : Row58 wr A T
  b : Below B w wr
structure BhOwn (B S E R : Nat) (e : Ev) (w : World) (T : List (Int × Int)) (A : Option Addr) (c : Nat) (wr : World) : Prop where
  s : wr.heap[S]? = some (.cells #[.slice A T.length c] 114 (0, 0))
  e : wr.heap[E]? = some (.cells e.arr 52 (0, 0))
  r : wr.heap[R]? = some (.cells #[.slice none 0 0] 114 (0, 0))
  own : wr.ownsRow B 58 2 (.slice A T.length c) T.length (pairCells T)
  b : Below B w wr
theorem BhOwn.st {B S E R : Nat} {e : Ev} {w : World} {T : List (Int × Int)} {A : Option Addr} {c : Nat} {wr : World} (h : BhOwn B S E R e w T A c wr) : BhSt B S E R e w T A c wr :=
  ⟨h.s, h.e, h.r, Row58.of_own h.own rfl, h.b⟩
theorem BhSt.set {B S E R : Nat} {e : Ev} {w wr w2 : World} {T F : List (Int × Int)} {A A2 : Option Addr} {c c2 : Nat} (h : BhSt B S E R e w T A c wr) (hS : B ≤ S) (hSE : E ≠ S) (hSR : R ≠ S) (hb : Below wr.heap.size wr w2) (hB : B ≤ wr.heap.size)
    (ho : w2.ownsRow B 58 2 (.slice A2 F.length c2) F.length (pairCells F)) : BhOwn B S E R e w F A2 c2 (w2.setCell ⟨S, 0, none⟩ (.slice A2 F.length c2)) := by
  have hs2 := heap_below' hb h.s
  refine ⟨?_, (Below.heap_setCell _ _ _ _ hSE).trans (heap_below' hb h.e), (Below.heap_setCell _ _ _ _ hSR).trans (heap_below' hb h.r), ?_, (h.b.trans (hb.mono hB)).setCell (by exact hS) _⟩
  · have := set_block (i := 0) hs2 (.slice A2 F.length c2)
    simpa using this
  · exact own_setCell ho (fun cs hc => by
      rw [hs2] at hc
      injection hc with hc
      injection hc with _ hc
      cases hc) _
theorem BhOwn.grow {B S E R : Nat} {e : Ev} {w wr wp w2 : World} {T F : List (Int × Int)} {A A2 : Option Addr} {c c2 : Nat} (h : BhOwn B S E R e w T A c wr) (hS : B ≤ S) (hSE : E ≠ S) (hSR : R ≠ S) (hb : Below wr.heap.size wr wp) (hB : B ≤ wr.heap.size)
    (hg : wp.grownBy w2 (Value.slice A T.length c).ownBlock) (ho : w2.ownsRow B 58 2 (.slice A2 F.length c2) F.length (pairCells F)) : BhOwn B S E R e w F A2 c2 (w2.setCell ⟨S, 0, none⟩ (.slice A2 F.length c2)) ∧ w2.cell? ⟨S, 0, none⟩ = some (.slice A T.length c) ∧ w2.frozen? ⟨S, 0, none⟩ = false := by
  have hop := own_below h.own hb
  have hs2 := kept114 (by decide) hb hop hg h.s
  refine ⟨⟨?_, (Below.heap_setCell _ _ _ _ hSE).trans (kept114 (by decide) hb hop hg h.e), (Below.heap_setCell _ _ _ _ hSR).trans (kept114 (by decide) hb hop hg h.r), ?_, ?_⟩, ?_, frozen_block hs2⟩
  · have := set_block (i := 0) hs2 (.slice A2 F.length c2)
    simpa using this
  · exact own_setCell ho (fun cs hc => by
      rw [hs2] at hc
      injection hc with hc
      injection hc with _ hc
      cases hc) _
  · exact ((h.b.trans (hb.mono hB)).grown hg (Nat.le_trans hB hb.size) (fun k hk => (hop.lt k hk).1)).setCell (by exact hS) _
  · rw [cell_of_row _ _ 0 _ _ _ hs2]
    rfl

theorem row_box {w : World} {A : Option Addr} {T : List (Int × Int)} {R : Nat} {cs : Array Value} {fr : Nat × Nat} (h : Row58 w A T) (hR : w.heap[R]? = some (.cells cs 114 fr)) (u : Value) : Row58 (w.setCell ⟨R, 0, none⟩ u) A T :=
  h.kept fun k cs' fr' hk => (Below.heap_setCell _ _ _ _ (by
    intro e
    have e' : k = R := e
    rw [e', hR] at hk
    injection hk with hk
    injection hk with _ hk
    cases hk)).trans hk

attribute [-go_sem] loadCellsFrom
def BhRel (B S E R : Nat) (t : List (Int × Int)) (e : Ev) (w : World) (k : Nat) (i : Value) (wr : World) : Prop :=
  ∃ (j : Nat) (A : Option Addr) (c : Nat), j ≤ e.pairs.length ∧ i = .int .i64 (j : Int) ∧ k = e.pairs.length - j ∧ BhSt B S E R e w ((e.pairs.take j).foldl stepP t) A c wr
theorem foldP_next {l : List (Int × Int)} {j : Nat} {p : Int × Int} (h : l[j]? = some p) (t : List (Int × Int)) : (l.take (j + 1)).foldl stepP t = stepP ((l.take j).foldl stepP t) p := by
  rw [take_snoc' h, List.foldl_append]
  rfl
set_option maxRecDepth 100000 in
set_option maxHeartbeats 4000000 in
theorem refBehind (t : List (Int × Int)) (A : Option Addr) (c : Nat) (e : Ev) (w : World) (hr : Row58 w A t) (hl : t.length ≤ 3900000) (hp : e.pairs.length ≤ 3000) (hi : e.In w) :
    Calls Try.prog 58 #[.agg #[.slice A t.length c], e.val] w fun r w' => ∃ A' c', r = .returned (.agg #[.slice A' (behindL t e).length c']) ∧ Row58 w' A' (behindL t e) ∧ Below w.heap.size w w' := by
  have HI := Lib.hid hi
  obtain ⟨W, hW⟩ : ∃ W, W = ((w.alloc (.cells #[.slice A t.length c] 114)).alloc (.cells e.arr 52)).alloc (.cells #[.slice none 0 0] 114) := ⟨_, rfl⟩
  have hst : BhSt w.heap.size w.heap.size (w.heap.size + 1) (w.heap.size + 1 + 1) e w t A c W := by
    have e1 := heap_alloc_new w (.cells #[.slice A t.length c] 114)
    have e2 := heap_alloc_new (w.alloc (.cells #[.slice A t.length c] 114)) (.cells e.arr 52)
    have e3 := heap_alloc_new ((w.alloc (.cells #[.slice A t.length c] 114)).alloc (.cells e.arr 52)) (.cells #[.slice none 0 0] 114)
    simp only [World.heap_size_alloc'] at e2 e3
    have hb : Below w.heap.size w W := by
      rw [hW]
      exact (((Below.refl _ _).alloc (Nat.le_refl _) _).alloc (by simp) _).alloc (by simp; omega) _
    refine ⟨?_, ?_, ?_, hr.below hb, hb⟩
    · rw [hW, Below.heap_alloc _ _ _ (by simp; omega), Below.heap_alloc _ _ _ (by simp)]
      exact e1
    · rw [hW, Below.heap_alloc _ _ _ (by simp)]
      exact e2
    · rw [hW]
      exact e3
  have HST := Lib.hid hst
  clear hst hr hi
  simp only [Ev.val]
  simp only [Ev.arr] at hW ⊢
  go_enter Try.func58, Try.ntmps58
  go_upto_region 1 with fail
  rw [← hW]
  clear hW
  have c3 : W.cell? ⟨w.heap.size + 1, 3, none⟩ = some (.int .i64 e.kind) := cell_of_row _ _ 3 _ _ _ HST.out.e
  by_cases hk : e.kind = 5
  · have hk' : (e.kind == 5) = true := by simpa using hk
    have HT : Hid (behindL t e = e.pairs.foldl stepP t) := by show _ = _; unfold behindL; rw [if_pos hk]
    clear hk
    go_wp2_with fail
    clear c3
    go_loopg [5] e.pairs.length (fun k i wr => BhRel w.heap.size w.heap.size (w.heap.size + 1) (w.heap.size + 1 + 1) t e w k i wr)
    case atStart => exact ⟨0, A, c, Nat.zero_le _, rfl, rfl, HST.out⟩
    case round =>
      obtain ⟨j, A1, c1, hj, rfl, rfl, hs⟩ := hrel
      obtain ⟨wo, hwo⟩ : ∃ wo : World, wo = wr := ⟨_, rfl⟩
      subst hwo
      obtain ⟨T1, hT1⟩ : ∃ T1, T1 = (e.pairs.take j).foldl stepP t := ⟨_, rfl⟩
      rw [← hT1] at hs
      have hTl : T1.length ≤ t.length + j := by
        rw [hT1]
        have := foldP_len (e.pairs.take j) t
        simp only [List.length_take] at this
        omega
      have HS := Lib.hid hs; have HT1 := Lib.hid hT1
      have c12 : wo.cell? ⟨w.heap.size + 1, 12, none⟩ = some (.slice e.pA e.pairs.length e.pc) := cell_of_row _ _ 12 _ _ _ hs.e
      clear hT1
      by_cases hlt : j < e.pairs.length
      · obtain ⟨p, hpj⟩ : ∃ p, e.pairs[j]? = some p := ⟨_, List.getElem?_eq_getElem hlt⟩
        obtain ⟨b, off, hA, p0, p1⟩ := row_pair (HI.out.p.below hs.b) hpj
        have HP := Lib.hid hpj
        have HNX : Hid ((e.pairs.take (j + 1)).foldl stepP t = stepP T1 p) := by show _ = _; rw [foldP_next HP.out, HT1.out]
        have HPA := Lib.hid hA
        rw [hA] at c12
        have ldS : (loadCellsFrom ⟨w.heap.size, 0, none⟩ 0 1 #[]).run Try.prog wo.drew = .ok #[.slice A1 T1.length c1] wo.drew := load_block (w := wo.drew) hs.s rfl
        have hj1 : (j : Int) < e.pairs.length := by omega
        have hBo := hs.b.size
        clear hpj hA hs
        go_wp2_with fail
        go_cut [] (fun w9 => ∃ A2 c2, BhOwn w.heap.size w.heap.size (w.heap.size + 1) (w.heap.size + 1 + 1) e w (T1.filter fun q => !(q.1 == p.1)) A2 c2 w9)
        case first =>
          go_region_law (go_simp; go_at_call 73
                         refine (refWithout T1 A1 c1 p.1 _ (by exact HS.out.row.row.below (by repeat' first | refine Below.drew ?_ | refine Below.alloc ?_ (by first | exact Nat.le_refl _ | exact BelowOf.le _ | simp) _ | exact Below.refl _ _ | exact BelowOf.h _)) (by omega)).mono ?_
                         rintro e1 w1 ⟨A2, c2, rfl, ho, hb1⟩
                         have hb2 : Below wo.heap.size wo w1 := Below.trans (by repeat' first | refine Below.drew ?_ | refine Below.alloc ?_ (by first | exact Nat.le_refl _ | exact BelowOf.le _ | simp) _ | exact Below.refl _ _ | exact BelowOf.h _) (hb1.mono (by simp))
                         have sc := cell_below hb2 _ _ (cell_of_row _ _ 0 _ _ _ HS.out.s)
                         have sf : w1.frozen? ⟨w.heap.size, 0, none⟩ = false := frozen_block (heap_below' hb2 HS.out.s)
                         have HB2 := Lib.hid hb2; have HO := Lib.hid (own_base ho (b' := w.heap.size) (by first | assumption | (simp; omega)))
                         clear hb1 hb2 ho)
          all_goals
            go_wp2_with fail
            go_meet
            exact ⟨A2, c2, HS.out.set (Nat.le_refl _) (by omega) (by omega) HB2.out hBo HO.out⟩
        case rest =>
          obtain ⟨A2, c2, h2⟩ := hcut
          have H2 := Lib.hid h2
          clear h2 c12 p0 p1 ldS
          obtain ⟨T2, hT2⟩ : ∃ T2, T2 = T1.filter fun q => !(q.1 == p.1) := ⟨_, rfl⟩
          have hT2l : T2.length ≤ T1.length := by rw [hT2]; exact List.length_filter_le _ _
          have HT2 := Lib.hid hT2
          have hh2 : BhOwn w.heap.size w.heap.size (w.heap.size + 1) (w.heap.size + 1 + 1) e w T2 A2 c2 wc := by rw [hT2]; exact H2.out
          clear hT2
          have s0 : wc.cell? ⟨w.heap.size, 0, none⟩ = some (.slice A2 T2.length c2) := cell_of_row _ _ 0 _ _ _ hh2.s
          have c12 : wc.cell? ⟨w.heap.size + 1, 12, none⟩ = some (.slice e.pA e.pairs.length e.pc) := cell_of_row _ _ 12 _ _ _ hh2.e
          rw [HPA.out] at c12
          have hld : (loadCellsFrom ⟨b, off + j * 2, none⟩ 0 2 #[]).run Try.prog wc.drew = .ok #[.int .i64 p.1, .int .i64 p.2] wc.drew := by
            obtain ⟨b', off', hA', hld'⟩ := load_elem (w := wc.drew) (fun p : Int × Int => [Value.int .i64 p.1, Value.int .i64 p.2]) 2 (fun _ => rfl) (by decide) (HI.out.p.below hh2.b.drew) HP.out
            rw [HPA.out] at hA'
            injection hA' with hA'
            injection hA' with e4 e5
            subst e4 e5
            exact hld'
          have hBc := hh2.b.size
          have hSl : w.heap.size < wc.heap.size := (Array.getElem?_eq_some_iff.1 hh2.s).1
          have hEl : w.heap.size + 1 < wc.heap.size := (Array.getElem?_eq_some_iff.1 hh2.e).1
          have HH2 := Lib.hid hh2
          clear hh2 H2
          go_wp2_with fail
          go_region_law (first
            | (refine step_append_is rfl (.tmp 25) (.tmp 31) rfl elemPair rfl (base := w.heap.size) (n := T2.length) (xs := pairCells T2) (by exact own_below HH2.out.own (by repeat' first | refine Below.drew ?_ | refine Below.alloc ?_ (by first | exact Nat.le_refl _ | exact BelowOf.le _ | simp) _ | exact Below.refl _ _ | exact BelowOf.h _)) _ 1 _ [.int .i64 p.1, .int .i64 p.2] rfl (by first | exact row_new _ _ _ | exact (row_new _ _ _).below (Below.refl _ _).drew) rfl (by intro u hu; simp only [List.mem_cons, List.not_mem_nil, or_false] at hu; rcases hu with rfl | rfl <;> rfl) (by unfold maxLen; omega) (by omega) (by first | assumption | (simp; omega)) (fun e => by cases e) ?_
               intro v2 w2 ho2 hg2 hat2
               obtain ⟨A3, c3, rfl, _, _⟩ := row_of_own ho2
               rw [← pairCells_snoc] at ho2
               obtain ⟨hfin, sc, sf⟩ := HH2.out.grow (F := T2 ++ [p]) (A2 := A3) (c2 := c3) (Nat.le_refl _) (by omega) (by omega) (by repeat' first | refine Below.drew ?_ | refine Below.alloc ?_ (by first | exact Nat.le_refl _ | exact BelowOf.le _ | simp) _ | exact Below.refl _ _ | exact BelowOf.h _) hBc hg2 (by simpa using ho2)
               have HFIN := Lib.hid hfin
               clear hfin ho2 hg2 hat2))
          all_goals
            go_wp2_with fail
            go_roundg (e.pairs.length - (j + 1))
            case measure => omega
            case rel =>
              refine ⟨j + 1, A3, c3, by omega, by go_num, rfl, ?_⟩
              rw [HNX.out]
              have h := HFIN.out
              rw [show stepP T1 p = T2 ++ [p] by rw [HT2.out]; rfl]
              have h2 := h.st
              simpa using h2
      · have hjl : e.pairs.take j = e.pairs := List.take_of_length_le (by omega)
        have HN : Hid (behindL t e = T1) := by show _ = _; rw [HT.out, HT1.out, hjl]
        have ldS : (loadCellsFrom ⟨w.heap.size, 0, none⟩ 0 1 #[]).run Try.prog wo = .ok #[.slice A1 T1.length c1] wo := load_block hs.s rfl
        have r0 := cell_of_row _ _ 0 _ _ _ hs.r
        simp only [List.getElem?_toArray, List.getElem?_cons_zero] at r0
        have rf : wo.frozen? ⟨w.heap.size + 1 + 1, 0, none⟩ = false := frozen_block hs.r
        clear hs hjl
        go_wp2_with fail
        have hR : (wo.setCell ⟨w.heap.size + 1 + 1, 0, none⟩ (.slice A1 T1.length c1)).heap[w.heap.size + 1 + 1]? = some (.cells #[.slice A1 T1.length c1] 114 (0, 0)) := by
          have := set_block (i := 0) HS.out.r (.slice A1 T1.length c1)
          simpa using this
        refine bodyPost_ret (results_table rfl _ _ rfl hR) rfl ?_
        rw [HN.out]
        exact ⟨A1, c1, rfl, row_box HS.out.row HS.out.r _, HS.out.b.setCell (by show w.heap.size ≤ w.heap.size + 1 + 1; omega) _⟩
  · have hk' : (e.kind == 5) = false := by simpa using hk
    have HT : Hid (behindL t e = (t.filter fun q => !(q.1 == e.key)) ++ (if e.has = true then [(e.key, e.new)] else [])) := by show _ = _; unfold behindL; rw [if_neg hk]
    have ldS : (loadCellsFrom ⟨w.heap.size, 0, none⟩ 0 1 #[]).run Try.prog W = .ok #[.slice A t.length c] W := load_block HST.out.s rfl
    have c5 : W.cell? ⟨w.heap.size + 1, 5, none⟩ = some (.int .i64 e.key) := cell_of_row _ _ 5 _ _ _ HST.out.e
    have hB := HST.out.b.size
    clear hk
    obtain ⟨T2, hT2⟩ : ∃ T2, T2 = t.filter fun q => !(q.1 == e.key) := ⟨_, rfl⟩
    have hT2l : T2.length ≤ t.length := by rw [hT2]; exact List.length_filter_le _ _
    have HT2 := Lib.hid hT2
    clear hT2
    go_upto_region 9 with (go_at_call 73
                           refine (refWithout t A c e.key _ HST.out.row.row (by omega)).mono ?_
                           rintro e1 w1 ⟨A2, c2, rfl, ho, hb1⟩
                           rw [← HT2.out] at ho ⊢
                           have sc := cell_below hb1 _ _ (cell_of_row _ _ 0 _ _ _ HST.out.s)
                           have sf : w1.frozen? ⟨w.heap.size, 0, none⟩ = false := frozen_block (heap_below' hb1 HST.out.s)
                           have HB2 := Lib.hid hb1; have HO := Lib.hid (own_base ho (b' := w.heap.size) hB)
                           clear hb1 ho)
    have ho1 := HST.out.set (Nat.le_refl _) (by omega) (by omega) HB2.out hB HO.out
    obtain ⟨W1, hW1⟩ : ∃ W1, W1 = w1.setCell ⟨w.heap.size, 0, none⟩ (.slice A2 T2.length c2) := ⟨_, rfl⟩
    rw [← hW1] at ho1 ⊢
    have d9 : W1.cell? ⟨w.heap.size + 1, 9, none⟩ = some (.bool e.has) := cell_of_row _ _ 9 _ _ _ ho1.e
    have d5 : W1.cell? ⟨w.heap.size + 1, 5, none⟩ = some (.int .i64 e.key) := cell_of_row _ _ 5 _ _ _ ho1.e
    have d10 : W1.cell? ⟨w.heap.size + 1, 10, none⟩ = some (.int .i64 e.new) := cell_of_row _ _ 10 _ _ _ ho1.e
    have s0 : W1.cell? ⟨w.heap.size, 0, none⟩ = some (.slice A2 T2.length c2) := cell_of_row _ _ 0 _ _ _ ho1.s
    have ld1 : (loadCellsFrom ⟨w.heap.size, 0, none⟩ 0 1 #[]).run Try.prog W1 = .ok #[.slice A2 T2.length c2] W1 := load_block ho1.s rfl
    have r0 : W1.cell? ⟨w.heap.size + 1 + 1, 0, none⟩ = some (.slice none 0 0) := cell_of_row _ _ 0 _ _ _ ho1.r
    have rf : W1.frozen? ⟨w.heap.size + 1 + 1, 0, none⟩ = false := frozen_block ho1.r
    have hB1 := ho1.b.size
    have HO1 := Lib.hid ho1
    clear hW1 ho1 ldS c5 c3
    cases hh : e.has with
    | false =>
      have HN : Hid (behindL t e = T2) := by show _ = _; rw [HT.out, hh, HT2.out]; simp
      rw [hh] at d9
      clear hh
      go_wp2_with fail
      have hR : (W1.setCell ⟨w.heap.size + 1 + 1, 0, none⟩ (.slice A2 T2.length c2)).heap[w.heap.size + 1 + 1]? = some (.cells #[.slice A2 T2.length c2] 114 (0, 0)) := by
        have := set_block (i := 0) HO1.out.r (.slice A2 T2.length c2)
        simpa using this
      refine bodyPost_ret (results_table rfl _ _ rfl hR) rfl ?_
      rw [HN.out]
      exact ⟨A2, c2, rfl, row_box HO1.out.st.row HO1.out.r _, HO1.out.b.setCell (by show w.heap.size ≤ w.heap.size + 1 + 1; omega) _⟩
    | true =>
      have HN : Hid (behindL t e = T2 ++ [(e.key, e.new)]) := by show _ = _; rw [HT.out, hh, HT2.out]; simp
      rw [hh] at d9
      clear hh
      go_wp2_with (at_builtin; refine wpList_append_is rfl (.tmp 42) (.tmp 48) rfl elemPair rfl (base := w.heap.size) (n := T2.length) (xs := pairCells T2) (by exact own_below HO1.out.own (by repeat' first | refine Below.drew ?_ | refine Below.alloc ?_ (by first | exact Nat.le_refl _ | exact BelowOf.le _ | simp) _ | exact Below.refl _ _ | exact BelowOf.h _)) _ 1 _ [.int .i64 e.key, .int .i64 e.new] rfl (by first | exact row_new _ _ _ | exact (row_new _ _ _).below (Below.refl _ _).drew) rfl (by intro u hu; simp only [List.mem_cons, List.not_mem_nil, or_false] at hu; rcases hu with rfl | rfl <;> rfl) (by unfold maxLen; omega) (by omega) (by first | assumption | (simp; omega)) (fun e => by cases e) ?_
                   intro v2 w2 ho2 hg2 hat2
                   obtain ⟨A3, c3, rfl, _, _⟩ := row_of_own ho2
                   have ho2' : w2.ownsRow w.heap.size 58 2 (.slice A3 (T2 ++ [(e.key, e.new)]).length c3) (T2 ++ [(e.key, e.new)]).length (pairCells (T2 ++ [(e.key, e.new)])) := by
                     rw [pairCells_snoc]
                     simpa using ho2
                   obtain ⟨hfin, sc, sf2⟩ := HO1.out.grow (F := T2 ++ [(e.key, e.new)]) (A2 := A3) (c2 := c3) (Nat.le_refl _) (by omega) (by omega) (by repeat' first | refine Below.drew ?_ | refine Below.alloc ?_ (by first | exact Nat.le_refl _ | exact BelowOf.le _ | simp) _ | exact Below.refl _ _ | exact BelowOf.h _) hB1 hg2 ho2'
                   simp only [List.length_append, List.length_singleton] at hfin
                   obtain ⟨W3, hW3⟩ : ∃ W3, W3 = w2.setCell ⟨w.heap.size, 0, none⟩ (.slice A3 (T2.length + 1) c3) := ⟨_, rfl⟩
                   have hs3 := hfin.s
                   rw [← hW3] at hfin hs3
                   have ld3 : (loadCellsFrom ⟨w.heap.size, 0, none⟩ 0 1 #[]).run Try.prog W3 = .ok #[.slice A3 (T2 ++ [(e.key, e.new)]).length c3] W3 := load_block hs3 rfl
                   have r3 : W3.cell? ⟨w.heap.size + 1 + 1, 0, none⟩ = some (.slice none 0 0) := cell_of_row _ _ 0 _ _ _ hfin.r
                   have rf3 : W3.frozen? ⟨w.heap.size + 1 + 1, 0, none⟩ = false := frozen_block hfin.r
                   simp only [List.length_append, List.length_singleton] at ld3
                   rw [hW3] at ld3 r3 rf3
                   have HFIN := Lib.hid hfin; have HW3 := Lib.hid hW3
                   clear hfin ho2 ho2' hg2 hat2 hs3 hW3)
      rw [← HW3.out]
      have hlen : (T2 ++ [(e.key, e.new)]).length = T2.length + 1 := by simp
      have hR : (W3.setCell ⟨w.heap.size + 1 + 1, 0, none⟩ (.slice A3 (T2.length + 1) c3)).heap[w.heap.size + 1 + 1]? = some (.cells #[.slice A3 (T2.length + 1) c3] 114 (0, 0)) := by
        have := set_block (i := 0) HFIN.out.r (.slice A3 (T2.length + 1) c3)
        simpa using this
      refine bodyPost_ret (results_table rfl _ _ rfl hR) rfl ?_
      rw [HN.out, hlen]
      exact ⟨A3, c3, rfl, row_box HFIN.out.st.row HFIN.out.r _, HFIN.out.b.setCell (by show w.heap.size ≤ w.heap.size + 1 + 1; omega) _⟩
end Go.Proofs.Ytpnegacfanbcfaa
