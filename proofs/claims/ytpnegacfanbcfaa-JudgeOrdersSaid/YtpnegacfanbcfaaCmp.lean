/- Blames compared: cmp.Compare, cmp.Or, the closure of judge.Versions. No condition. -/
import Derived.Test.YtpnegacfanbcfaaHist
import Derived.Test.YtpnegacfanbcfaaShelf
import Derived.StillTailTactics
namespace Go.Proofs.Ytpnegacfanbcfaa
open Go.RowKit Go.Maps
open Go.Sort (grow SWO)

theorem isNaNInt (x : Int) (w : World) : Calls Try.prog 72 #[.int .i64 x] w fun e w' => e = .returned (.bool false) ∧ w' = w := by
  go_enter Try.func72, Try.ntmps72
  go_wp2
  go_ret
  exact ⟨ret_bool (by simp), rfl⟩
theorem compareInt' (x y : Int) (w : World) : Calls Try.prog 46 #[.int .i64 x, .int .i64 y] w fun e w' => e = .returned (.int .i64 (Lib.compareInt x y)) ∧ w' = w := by
  go_enter Try.func46, Try.ntmps46
  go_wp2_with (go_at_call 72; refine (isNaNInt _ _).mono ?_; rintro e1 w1 ⟨rfl, rfl⟩)
  all_goals
    go_ret
    refine ⟨ret_int ?_, rfl⟩
    unfold Lib.compareInt
    grind

def orL : List Int → Int
  | [] => 0
  | x :: l => if x = 0 then orL l else x
def OrRel (l : List Int) (w : World) (k : Nat) (i : Value) (wr : World) : Prop :=
  ∃ j : Nat, j ≤ l.length ∧ i = .int .i64 j ∧ k = l.length - j ∧ orL l = orL (l.drop j) ∧ w = wr
set_option maxRecDepth 20000 in
theorem cmpOr (l : List Int) (A : Option Addr) (c : Nat) (w : World) (hl : l.length ≤ 3000) (hr : Row w A (intsZ l)) :
    Calls Try.prog 45 #[.slice A l.length c] w fun e w' => e = .returned (.int .i64 (orL l)) ∧ w' = w := by
  have HR := Lib.hid hr; clear hr
  go_enter Try.func45, Try.ntmps45
  go_wp2_with fail
  go_loopg [8] l.length (fun k i wr => OrRel l w k i wr)
  case atStart => exact ⟨0, Nat.zero_le _, rfl, rfl, rfl, rfl⟩
  case round =>
    obtain ⟨j, hj, rfl, rfl, hor, rfl⟩ := hrel
    have HOR := Lib.hid hor
    clear hor
    by_cases hlt : j < l.length
    · obtain ⟨x, hx⟩ : ∃ x, l[j]? = some x := ⟨_, List.getElem?_eq_getElem hlt⟩
      obtain ⟨b, off, hA, hcell⟩ := HR.out j (.int .i64 x) (by simp [intsZ, hx])
      have hd : l.drop j = x :: l.drop (j + 1) := by
        rw [List.drop_eq_getElem_cons hlt]
        congr 1
        have := (List.getElem?_eq_some_iff.1 hx).2
        exact this
      have HD := Lib.hid hd
      clear hx hd
      subst hA
      by_cases hc : x = 0
      · have hc' : (x != 0) = false := by simp [hc]
        have HC := Lib.hid hc
        clear hc
        go_wp2_with fail
        go_roundg (l.length - (j + 1))
        case measure => omega
        case rel => exact ⟨j + 1, by omega, by go_num, rfl, by rw [HOR.out, HD.out, orL, if_pos HC.out], rfl⟩
      · have hc' : (x != 0) = true := by simp [hc]
        have HC := Lib.hid hc
        clear hc
        go_wp2_with fail
        go_ret
        exact ⟨ret_int (by rw [HOR.out, HD.out, orL, if_neg HC.out]), rfl⟩
    · have HD : Hid (l.drop j = []) := List.drop_eq_nil_of_le (by omega)
      go_wp2_with fail
      go_ret
      exact ⟨ret_int (by rw [HOR.out, HD.out]; rfl), rfl⟩

/-- the order of blames. -/
def cfB (x y : Blm) : Int := orL [Lib.compareInt x.at_ y.at_, Lib.compareInt x.wit y.wit, Lib.compareInt x.why y.why]
set_option maxRecDepth 20000 in
set_option maxHeartbeats 400000 in
theorem closureB (x y : Blm) (W : World) : Calls Try.prog 44 #[.agg x.cells.toArray, .agg y.cells.toArray] W fun e w' => e = .returned (.int .i64 (cfB x y)) ∧ ∃ q os', w' = grow (W.drewN q) os' := by
  have hcx := fun V => compareInt' x.at_ y.at_ V
  have hcy := fun V => compareInt' x.wit y.wit V
  have hcz := fun V => compareInt' x.why y.why V
  have HCF : Hid (cfB x y = orL [Lib.compareInt x.at_ y.at_, Lib.compareInt x.wit y.wit, Lib.compareInt x.why y.why]) := rfl
  generalize Lib.compareInt x.at_ y.at_ = c1 at *
  generalize Lib.compareInt x.wit y.wit = c2 at *
  generalize Lib.compareInt x.why y.why = c3 at *
  have HX := Lib.hid hcx; have HY := Lib.hid hcy; have HZ := Lib.hid hcz
  clear hcx hcy hcz
  simp only [Blm.cells]
  go_enter Try.func44, Try.ntmps44
  go_wp2_with fail
  refine wp_region_still_tail 15 (by kernel_rfl) (by kernel_rfl) ?_
  simp only [List.take_succ_cons, List.take_zero, List.drop_succ_cons, List.drop_zero]
  change wpStill _ _ (World.drew _) (fun a' => wpList _ _ _ _ a' (World.drew _)) _ _
  iterate 4 still_step
  still_call (HX.out _)
  iterate 4 still_step
  still_call (HY.out _)
  iterate 4 still_step
  still_call (HZ.out _)
  refine wpStill_nil ?_
  have hrow : Row (((W.alloc (.cells #[.int .i64 x.at_, .int .i64 x.wit, .int .i64 x.why] 55)).alloc (.cells #[.int .i64 y.at_, .int .i64 y.wit, .int .i64 y.why] 55)).alloc (.cells #[.int .i64 c1, .int .i64 c2, .int .i64 c3] 3)).drew (some ⟨W.heap.size + 1 + 1, 0, none⟩) (intsZ [c1, c2, c3]) := by
    have := row_new ((W.alloc (.cells #[.int .i64 x.at_, .int .i64 x.wit, .int .i64 x.why] 55)).alloc (.cells #[.int .i64 y.at_, .int .i64 y.wit, .int .i64 y.why] 55)) (intsZ [c1, c2, c3]) 3
    rw [World.heap_size_alloc', World.heap_size_alloc'] at this
    exact this
  have HROW := Lib.hid hrow
  clear hrow
  go_wp2_with (go_at_call 45; refine (cmpOr [c1, c2, c3] _ 3 _ (by simp) HROW.out).mono ?_; rintro e1 w1 ⟨rfl, rfl⟩)
  go_ret
  refine ⟨by rw [HCF.out]; rfl, 1, #[.cells #[.int .i64 x.at_, .int .i64 x.wit, .int .i64 x.why] 55, .cells #[.int .i64 y.at_, .int .i64 y.wit, .int .i64 y.why] 55, .cells #[.int .i64 c1, .int .i64 c2, .int .i64 c3] 3], ?_⟩
  simp only [grow, World.drew, World.drewN, World.alloc]
  congr 1
instance : Inhabited Blm := ⟨⟨0, 0, 0⟩⟩
theorem cmpLaysB (blk off size : Nat) (w : World) : CmpLays Try.prog 44 #[] (fun b => Blm.cells b) 3 cfB blk off size w :=
  fun _ _ _ _ x y => closureB x y _

def ltB (x y : Blm) : Prop := x.at_ < y.at_ ∨ (x.at_ = y.at_ ∧ (x.wit < y.wit ∨ (x.wit = y.wit ∧ x.why < y.why)))
instance (x y : Blm) : Decidable (ltB x y) := by unfold ltB; infer_instance
theorem cfB_neg (x y : Blm) : cfB x y < 0 ↔ ltB x y := by
  unfold cfB ltB
  simp only [orL, Lib.compareInt]
  rcases Int.lt_trichotomy x.at_ y.at_ with h | h | h
  · simp [h]
  · rcases Int.lt_trichotomy x.wit y.wit with h2 | h2 | h2
    · simp [h, h2]
    · rcases Int.lt_trichotomy x.why y.why with h3 | h3 | h3
      · simp [h, h2, h3]
      · simp [h, h2, h3]
      · have h4 : ¬ x.why < y.why := by omega
        simp [h, h2, h3, h4]
    · have h4 : ¬ x.wit < y.wit := by omega
      have h5 : ¬ x.wit = y.wit := by omega
      simp [h, h2, h4, h5]
  · have h4 : ¬ x.at_ < y.at_ := by omega
    have h5 : ¬ x.at_ = y.at_ := by omega
    simp [h, h4, h5]
theorem ltOfB (x y : Blm) : ltOf cfB x y = decide (ltB x y) := by
  unfold ltOf
  exact decide_eq_decide.2 (cfB_neg x y)
theorem swoB : SWO (ltOf cfB) where
  irrefl x := by rw [ltOfB]; simp [ltB]
  trans x y z h1 h2 := by
    rw [ltOfB, decide_eq_true_eq] at *
    unfold ltB at *
    omega
  ntrans x y z h1 h2 := by
    rw [ltOfB, decide_eq_false_iff_not] at *
    unfold ltB at *
    omega
theorem totB (x y : Blm) (h1 : ltOf cfB x y = false) (h2 : ltOf cfB y x = false) : x = y := by
  rw [ltOfB, decide_eq_false_iff_not] at *
  unfold ltB at *
  have e1 : x.at_ = y.at_ := by omega
  have e2 : x.wit = y.wit := by omega
  have e3 : x.why = y.why := by omega
  cases x
  cases y
  simp_all
def leB (x y : Blm) : Bool := !decide (ltB y x)
def sortB (l : List Blm) : List Blm := l.mergeSort leB
theorem geB : (fun x y : Blm => !ltOf cfB y x) = leB := by
  funext x y
  rw [ltOfB]
  rfl
end Go.Proofs.Ytpnegacfanbcfaa
