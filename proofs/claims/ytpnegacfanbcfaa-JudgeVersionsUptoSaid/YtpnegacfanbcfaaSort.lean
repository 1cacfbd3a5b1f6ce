/- Blames compared: cmp.Compare, cmp.Or, the closure of judge.Versions. No condition. -/
import Derived.Test.YtpnegacfanbcfaaHist
import Derived.Test.YtpnegacfanbcfaaShelf
import Derived.StillTailTactics
namespace Go.Proofs.Ytpnegacfanbcfaa
open Go.RowKit Go.Maps
open Go.Sort (grow SWO)

theorem isNaNInt (x : Int) (w : World) : Calls Try.prog 72 #[.int .i64 x] w fun e w' => e = .returned (.bool false) ∧ w' = w := by
  go_enter Try.func72, Try.ntmps72
  go_wp2
  go_ret
  exact ⟨ret_bool (by simp), rfl⟩
theorem compareInt' (x y : Int) (w : World) : Calls Try.prog 46 #[.int .i64 x, .int .i64 y] w fun e w' => e = .returned (.int .i64 (Lib.compareInt x y)) ∧ w' = w := by
  go_enter Try.func46, Try.ntmps46
  go_wp2_with (go_at_call 72; refine (isNaNInt _ _).mono ?_; rintro e1 w1 ⟨rfl, rfl⟩)
  all_goals
    go_ret
    refine ⟨ret_int ?_, rfl⟩
    unfold Lib.compareInt
    grind

def orL : List Int → Int
  | [] => 0
  | x :: l => if x = 0 then orL l else x
def OrRel (l : List Int) (w : World) (k : Nat) (i : Value) (wr : World) : Prop :=
  ∃ j : Nat, j ≤ l.length ∧ i = .int .i64 j ∧ k = l.length - j ∧ orL l = orL (l.drop j) ∧ w = wr
set_option maxRecDepth 20000 in
theorem cmpOr (l : List Int) (A : Option Addr) (c : Nat) (w : World) (hl : l.length ≤ 3000) (hr : Row w A (intsZ l)) :
    Calls Try.prog 45 #[.slice A l.length c] w fun e w' => e = .returned (.int .i64 (orL l)) ∧ w' = w := by
  have HR := Lib.hid hr; clear hr
  go_enter Try.func45, Try.ntmps45
  go_wp2_with fail
  go_loopg [8] l.length (fun k i wr => OrRel l w k i wr)
  case atStart => exact ⟨0, Nat.zero_le _, rfl, rfl, rfl, rfl⟩
  case round =>
    obtain ⟨j, hj, rfl, rfl, hor, rfl⟩ := hrel
    have HOR := Lib.hid hor
    clear hor
    by_cases hlt : j < l.length
    · obtain ⟨x, hx⟩ : ∃ x, l[j]? = some x := ⟨_, List.getElem?_eq_getElem hlt⟩
      obtain ⟨b, off, hA, hcell⟩ := HR.out j (.int .i64 x) (by simp [intsZ, hx])
      have hd : l.drop j = x :: l.drop (j + 1) := by
        rw [List.drop_eq_getElem_cons hlt]
        congr 1
        have := (List.getElem?_eq_some_iff.1 hx).2
        exact this
      have HD := Lib.hid hd
      clear hx hd
      subst hA
      by_cases hc : x = 0
      · have hc' : (x != 0) = false := by simp [hc]
        have HC := Lib.hid hc
        clear hc
        go_wp2_with fail
        go_roundg (l.length - (j + 1))
        case measure => omega
        case rel => exact ⟨j + 1, by omega, by go_num, rfl, by rw [HOR.out, HD.out, orL, if_pos HC.out], rfl⟩
      · have hc' : (x != 0) = true := by simp [hc]
        have HC := Lib.hid hc
        clear hc
        go_wp2_with fail
        go_ret
        exact ⟨ret_int (by rw [HOR.out, HD.out, orL, if_neg HC.out]), rfl⟩
    · have HD : Hid (l.drop j = []) := List.drop_eq_nil_of_le (by omega)
      go_wp2_with fail
      go_ret
      exact ⟨ret_int (by rw [HOR.out, HD.out]; rfl), rfl⟩

/-- the order of blames. -/
def cfB (x y : Blm) : Int := orL [Lib.compareInt x.at_ y.at_, Lib.compareInt x.wit y.wit, Lib.compareInt x.why y.why]
set_option maxRecDepth 20000 in
set_option maxHeartbeats 400000 in
theorem closureB (x y : Blm) (W : World) : Calls Try.prog 44 #[.agg x.cells.toArray, .agg y.cells.toArray] W fun e w' => e = .returned (.int .i64 (cfB x y)) ∧ ∃ q os', w' = grow (W.drewN q) os' := by
  have hcx := fun V => compareInt' x.at_ y.at_ V
  have hcy := fun V => compareInt' x.wit y.wit V
  have hcz := fun V => compareInt' x.why y.why V
  have HCF : Hid (cfB x y = orL [Lib.compareInt x.at_ y.at_, Lib.compareInt x.wit y.wit, Lib.compareInt x.why y.why]) := rfl
  generalize Lib.compareInt x.at_ y.at_ = c1 at *
  generalize Lib.compareInt x.wit y.wit = c2 at *
  generalize Lib.compareInt x.why y.why = c3 at *
  have HX := Lib.hid hcx; have HY := Lib.hid hcy; have HZ := Lib.hid hcz
  clear hcx hcy hcz
  simp only [Blm.cells]
  go_enter Try.func44, Try.ntmps44
  go_wp2_with fail
  refine wp_region_still_tail 15 (by kernel_rfl) (by kernel_rfl) ?_
  simp only [List.take_succ_cons, List.take_zero, List.drop_succ_cons, List.drop_zero]
  change wpStill _ _ (World.drew _) (fun a' => wpList _ _ _ _ a' (World.drew _)) _ _
  iterate 4 still_step
  still_call (HX.out _)
  iterate 4 still_step
  still_call (HY.out _)
  iterate 4 still_step
  still_call (HZ.out _)
  refine wpStill_nil ?_
  have hrow : Row (((W.alloc (.cells #[.int .i64 x.at_, .int .i64 x.wit, .int .i64 x.why] 55)).alloc (.cells #[.int .i64 y.at_, .int .i64 y.wit, .int .i64 y.why] 55)).alloc (.cells #[.int .i64 c1, .int .i64 c2, .int .i64 c3] 3)).drew (some ⟨W.heap.size + 1 + 1, 0, none⟩) (intsZ [c1, c2, c3]) := by
    have := row_new ((W.alloc (.cells #[.int .i64 x.at_, .int .i64 x.wit, .int .i64 x.why] 55)).alloc (.cells #[.int .i64 y.at_, .int .i64 y.wit, .int .i64 y.why] 55)) (intsZ [c1, c2, c3]) 3
    rw [World.heap_size_alloc', World.heap_size_alloc'] at this
    exact this
  have HROW := Lib.hid hrow
  clear hrow
  go_wp2_with (go_at_call 45; refine (cmpOr [c1, c2, c3] _ 3 _ (by simp) HROW.out).mono ?_; rintro e1 w1 ⟨rfl, rfl⟩)
  go_ret
  refine ⟨by rw [HCF.out]; rfl, 1, #[.cells #[.int .i64 x.at_, .int .i64 x.wit, .int .i64 x.why] 55, .cells #[.int .i64 y.at_, .int .i64 y.wit, .int .i64 y.why] 55, .cells #[.int .i64 c1, .int .i64 c2, .int .i64 c3] 3], ?_⟩
  simp only [grow, World.drew, World.drewN, World.alloc]
  congr 1
instance : Inhabited Blm := ⟨⟨0, 0, 0⟩⟩
theorem cmpLaysB (blk off size : Nat) (w : World) : CmpLays Try.prog 44 #[] (fun b => Blm.cells b) 3 cfB blk off size w :=
  fun _ _ _ _ x y => closureB x y _

def ltB (x y : Blm) : Prop := x.at_ < y.at_ ∨ (x.at_ = y.at_ ∧ (x.wit < y.wit ∨ (x.wit = y.wit ∧ x.why < y.why)))
instance (x y : Blm) : Decidable (ltB x y) := by unfold ltB; infer_instance
theorem cfB_neg (x y : Blm) : cfB x y < 0 ↔ ltB x y := by
  unfold cfB ltB
  simp only [orL, Lib.compareInt]
  rcases Int.lt_trichotomy x.at_ y.at_ with h | h | h
  · simp [h]
  · rcases Int.lt_trichotomy x.wit y.wit with h2 | h2 | h2
    · simp [h, h2]
    · rcases Int.lt_trichotomy x.why y.why with h3 | h3 | h3
      · simp [h, h2, h3]
      · simp [h, h2, h3]
      · have h4 : ¬ x.why < y.why := by omega
        simp [h, h2, h3, h4]
    · have h4 : ¬ x.wit < y.wit := by omega
      have h5 : ¬ x.wit = y.wit := by omega
      simp [h, h2, h4, h5]
  · have h4 : ¬ x.at_ < y.at_ := by omega
    have h5 : ¬ x.at_ = y.at_ := by omega
    simp [h, h4, h5]
theorem ltOfB (x y : Blm) : ltOf cfB x y = decide (ltB x y) := by
  unfold ltOf
  exact decide_eq_decide.2 (cfB_neg x y)
theorem swoB : SWO (ltOf cfB) where
  irrefl x := by rw [ltOfB]; simp [ltB]
  trans x y z h1 h2 := by
    rw [ltOfB, decide_eq_true_eq] at *
    unfold ltB at *
    omega
  ntrans x y z h1 h2 := by
    rw [ltOfB, decide_eq_false_iff_not] at *
    unfold ltB at *
    omega
theorem totB (x y : Blm) (h1 : ltOf cfB x y = false) (h2 : ltOf cfB y x = false) : x = y := by
  rw [ltOfB, decide_eq_false_iff_not] at *
  unfold ltB at *
  have e1 : x.at_ = y.at_ := by omega
  have e2 : x.wit = y.wit := by omega
  have e3 : x.why = y.why := by omega
  cases x
  cases y
  simp_all
def leB (x y : Blm) : Bool := !decide (ltB y x)
def sortB (l : List Blm) : List Blm := l.mergeSort leB
theorem geB : (fun x y : Blm => !ltOf cfB y x) = leB := by
  funext x y
  rw [ltOfB]
  rfl
end Go.Proofs.Ytpnegacfanbcfaa

/- slices.SortFunc at the judge's blames: the row holds the sorted list. -/
namespace Go.Proofs.Ytpnegacfanbcfaa
open Go.RowKit Go.Maps
open Go.Sort (grow flatK HoldsK putRowK putRow)

theorem blCells_get (l : List Blm) (k j : Nat) (x : Blm) (hx : l[k]? = some x) (hj : j < 3) : (blCells l)[k * 3 + j]? = x.cells[j]? := flatMap_get Blm.cells 3 (fun _ => rfl) l k x hx j hj
theorem flat_blCells (l : List Blm) : flatK (fun b => Blm.cells b) 3 l.toArray = (blCells l).toArray := by
  have hs : (flatK (fun b => Blm.cells b) 3 l.toArray).size = (blCells l).toArray.size := by simp [blCells_length]
  refine Go.Sort.ext_get! hs fun t ht => ?_
  have ht' : t < l.length * 3 := by simpa using ht
  rw [Go.Sort.get_flatK _ _ _ t (by simpa using ht')]
  have hk : t / 3 < l.length := by omega
  have hx : l[t / 3]? = some l[t / 3] := List.getElem?_eq_getElem hk
  have hg := blCells_get l (t / 3) (t % 3) _ hx (by omega)
  have e : t / 3 * 3 + t % 3 = t := by omega
  rw [e] at hg
  have h1 : (l.toArray[t / 3]!) = l[t / 3] := by simp [hk]
  have hc : (l[t / 3] : Blm).cells[t % 3]? = some ((l[t / 3] : Blm).cells[t % 3]'(by simp [Blm.cells]; omega)) := List.getElem?_eq_getElem _
  rw [h1]
  rw [hc] at hg
  have e1 : (l[t / 3] : Blm).cells[t % 3]! = (l[t / 3] : Blm).cells[t % 3]'(by simp [Blm.cells]; omega) := by
    rw [List.getElem!_eq_getElem?_getD, hc]
    rfl
  have e2 : (blCells l).toArray[t]! = (l[t / 3] : Blm).cells[t % 3]'(by simp [Blm.cells]; omega) := by
    rw [Array.getElem!_eq_getD, Array.getD_eq_getD_getElem?]
    simp [hg]
  rw [e2]
  exact e1
theorem sortB_length (l : List Blm) : (sortB l).length = l.length := by unfold sortB; rw [List.length_mergeSort]

theorem sortB_nil : sortB [] = [] := by simp [sortB]
theorem isAgg55 (w : World) : (isAgg 55).run Try.prog w = .ok true w := by kernel_rfl
theorem sizeOf55 (w : World) : (Go.sizeOf 55).run Try.prog w = .ok 3 w := by kernel_rfl
theorem sortWorld_own {w : World} {B g cap n : Nat} {outs srt : List Blm} {cur : Array Value} {os : Array Obj} (hB : B ≤ g) (hg : w.heap[g]? = some (.cells cur 55 (0, 0))) (hn : outs.length ≤ cap) (hc : cap ≤ maxLen) (hs : cur.size = cap * 3) (hl : srt.length = outs.length) :
    (sortWorldK (fun b => Blm.cells b) 3 w g 0 n srt.toArray os).ownsRow B 55 3 (.slice (some ⟨g, 0, none⟩) outs.length cap) outs.length (blCells srt) ∧ w.grownBy (sortWorldK (fun b => Blm.cells b) 3 w g 0 n srt.toArray os) (some g) := by
  have hlt := (Array.getElem?_eq_some_iff.1 hg).1
  have hheap : (sortWorldK (fun b => Blm.cells b) 3 w g 0 n srt.toArray os).heap = (w.heap.modify g (Go.Sort.onCells (Go.Sort.putCells id 0 (blCells srt).toArray))) ++ os := by
    unfold sortWorldK putRowK
    rw [flat_blCells]
    rfl
  have hsz : (w.heap.modify g (Go.Sort.onCells (Go.Sort.putCells id 0 (blCells srt).toArray))).size = w.heap.size := by simp
  have hblk : (sortWorldK (fun b => Blm.cells b) 3 w g 0 n srt.toArray os).heap[g]? = some (.cells (Go.Sort.putCells id 0 (blCells srt).toArray cur) 55 (0, 0)) := by
    rw [hheap, Array.getElem?_append_left (by rw [hsz]; exact hlt), Array.getElem?_modify, if_pos rfl, hg]
    rfl
  refine ⟨⟨by rw [blCells_length, hl], .inr ⟨g, cap, _, rfl, hB, hblk, hn, hc, by simp [Go.Sort.putCells, hs], ?_⟩⟩, rfl, rfl, rfl, by rw [hheap]; simp, fun k hk hne => ?_⟩
  · apply List.ext_getElem?
    intro j
    rw [List.getElem?_take]
    by_cases hj : j < outs.length * 3
    · rw [if_pos hj]
      have hj2 : j < (blCells srt).length := by rw [blCells_length, hl]; exact hj
      have hj3 : j < cur.size := by rw [hs]; exact Nat.lt_of_lt_of_le hj (Nat.mul_le_mul_right 3 hn)
      rw [Array.getElem?_toList]
      unfold Go.Sort.putCells
      rw [Array.getElem?_mapIdx, Array.getElem?_eq_getElem hj3]
      have h0 : 0 ≤ j ∧ j < 0 + (blCells srt).toArray.size := by simpa using hj2
      simp only [Option.map_some]
      rw [if_pos h0]
      rw [Nat.sub_zero, Array.getElem!_eq_getD, Array.getD_eq_getD_getElem?]
      rw [List.getElem?_toArray, List.getElem?_eq_getElem hj2]
      rfl
    · rw [if_neg hj, List.getElem?_eq_none]
      rw [blCells_length, hl]
      omega
  · rw [hheap, Array.getElem?_append_left (by rw [hsz]; exact hk), Array.getElem?_modify, if_neg (fun e => hne (by rw [e]))]

theorem judgeSort (outs : List Blm) (ov : Value) (B : Nat) (w : World) (ho : w.ownsRow B 55 3 ov outs.length (blCells outs)) (hl : outs.length ≤ 4000000) :
    Calls Try.prog 43 #[ov, .func (.func 44) #[] #[]] w fun e w' => e = .returned (.tuple #[]) ∧ w'.ownsRow B 55 3 ov outs.length (blCells (sortB outs)) ∧ w.grownBy w' ov.ownBlock := by
  have ho' := ho
  rcases ho.2 with ⟨rfl, hn⟩ | ⟨g, cap, cur, rfl, hB, hg, hn, hc, hs, ht⟩
  · have h0 : outs = [] := List.eq_nil_of_length_eq_zero hn
    subst h0
    have := AnyF.slices_SortFunc_none (P := Try.prog) (ρ := Try.sortB_ren) { Try.sortB with } none 0 (.func (.func 44) #[] #[]) w
    refine Calls.mono this fun e w' ⟨he, hw⟩ => ?_
    subst hw
    exact ⟨he, by rw [sortB_nil]; exact ho', World.grownBy.refl w' _⟩
  · have eg : ∀ args w, (callFunc 44 args).run Try.prog w = .ok (.enter 44 args) w := enters_of Try.func44 (by kernel_rfl) rfl
    have hlt := (Array.getElem?_eq_some_iff.1 hg).1
    have hH : HoldsK (fun b => Blm.cells b) 3 w g 0 outs.toArray := by
      unfold HoldsK
      rw [flat_blCells]
      intro j hj
      have hj' : j < (blCells outs).length := by simpa using hj
      refine ⟨?_, by simp [World.frozen?, hg]⟩
      have := ho'.cells (g := g) rfl j _ (List.getElem?_eq_getElem hj')
      rw [addr_add] at this
      rw [this, Array.getElem!_eq_getD, Array.getD_eq_getD_getElem?, List.getElem?_toArray, List.getElem?_eq_getElem hj']
      rfl
    have hS := AnyQ.slices_SortFunc_total Try.sortB 3 isAgg55 sizeOf55 (fun b => Blm.cells b) (fun _ => rfl) (fun x v hv => by simp [Blm.cells] at hv; rcases hv with rfl | rfl | rfl <;> rfl) cfB swoB 44 #[] g 0 cap outs.toArray w eg (cmpLaysB g 0 _ w) hH hlt (by simp; omega) totB
    rw [geB] at hS
    have hsz : outs.toArray.size = outs.length := by simp
    rw [hsz] at hS
    refine Calls.mono hS fun e w' ⟨he, n, os, hw⟩ => ?_
    subst hw
    have := sortWorld_own (n := n) (os := os) (srt := sortB outs) hB hg hn hc hs (sortB_length outs)
    exact ⟨he, this.1, this.2⟩
end Go.Proofs.Ytpnegacfanbcfaa
