/- How many deeds there are at a time; ContainsFunc with Order's closure. -/
import Derived.Test.YtpnegacfanbcfaaEnv
import Derived.Test.YtpnegacfanbcfaaQuiet
import Derived.Deep.LoopGhost
namespace Go.Proofs.Ytpnegacfanbcfaa
open Go.RowKit Go.Maps

def timesB (b e : Int) : Bool := decide (1 ≤ b) && (e == 0 || decide (b ≤ e))
theorem judgeTimes (b e : Int) (w : World) :
    Calls Try.prog 24 #[.int .i64 b, .int .i64 e] w fun r w' => r = .returned (.bool (timesB b e)) ∧ w = w' := by
  go_enter Try.func24, Try.ntmps24
  go_wp2
  all_goals (go_ret; refine ⟨ret_bool ?_, rfl⟩; simp_all [timesB]; try omega)

def atB (d : Deed) (t : Int) : Bool := decide (d.begin_ ≤ t) && (d.end_ == 0 || decide (t ≤ d.end_))
def opensAt (l : List Deed) (t : Int) : Nat := l.countP fun d => atB d t
theorem opensAt_succ (l : List Deed) (t : Int) (k : Nat) (d : Deed) (h : l[k]? = some d) : opensAt (l.take (k + 1)) t = opensAt (l.take k) t + if atB d t = true then 1 else 0 := by
  unfold opensAt
  rw [List.take_add_one, List.countP_append, h]
  simp [List.countP_cons]
theorem opensAt_le (l : List Deed) (t : Int) (k : Nat) : opensAt (l.take k) t ≤ k := by
  unfold opensAt
  have := List.countP_le_length (p := fun d : Deed => atB d t) (l := l.take k)
  have h2 := List.length_take_le k l
  omega

attribute [-go_sem] loadCellsFrom

def ORel (l : List Deed) (t : Int) (w : World) (k : Nat) (n i : Value) (wr : World) : Prop :=
  ∃ j : Nat, j ≤ l.length ∧ i = .int .i64 j ∧ k = l.length - j ∧ n = .int .i64 (opensAt (l.take j) t) ∧ Below w.heap.size w wr

set_option maxRecDepth 20000 in
set_option maxHeartbeats 1000000 in
theorem judgeOpen (l : List Deed) (A : Option Addr) (c : Nat) (t : Int) (w : World) (hl : l.length ≤ 64) (hr : Row w A (deedCells l)) :
    Calls Try.prog 27 #[.slice A l.length c, .int .i64 t] w fun r w' => r = .returned (.int .i64 (opensAt l t)) ∧ Below w.heap.size w w' := by
  have HR := Lib.hid hr; clear hr
  go_enter Try.func27, Try.ntmps27
  go_wp2
  go_loopg [5, 10] l.length (fun k n i wr => ORel l t w k n i wr)
  case atStart => exact ⟨0, Nat.zero_le _, rfl, rfl, rfl, Below.refl _ _⟩
  case round =>
    obtain ⟨j, hj, rfl, rfl, rfl, hb⟩ := hrel
    have HB := Lib.hid hb
    by_cases hlt : j < l.length
    · obtain ⟨d, hd⟩ : ∃ d, l[j]? = some d := ⟨_, List.getElem?_eq_getElem hlt⟩
      obtain ⟨lb, loff, hA, hld⟩ := load_deed (HR.out.below hb) hd
      have hsucc := opensAt_succ l t j d hd
      have hle := opensAt_le l t j
      have HS := Lib.hid hsucc
      clear hb hd hsucc
      subst hA
      go_wp2
      all_goals
        go_roundg (l.length - (j + 1))
        case measure => omega
        case rel =>
          refine ⟨j + 1, by omega, by go_num, rfl, ?_, HB.out.alloc HB.out.size _⟩
          rw [HS.out]
          go_tidy
          clear hld
          refine congrArg (Value.int .i64) ?_
          simp only [atB]
          grind
    · clear hb
      have HE : Hid (l.take j = l) := List.take_of_length_le (by omega)
      go_wp2
      go_ret
      exact ⟨ret_int (by rw [HE.out]), HB.out⟩
/-- Order's closure: are more than eight open at the beginning of a deed? -/
theorem orderClosure (l : List Deed) (A : Option Addr) (c : Nat) (b : Nat) (d : Deed) (w : World) (hl : l.length ≤ 64) (hr : Row w A (deedCells l)) (hb : w.cell? ⟨b, 0, none⟩ = some (.slice A l.length c)) :
    Calls Try.prog 26 #[d.val, .pointer (some ⟨b, 0, none⟩)] w fun r w' => r = .returned (.bool (decide (8 < opensAt l d.begin_))) ∧ Below w.heap.size w w' := by
  have HR := Lib.hid hr; clear hr
  have hlt := cell_lt hb
  simp only [Deed.val]
  go_enter Try.func26, Try.ntmps26
  go_wp2_with (go_at_call 27; refine (judgeOpen l A c d.begin_ _ hl (HR.out.alloc _)).mono ?_; rintro e1 w1 ⟨rfl, hb1⟩)
  go_ret
  exact ⟨ret_bool (by simp; omega), ((Below.refl _ _).alloc (Nat.le_refl _) _).trans (hb1.mono (by simp))⟩

def IxRel (l : List Deed) (w : World) (k : Nat) (i : Value) (wr : World) : Prop :=
  ∃ j : Nat, j ≤ l.length ∧ i = .int .i64 j ∧ k = l.length - j ∧ (∀ j' d, j' < j → l[j']? = some d → opensAt l d.begin_ ≤ 8) ∧ Below w.heap.size w wr

/-- slices.IndexFunc with it: negative, if there is none. -/
def IxPost (l : List Deed) (w : World) (e : Ending) (w' : World) : Prop :=
  ∃ x : Int, e = .returned (.int .i64 x) ∧ (decide (0 ≤ x) = l.any fun d => decide (8 < opensAt l d.begin_)) ∧ Below w.heap.size w w'

set_option maxRecDepth 20000 in
set_option maxHeartbeats 1000000 in
theorem indexFunc (l : List Deed) (A : Option Addr) (c : Nat) (b : Nat) (w : World) (hl : l.length ≤ 64) (hr : Row w A (deedCells l)) (hb : w.cell? ⟨b, 0, none⟩ = some (.slice A l.length c)) :
    Calls Try.prog 48 #[.slice A l.length c, .func (.func 26) #[] #[.pointer (some ⟨b, 0, none⟩)]] w (IxPost l w) := by
  have HR := Lib.hid hr; clear hr
  have HB := Lib.hid hb; clear hb
  go_enter Try.func48, Try.ntmps48
  go_wp2_with fail
  go_loopg [8] l.length (fun k i wr => IxRel l w k i wr)
  case atStart => exact ⟨0, Nat.zero_le _, rfl, rfl, fun j' d h => absurd h (Nat.not_lt_zero _), Below.refl _ _⟩
  case round =>
    obtain ⟨j, hj, rfl, rfl, hno, hbw⟩ := hrel
    have HBW := Lib.hid hbw; have HNO := Lib.hid hno
    clear hno
    by_cases hlt : j < l.length
    · obtain ⟨d, hd⟩ : ∃ d, l[j]? = some d := ⟨_, List.getElem?_eq_getElem hlt⟩
      obtain ⟨lb, loff, hA, hld⟩ := load_deed (HR.out.below hbw) hd
      have HD := Lib.hid hd
      clear hbw hd
      subst hA
      cases hc : decide (8 < opensAt l d.begin_) with
      | true =>
        have HC := Lib.hid hc; clear hc
        go_wp2_with (go_at_call 26; refine (orderClosure l _ c b d _ hl (HR.out.below HBW.out) (cell_below HBW.out _ _ HB.out)).mono ?_; rintro e1 w1 ⟨rfl, hb1⟩; rw [HC.out])
        go_ret
        refine ⟨j, rfl, ?_, HBW.out.trans (hb1.mono HBW.out.size)⟩
        have hm := List.mem_of_getElem? HD.out
        have : (l.any fun d => decide (8 < opensAt l d.begin_)) = true := List.any_eq_true.2 ⟨d, hm, HC.out⟩
        rw [this]
        simp
      | false =>
        have HC := Lib.hid hc; clear hc
        go_wp2_with (go_at_call 26; refine (orderClosure l _ c b d _ hl (HR.out.below HBW.out) (cell_below HBW.out _ _ HB.out)).mono ?_; rintro e1 w1 ⟨rfl, hb1⟩; rw [HC.out])
        go_roundg (l.length - (j + 1))
        case measure => omega
        case rel =>
          refine ⟨j + 1, by omega, by go_num, rfl, fun j' d' hj' hd' => ?_, HBW.out.trans (hb1.mono HBW.out.size)⟩
          rcases Nat.lt_or_ge j' j with h | h
          · exact HNO.out j' d' h hd'
          · obtain rfl : j' = j := by omega
            rw [HD.out] at hd'
            injection hd' with hd'
            subst hd'
            have := HC.out
            simpa using this
    · have hjl : j = l.length := by omega
      have HJ := Lib.hid hjl
      clear hbw hjl
      go_wp2_with fail
      go_ret
      refine ⟨-1, rfl, ?_, HBW.out⟩
      have : (l.any fun d => decide (8 < opensAt l d.begin_)) = false := by
        rw [List.any_eq_false]
        intro d hd
        obtain ⟨i, hi⟩ := List.getElem?_of_mem hd
        have := HNO.out i d (by have := (List.getElem?_eq_some_iff.1 hi).1; have := HJ.out; omega) hi
        simpa using this
      rw [this]
      rfl

theorem containsFunc (l : List Deed) (A : Option Addr) (c : Nat) (b : Nat) (w : World) (hl : l.length ≤ 64) (hr : Row w A (deedCells l)) (hb : w.cell? ⟨b, 0, none⟩ = some (.slice A l.length c)) :
    Calls Try.prog 25 #[.slice A l.length c, .func (.func 26) #[] #[.pointer (some ⟨b, 0, none⟩)]] w fun r w' => r = .returned (.bool (l.any fun d => decide (8 < opensAt l d.begin_))) ∧ Below w.heap.size w w' := by
  have HR := Lib.hid hr; clear hr
  have HB := Lib.hid hb; clear hb
  go_enter Try.func25, Try.ntmps25
  go_wp2_with (go_at_call 48; refine (indexFunc l A c b _ hl HR.out HB.out).mono ?_; rintro e1 w1 ⟨x, rfl, hx, hb1⟩; have HX := Lib.hid hx; clear hx)
  go_ret
  exact ⟨ret_bool HX.out, hb1⟩
end Go.Proofs.Ytpnegacfanbcfaa
