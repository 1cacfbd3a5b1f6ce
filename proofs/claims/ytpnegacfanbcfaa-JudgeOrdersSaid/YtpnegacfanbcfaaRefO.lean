/- What is refused (refuses). -/
import Derived.Test.YtpnegacfanbcfaaRefA
import Derived.Test.YtpnegacfanbcfaaRefG
import Derived.Test.YtpnegacfanbcfaaLent
import Derived.Test.YtpnegacfanbcfaaOrder
namespace Go.Proofs.Ytpnegacfanbcfaa
open Go.RowKit Go.Maps

/-- what refuses answers. -/
def refuV (n : Nat) (l : List Deed) : Int := if n = 0 ∨ 256 < n then 201 else if (l.all (rightB n)) = false then 200 else if (l.any fun d => decide (8 < opensAt l d.begin_)) = true then 201 else 0
theorem refu_is {first : List Int} {l : List Deed} (h : l.length ≤ 64) : refuV first.length l = orderErr first l := by
  unfold refuV orderErr
  have : ¬ 64 < l.length := by omega
  simp [this]

def RRel10 (n : Nat) (l : List Deed) (w : World) (k : Nat) (i : Value) (wr : World) : Prop :=
  ∃ j : Nat, j ≤ l.length ∧ i = .int .i64 (j : Int) ∧ k = l.length - j ∧ (∀ j' e, j' < j → l[j']? = some e → rightB n e = true) ∧ Below w.heap.size w wr
def ORel10 (l : List Deed) (w : World) (k : Nat) (i : Value) (wr : World) : Prop :=
  ∃ j : Nat, j ≤ l.length ∧ i = .int .i64 (j : Int) ∧ k = l.length - j ∧ (∀ j' e, j' < j → l[j']? = some e → opensAt l e.begin_ ≤ 8) ∧ Below w.heap.size w wr
theorem all_tr {α : Type} {l : List α} {p : α → Bool} (h : ∀ (j : Nat) e, l[j]? = some e → p e = true) : l.all p = true := by
  rw [List.all_eq_true]
  intro e he
  obtain ⟨j, hj⟩ := List.getElem?_of_mem he
  exact h j e hj
theorem all_fl {α : Type} {l : List α} {p : α → Bool} {j : Nat} {e : α} (he : l[j]? = some e) (h : p e = false) : l.all p = false := by
  rw [Bool.eq_false_iff]
  intro h'
  rw [List.all_eq_true] at h'
  have := h' e (List.mem_of_getElem? he)
  rw [h] at this
  cases this
theorem any_tr {α : Type} {l : List α} {p : α → Bool} {j : Nat} {e : α} (he : l[j]? = some e) (h : p e = true) : l.any p = true := List.any_eq_true.2 ⟨e, List.mem_of_getElem? he, h⟩

attribute [-go_sem] loadCellsFrom

set_option maxRecDepth 100000 in
set_option maxHeartbeats 2000000 in
theorem refuses_walk (n : Nat) (l : List Deed) (fA lA : Option Addr) (fc lc : Nat) (w : World) (hl : l.length ≤ 200) (hn : n ≤ 1000) (hrl : Row w lA (deedCells l)) :
    Calls Try.prog 10 #[.slice fA n fc, .slice lA l.length lc] w fun e w' => e = .returned (.int .i64 (refuV n l)) ∧ Below w.heap.size w w' := by
  have HRL := Lib.hid hrl
  clear hrl
  by_cases h0 : n = 0
  · subst h0
    go_enter Try.func10, Try.ntmps10
    go_wp2_with fail
    go_ret
    exact ⟨rfl, Below.refl _ _⟩
  have h0' : ((n : Int) == 0) = false := by simpa using h0
  by_cases h256 : 256 < n
  · have HV : Hid (refuV n l = 201) := by show _ = _; unfold refuV; rw [if_pos (.inr h256)]
    clear h0
    go_enter Try.func10, Try.ntmps10
    go_wp2_with fail
    go_ret
    exact ⟨ret_int (by rw [HV.out]), Below.refl _ _⟩
  have HN : Hid (¬(n = 0 ∨ 256 < n)) := by show ¬_; omega
  go_enter Try.func10, Try.ntmps10
  go_wp2_with fail
  go_loopg [5] l.length (fun k i wr => RRel10 n l w k i wr)
  case atStart => exact ⟨0, Nat.zero_le _, rfl, rfl, fun j' e h => absurd h (Nat.not_lt_zero _), Below.refl _ _⟩
  case round =>
    obtain ⟨j, hj, rfl, rfl, hok, hb⟩ := hrel
    obtain ⟨wo, hwo⟩ : ∃ wo : World, wo = wr := ⟨_, rfl⟩
    subst hwo
    have HOK := Lib.hid hok; have HB := Lib.hid hb
    by_cases hlt : j < l.length
    · obtain ⟨d, hd⟩ : ∃ d, l[j]? = some d := ⟨_, List.getElem?_eq_getElem hlt⟩
      obtain ⟨lb, loff, hA, hld⟩ := load_deed (HRL.out.below hb) hd
      have HD := Lib.hid hd
      clear hb hok hd
      subst hA
      go_wp2_with fail
      all_goals first
        | (go_ret
           have hr : rightB n d = false := by
             go_tidy
             simp only [rightB, timesB]
             grind
           refine ⟨ret_int ?_, HB.out.alloc HB.out.size _⟩
           unfold refuV
           rw [if_neg HN.out, if_pos (all_fl HD.out hr)])
        | (go_roundg (l.length - (j + 1))
           case measure => omega
           case rel =>
             have hr : rightB n d = true := by
               go_tidy
               simp only [rightB, timesB]
               grind
             refine ⟨j + 1, by omega, by go_num, rfl, fun j' e hj' he => ?_, HB.out.alloc HB.out.size _⟩
             rcases Nat.lt_or_ge j' j with h | h
             · exact HOK.out j' e h he
             · obtain rfl : j' = j := by omega
               rw [HD.out] at he
               injection he with he
               exact he ▸ hr)
    · have HALL : Hid (l.all (rightB n) = true) := all_tr fun j' e he => hok j' e (by have := (List.getElem?_eq_some_iff.1 he).1; omega) he
      clear hok hb
      go_wp2_with fail
      go_loopg [7] l.length (fun k i wr => ORel10 l w k i wr)
      case atStart => exact ⟨0, Nat.zero_le _, rfl, rfl, fun j' e h => absurd h (Nat.not_lt_zero _), HB.out⟩
      case round =>
        obtain ⟨i1, hi1, rfl, rfl, hok, hb⟩ := hrel
        obtain ⟨wi, hwi⟩ : ∃ wi : World, wi = wr := ⟨_, rfl⟩
        subst hwi
        have HOK2 := Lib.hid hok; have HB2 := Lib.hid hb
        by_cases hlt1 : i1 < l.length
        · obtain ⟨d, hd⟩ : ∃ d, l[i1]? = some d := ⟨_, List.getElem?_eq_getElem hlt1⟩
          have HD := Lib.hid hd
          clear hok hb hd
          go_wp2_with fail
          go_loopg [8, 9] l.length (fun k n i wr => ORel l d.begin_ w k n i wr)
          case atStart => exact ⟨0, Nat.zero_le _, rfl, rfl, rfl, HB2.out⟩
          case round =>
            obtain ⟨j2, hj2, rfl, rfl, rfl, hb3⟩ := hrel
            obtain ⟨wk, hwk⟩ : ∃ wk : World, wk = wr := ⟨_, rfl⟩
            subst hwk
            have HB3 := Lib.hid hb3
            have hle := opensAt_le l d.begin_ j2
            by_cases hlt2 : j2 < l.length
            · obtain ⟨e, he⟩ : ∃ e, l[j2]? = some e := ⟨_, List.getElem?_eq_getElem hlt2⟩
              obtain ⟨lb, loff, hA, e0, e1, _⟩ := (HRL.out.below hb3).deed he
              obtain ⟨lb', loff', hA', d0, _⟩ := (HRL.out.below hb3).deed HD.out
              rw [hA] at hA'
              injection hA' with hA'
              injection hA' with hb1 hb2
              subst hb1 hb2
              have hsucc := opensAt_succ l d.begin_ j2 e he
              have HS := Lib.hid hsucc
              clear hb3 he hsucc
              subst hA
              by_cases h1 : e.begin_ ≤ d.begin_
              · have h1' : decide (e.begin_ ≤ d.begin_) = true := by simpa using h1
                by_cases h2 : e.end_ = 0
                · have h2' : (e.end_ == 0) = true := by simpa using h2
                  have HAT : Hid (atB e d.begin_ = true) := by show _ = _; simp [atB, h1, h2]
                  clear h1 h2
                  go_wp2_with fail
                  go_quiet (fail)
                  go_wp2_with fail
                  go_roundg (l.length - (j2 + 1))
                  case measure => omega
                  case rel =>
                    refine ⟨j2 + 1, by omega, by go_num, rfl, ?_, below_drewN HB3.out _⟩
                    rw [HS.out, if_pos HAT.out]
                    go_num
                · have h2' : (e.end_ == 0) = false := by simpa using h2
                  by_cases h3 : d.begin_ ≤ e.end_
                  · have h3' : decide (d.begin_ ≤ e.end_) = true := by simpa using h3
                    have HAT : Hid (atB e d.begin_ = true) := by show _ = _; simp [atB, h1, h3]
                    clear h1 h2 h3
                    go_wp2_with fail
                    go_quiet (fail)
                    go_wp2_with fail
                    go_roundg (l.length - (j2 + 1))
                    case measure => omega
                    case rel =>
                      refine ⟨j2 + 1, by omega, by go_num, rfl, ?_, below_drewN HB3.out _⟩
                      rw [HS.out, if_pos HAT.out]
                      go_num
                  · have h3' : decide (d.begin_ ≤ e.end_) = false := by simpa using h3
                    have HAT : Hid (atB e d.begin_ = false) := by show _ = _; simp [atB, h1]; omega
                    clear h1 h2 h3
                    go_wp2_with fail
                    go_quiet (fail)
                    go_wp2_with fail
                    go_roundg (l.length - (j2 + 1))
                    case measure => omega
                    case rel =>
                      refine ⟨j2 + 1, by omega, by go_num, rfl, ?_, below_drewN HB3.out _⟩
                      rw [HS.out, if_neg (by rw [HAT.out]; decide)]
                      go_num
              · have h1' : decide (e.begin_ ≤ d.begin_) = false := by simpa using h1
                have HAT : Hid (atB e d.begin_ = false) := by show _ = _; simp [atB]; omega
                clear h1
                go_wp2_with fail
                go_quiet (fail)
                go_wp2_with fail
                go_roundg (l.length - (j2 + 1))
                case measure => omega
                case rel =>
                  refine ⟨j2 + 1, by omega, by go_num, rfl, ?_, below_drewN HB3.out _⟩
                  rw [HS.out, if_neg (by rw [HAT.out]; decide)]
                  go_num
            · have HE : Hid (l.take j2 = l) := List.take_of_length_le (by omega)
              clear hb3
              rw [HE.out]
              by_cases h8 : 8 < opensAt l d.begin_
              · have h8' : decide ((8 : Int) < (opensAt l d.begin_ : Nat)) = true := by rw [decide_eq_true_eq]; omega
                have HV : Hid (refuV n l = 201) := by
                  show _ = _
                  unfold refuV
                  rw [if_neg HN.out, if_neg (by rw [HALL.out]; decide), if_pos (any_tr HD.out (by simpa using h8))]
                clear h8
                go_wp2_with fail
                go_ret
                exact ⟨ret_int (by rw [HV.out]), HB3.out⟩
              · have h8' : decide ((8 : Int) < (opensAt l d.begin_ : Nat)) = false := by rw [decide_eq_false_iff_not]; omega
                go_wp2_with fail
                go_roundg (l.length - (i1 + 1))
                case measure => omega
                case rel =>
                  refine ⟨i1 + 1, by omega, by go_num, rfl, fun j' e hj' he => ?_, HB3.out⟩
                  rcases Nat.lt_or_ge j' i1 with h | h
                  · exact HOK2.out j' e h he
                  · obtain rfl : j' = i1 := by omega
                    rw [HD.out] at he
                    injection he with he
                    exact he ▸ Nat.le_of_not_lt h8
        · have HV : Hid (refuV n l = 0) := by
            show _ = _
            unfold refuV
            rw [if_neg HN.out, if_neg (by rw [HALL.out]; decide), if_neg]
            rw [List.any_eq_true]
            rintro ⟨e, he, h⟩
            obtain ⟨j', hj'⟩ := List.getElem?_of_mem he
            have := hok j' e (by have := (List.getElem?_eq_some_iff.1 hj').1; omega) hj'
            have := of_decide_eq_true h
            omega
          clear hok hb
          go_wp2_with fail
          go_ret
          exact ⟨ret_int (by rw [HV.out]), HB2.out⟩
end Go.Proofs.Ytpnegacfanbcfaa

/- The document's Order: contract. -/
namespace Go.Proofs.Ytpnegacfanbcfaa
open Go.RowKit Go.Maps

theorem elemRows : ElemOk Try.prog 78 110 1 24 := elemOk_of (by kernel_rfl) (by decide) (.slice none 0 0) (by kernel_rfl) rfl
theorem make_rows (n : Nat) (hn : n ≤ 64) : ∃ Z : Array Value, Z = (List.replicate n (Value.slice none 0 0)).toArray ∧ ∀ w : World, (Instr.makeSlice 78 (.int .i64 (n : Int)) (.int .i64 (n : Int))).run Try.prog w = .ok (.slice (some ⟨w.heap.size, 0, none⟩) n n) (w.alloc (.cells Z 110)) := by
  obtain ⟨ht, hs, i, z, hi, hz, h2, h3, h4⟩ := elemRows
  have hz' : z = .slice none 0 0 := by
    have h : (Try.prog.info? 110).bind (fun i => i.zero) = some (.slice none 0 0) := by kernel_rfl
    rw [hi] at h
    simp only [Option.bind_some] at h
    rw [hz] at h
    injection h
  subst hz'
  refine ⟨madeCells (Value.slice none 0 0).cells (n * 1), ?_, fun w => ?_⟩
  · apply Array.toList_inj.1
    simp [madeCells, Value.cells, Nat.mod_one]
    apply List.ext_getElem?
    intro j
    by_cases hj : j < n <;> simp [hj]
  · have := run_makeSlice (P := Try.prog) (w := w) 78 110 i (.slice none 0 0) ht hi hz .i64 .i64 (n : Int) (n : Int) (by omega) (Int.le_refl _) (by rw [h2]; simp; omega) (by rw [h3]; omega) (by omega)
    rw [h2] at this
    simpa using this
theorem falses_own {n : Nat} (hn : n ≤ 64) {Z : Array Value} (h1 : Z.size = n) (h2 : Z.toList = bools (List.replicate n false)) {B : Nat} (w : World) (hB : B ≤ w.heap.size) : (w.alloc (.cells Z 4)).ownsRow B 4 1 (.slice (some ⟨w.heap.size, 0, none⟩) n n) n (bools (List.replicate n false)) := by
  have := World.ownsRow_lit (base := B) (e := 4) (size := 1) w Z n hB (by unfold maxLen; omega) (by rw [h1]; omega)
  rwa [h2] at this
theorem RV.start {n m V : Nat} {lv : Value} {P : List Bool → List Int → Prop} {w0 w : World} {X : Nat} (hx : w.heap[X]? = some (.cells #[lv, .slice (some ⟨V, 0, none⟩) (n + 1) (n + 1)] 80 (0, 0))) (hv : w.heap[V]? = some (.cells (List.replicate (n + 1) (Value.slice none 0 0)).toArray 110 (0, 0)))
    (hb : Below w0.heap.size w0 w) (h1 : w0.heap.size ≤ X) (h2 : w0.heap.size ≤ V) : RV n m 0 X V lv P w0 (List.replicate (n + 1) (.slice none 0 0)) w := by
  have hu : ∀ (j : Nat) (u : Value), (List.replicate (n + 1) (Value.slice none 0 0))[j]? = some u → u = .slice none 0 0 := fun j u h => List.eq_of_mem_replicate (List.mem_of_getElem? h)
  refine ⟨hx, hv, by simp, fun j u h => ⟨[], ?_, Nat.le_refl _, fun t ht => by cases ht⟩, fun i j u u' k hi _ hk _ => ?_, hb, h1, h2⟩
  · rw [hu j u h]
    exact World.ownsRow_nil _ _ _ _
  · rw [hu i u hi] at hk
    cases hk

/-- behind the search. -/
def CutO (first : List Int) (l : List Deed) (w : World) (r b : Value) (w9 : World) : Prop :=
  ∃ c : Bool, b = .bool c ∧ Below w.heap.size w w9 ∧ ((LR l (List.replicate l.length false) first none ∧ r = .slice none 0 0 ∧ c = false) ∨ ∃ t, LR l (List.replicate l.length false) first (some t) ∧ c = true ∧ w9.ownsRow w.heap.size 3 1 r t.length (ints t))

attribute [-go_sem] loadCellsFrom

set_option maxRecDepth 100000 in
set_option maxHeartbeats 4000000 in
theorem refOrder (first : List Int) (l : List Deed) (fA lA : Option Addr) (fc lc : Nat) (w : World) (hrf : Row w fA (nums first)) (hrl : Row w lA (deedCells l)) (hnf : fA = none → first.length = 0) (hl : l.length ≤ 200) (hn : first.length ≤ 1000) (hlen : l.length ≤ 14 ∨ 64 < l.length) :
    Calls Try.prog 11 #[.slice fA first.length fc, .slice lA l.length lc] w (OrderPost first l w) := by
  have HRF := Lib.hid hrf; have HRL := Lib.hid hrl; have HNF := Lib.hid hnf
  clear hrf hrl hnf
  by_cases h0 : first.length = 0
  · have h0' : ((first.length : Int) == 0) = true := by simp [h0]
    have HE : Hid (orderErr first l = 201) := by show _ = _; simp only [orderErr, h0]; simp
    clear h0
    go_enter Try.func11, Try.ntmps11
    go_wp2_with fail
    go_ret3
    exact OrderPost.fails HE.out (by decide) (Below.refl _ _)
  have h0' : ((first.length : Int) == 0) = false := by simpa using h0
  by_cases h256 : 256 < first.length
  · have h256' : decide ((256 : Int) < (first.length : Nat)) = true := by rw [decide_eq_true_eq]; omega
    have HE : Hid (orderErr first l = 201) := by show _ = _; unfold orderErr; rw [if_pos (.inr (.inl h256))]
    clear h0 h256
    go_enter Try.func11, Try.ntmps11
    go_wp2_with fail
    go_ret3
    exact OrderPost.fails HE.out (by decide) (Below.refl _ _)
  have h256' : decide ((256 : Int) < (first.length : Nat)) = false := by rw [decide_eq_false_iff_not]; omega
  by_cases h64 : 64 < l.length
  · have h64' : decide ((64 : Int) < (l.length : Nat)) = true := by rw [decide_eq_true_eq]; omega
    have HE : Hid (orderErr first l = 201) := by show _ = _; unfold orderErr; rw [if_pos (.inr (.inr h64))]
    clear h0 h256 h64 hlen
    go_enter Try.func11, Try.ntmps11
    go_wp2_with fail
    go_ret3
    exact OrderPost.fails HE.out (by decide) (Below.refl _ _)
  have h64' : decide ((64 : Int) < (l.length : Nat)) = false := by rw [decide_eq_false_iff_not]; omega
  have h14 : l.length ≤ 14 := by omega
  have HLN : Hid (¬(first.length = 0 ∨ 256 < first.length ∨ 64 < l.length)) := by show ¬_; omega
  clear hlen h64
  go_enter Try.func11, Try.ntmps11
  go_wp2_with fail
  clear h0' h256' h64'
  go_loopg [7] l.length (fun k i wr => RRel10 first.length l w k i wr)
  case atStart => exact ⟨0, Nat.zero_le _, rfl, rfl, fun j' e h => absurd h (Nat.not_lt_zero _), Below.refl _ _⟩
  case round =>
    obtain ⟨j, hj, rfl, rfl, hok, hb⟩ := hrel
    obtain ⟨wo, hwo⟩ : ∃ wo : World, wo = wr := ⟨_, rfl⟩
    subst hwo
    have HOK := Lib.hid hok; have HB := Lib.hid hb
    by_cases hlt : j < l.length
    · obtain ⟨d, hd⟩ : ∃ d, l[j]? = some d := ⟨_, List.getElem?_eq_getElem hlt⟩
      obtain ⟨lb, loff, hA, hld⟩ := load_deed (HRL.out.below hb) hd
      have HD := Lib.hid hd
      clear hb hok hd
      subst hA
      cases hr : rightB first.length d with
      | true =>
        have HR := Lib.hid hr
        clear hr
        go_wp2_with (go_at_call 30; refine (refRight first.length fA fc d _).mono ?_; rintro e4 w4 ⟨rfl, hb4⟩; rw [HR.out]; have HB4 := Lib.hid hb4; clear hb4)
        go_roundg (l.length - (j + 1))
        case measure => omega
        case rel =>
          refine ⟨j + 1, by omega, by go_num, rfl, fun j' e hj' he => ?_, HB.out.trans (HB4.out.mono HB.out.size)⟩
          rcases Nat.lt_or_ge j' j with h | h
          · exact HOK.out j' e h he
          · obtain rfl : j' = j := by omega
            rw [HD.out] at he
            injection he with he
            exact he ▸ HR.out
      | false =>
        have HR := Lib.hid hr
        have HE : Hid (orderErr first l = 200) := by show _ = _; unfold orderErr; rw [if_neg HLN.out, if_pos (all_fl HD.out hr)]
        clear hr
        go_wp2_with (go_at_call 30; refine (refRight first.length fA fc d _).mono ?_; rintro e4 w4 ⟨rfl, hb4⟩; rw [HR.out]; have HB4 := Lib.hid hb4; clear hb4)
        go_ret3
        exact OrderPost.fails HE.out (by decide) (HB.out.trans (HB4.out.mono HB.out.size))
    · have HALL : Hid (l.all (rightB first.length) = true) := all_tr fun j' e he => hok j' e (by have := (List.getElem?_eq_some_iff.1 he).1; omega) he
      clear hok hb
      go_wp2_with fail
      go_loopg [8] l.length (fun k i wr => ORel10 l w k i wr)
      case atStart => exact ⟨0, Nat.zero_le _, rfl, rfl, fun j' e h => absurd h (Nat.not_lt_zero _), HB.out⟩
      case round =>
        obtain ⟨i1, hi1, rfl, rfl, hok, hb⟩ := hrel
        obtain ⟨wi, hwi⟩ : ∃ wi : World, wi = wr := ⟨_, rfl⟩
        subst hwi
        have HOK2 := Lib.hid hok; have HB2 := Lib.hid hb
        by_cases hlt1 : i1 < l.length
        · obtain ⟨d, hd⟩ : ∃ d, l[i1]? = some d := ⟨_, List.getElem?_eq_getElem hlt1⟩
          obtain ⟨lb, loff, hA, d0, _⟩ := (HRL.out.below hb).deed hd
          have HD := Lib.hid hd
          have hrl2 := HRL.out.below hb
          have HRL2 := Lib.hid hrl2
          clear hok hb hd hrl2
          subst hA
          by_cases h8 : 8 < opensAt l d.begin_
          · have h8' : decide ((8 : Int) < (opensAt l d.begin_ : Nat)) = true := by rw [decide_eq_true_eq]; omega
            have HE : Hid (orderErr first l = 201) := by
              show _ = _
              unfold orderErr
              rw [if_neg HLN.out, if_neg (by rw [HALL.out]; decide), if_pos (any_tr HD.out (by simpa using h8))]
            clear h8
            go_wp2_with (go_at_call 31; refine (refOpen l _ lc d.begin_ _ (by omega) HRL2.out).mono ?_; rintro e4 w4 ⟨rfl, hb4⟩; have HB4 := Lib.hid hb4; clear hb4)
            go_ret3
            exact OrderPost.fails HE.out (by decide) (HB2.out.trans (HB4.out.mono HB2.out.size))
          · have h8' : decide ((8 : Int) < (opensAt l d.begin_ : Nat)) = false := by rw [decide_eq_false_iff_not]; omega
            go_wp2_with (go_at_call 31; refine (refOpen l _ lc d.begin_ _ (by omega) HRL2.out).mono ?_; rintro e4 w4 ⟨rfl, hb4⟩; have HB4 := Lib.hid hb4; clear hb4)
            go_roundg (l.length - (i1 + 1))
            case measure => omega
            case rel =>
              refine ⟨i1 + 1, by omega, by go_num, rfl, fun j' e hj' he => ?_, HB2.out.trans (HB4.out.mono HB2.out.size)⟩
              rcases Nat.lt_or_ge j' i1 with h | h
              · exact HOK2.out j' e h he
              · obtain rfl : j' = i1 := by omega
                rw [HD.out] at he
                injection he with he
                exact he ▸ Nat.le_of_not_lt h8
        · have HE : Hid (orderErr first l = 0) := by
            show _ = _
            unfold orderErr
            rw [if_neg HLN.out, if_neg (by rw [HALL.out]; decide), if_neg]
            rw [List.any_eq_true]
            rintro ⟨e, he, h⟩
            obtain ⟨j', hj'⟩ := List.getElem?_of_mem he
            have := hok j' e (by have := (List.getElem?_eq_some_iff.1 hj').1; omega) hj'
            have := of_decide_eq_true h
            omega
          clear hok hb
          obtain ⟨Z, hZ, hmk⟩ := make_rows (l.length + 1) (by omega)
          have hmk' : ∀ w, (Instr.makeSlice 78 (.int .i64 ((l.length : Int) + 1)) (.int .i64 ((l.length : Int) + 1))).run Try.prog w = .ok (.slice (some ⟨w.heap.size, 0, none⟩) (l.length + 1) (l.length + 1)) (w.alloc (.cells Z 110)) := by
            intro w
            have := hmk w
            rwa [show (((l.length + 1 : Nat)) : Int) = (l.length : Int) + 1 by omega] at this
          have HZ := Lib.hid hZ
          clear hmk hZ
          go_wp2_with (at_make; refine wpList_make_is rfl (.tmp 55) (.tmp 55) 78 rfl rfl rfl (hmk' _) ?_)
          obtain ⟨V, hV⟩ : ∃ V, V = wi.heap.size := ⟨_, rfl⟩
          obtain ⟨W, hW⟩ : ∃ W, W = (wi.alloc (.cells Z 110)).alloc (.cells #[.slice lA l.length lc, .slice (some ⟨wi.heap.size, 0, none⟩) (l.length + 1) (l.length + 1)] 80) := ⟨_, rfl⟩
          rw [← hW]
          have hbW : Below wi.heap.size wi W := by rw [hW]; exact ((Below.refl _ _).alloc (Nat.le_refl _) _).alloc (by simp) _
          have hrv : RV l.length first.length 0 (V + 1) V (.slice lA l.length lc) (fun i c => LR l i c none) wi (List.replicate (l.length + 1) (.slice none 0 0)) W := by
            have e1 : (wi.alloc (.cells Z 110)).heap.size = V + 1 := by rw [hV]; simp
            refine RV.start ?_ ?_ hbW (by rw [hV]; exact Nat.le_succ _) (by rw [hV]; exact Nat.le_refl _)
            · rw [hW, ← e1, hV]
              exact heap_alloc_new _ _
            · rw [hW, Below.heap_alloc _ _ _ (by rw [e1]; omega), hV, heap_alloc_new, HZ.out]
          have hsz1 : (wi.alloc (.cells Z 110)).heap.size = V + 1 := by rw [hV]; simp
          have HRV := Lib.hid hrv; have HBW := Lib.hid hbW
          have HRLI := Lib.hid (HRL.out.below HB2.out)
          have HV := Lib.hid hV
          rw [← hV]
          clear hrv hbW hW hsz1 hmk' hV
          obtain ⟨ZB, hZ1, hZ2, hmkb⟩ := make_falses l.length (by omega)
          have HZ1 := Lib.hid hZ1; have HZ2 := Lib.hid hZ2
          have HIB : Hid (∀ U : World, W.heap.size ≤ U.heap.size → (U.alloc (.cells ZB 4)).ownsRow W.heap.size 4 1 (.slice (some ⟨U.heap.size, 0, none⟩) l.length l.length) l.length (bools (List.replicate l.length false))) := fun U hU => falses_own (by omega) HZ1.out HZ2.out U hU
          have HF : Hid (∀ U, Below W.heap.size W U → Row U fA (nums first)) := fun U hU => (HRF.out.below (HB2.out.trans (HBW.out.mono HB2.out.size))).below hU
          have HAL : Hid (∀ d ∈ l, 0 ≤ d.a ∧ d.a < first.length) := (right_a HE.out).2
          have hwiW : wi.heap.size ≤ W.heap.size := HBW.out.size
          clear hZ1 hZ2
          go_cut [10, 11] (fun r b w9 => CutO first l wi r b w9)
          case first =>
            go_region_law (first
              | (refine step_append_is rfl (.const (.slice none 0 0)) (.tmp 64) rfl elemInt rfl (base := W.heap.size) (World.ownsRow_nil _ _ 3 1) fA first.length fc (nums first) rfl (HF.out _ (by repeat' first | refine Below.drew ?_ | refine Below.alloc ?_ (by first | exact Nat.le_refl _ | exact BelowOf.le _ | simp) _ | exact Below.refl _ _ | exact BelowOf.h _)) (by simp [nums]) (by intro u hu; obtain ⟨x, _, rfl⟩ := List.mem_map.1 hu; rfl) (by unfold maxLen; omega) (by omega) (by first | exact Nat.le_refl _ | exact BelowOf.le _ | exact BelowOf.le_alloc _ _ | simp) HNF.out ?_
                 intro v2 w2 ho2 hg2 hat2
                 simp only [Nat.zero_add, List.nil_append] at ho2
                 obtain ⟨g2, gc2, rfl, _, _⟩ := ho2.form (by omega)
                 try (have hib := own_below (HIB.out _ (by first | exact Nat.le_refl _ | exact BelowOf.le _ | exact BelowOf.le_alloc _ _ | simp)) (below_none hg2))
                 try (have hib := own_below (own_below (HIB.out W (Nat.le_refl _)) (Below.refl _ _).drew) (below_none hg2))
                 obtain ⟨p2, rfl⟩ : ∃ q : BelowOf W, w2 = q.v := ⟨⟨w2, Below.grown (by repeat' first | refine Below.drew ?_ | refine Below.alloc ?_ (by first | exact Nat.le_refl _ | exact BelowOf.le _ | simp) _ | exact Below.refl _ _ | exact BelowOf.h _) hg2 (by first | exact Nat.le_refl _ | exact BelowOf.le _ | exact BelowOf.le_alloc _ _ | simp) (fun k hk => by cases hk)⟩, rfl⟩
                 clear hg2 hat2)
              | (go_simp; go_at_call 32
                 refine (refGoes l first.length (V + 1) V lA lc wi h14 (by omega) HRLI.out HAL.out l.length (List.replicate l.length false) first [] (List.replicate (l.length + 1) (.slice none 0 0)) 0 _ _ _ _ (by simp) (by simp) (by rw [Nat.zero_add]; exact callsR_14 h14) (by exact HRV.out.below (by repeat' first | refine Below.drew ?_ | refine Below.alloc ?_ (by first | exact Nat.le_refl _ | exact BelowOf.le _ | simp) _ | exact Below.refl _ _ | exact BelowOf.h _)) (by exact own_base (by first | assumption | exact HIB.out _ (by first | exact Nat.le_refl _ | exact BelowOf.le _ | exact BelowOf.le_alloc _ _ | simp)) hwiW) (by exact own_base (by first | assumption | exact World.ownsRow.alloc (by assumption) _) hwiW) (by exact World.ownsRow_nil _ _ _ _)).mono ?_
                 rintro e9 w9 ⟨vs9, hrv9, hfr9, r9, b9, rfl, hcase9⟩))
            all_goals
              go_wp2_with fail
              go_meet
              refine ⟨b9, rfl, hrv9.b, hcase9.imp id fun ⟨t, h1, h2, h3⟩ => ⟨t, h1, h2, ?_⟩⟩
              simpa using h3
          case rest =>
            obtain ⟨c, hc, hb9, hcase⟩ := hcut
            subst hc
            have HB9 := Lib.hid hb9; have HCASE := Lib.hid hcase
            have HSR := Lib.hid (start_rel (first := first) (l := l) (by omega) HAL.out)
            have HANS : Hid (orderAns first l = least l (num l).ci (num l).en (start first (num l).seen)) := by show _ = _; unfold orderAns; rw [if_pos HE.out]
            clear hb9 hcase
            go_wp2_with fail
            go_ret3
            show OrderPost first l w (.returned (.tuple #[u10, .bool c, .int .i64 0])) _
            refine ⟨HB2.out.trans (HB9.out.mono HB2.out.size), u10, c, by rw [HE.out], ?_⟩
            rcases HCASE.out with ⟨h1, h2, h3⟩ | ⟨t, h1, h2, h3⟩
            · exact .inl ⟨by rw [HANS.out]; exact h1 _ HSR.out, h2, h3⟩
            · exact .inr ⟨t, by rw [HANS.out]; exact h1 _ HSR.out, h2, own_base h3 HB2.out.size⟩
end Go.Proofs.Ytpnegacfanbcfaa
