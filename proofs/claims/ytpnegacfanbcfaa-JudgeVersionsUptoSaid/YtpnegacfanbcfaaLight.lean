/- judge.Versions where there are too many; skeinlaw20.light. Lengths are at most 1048576. -/
import Derived.Test.YtpnegacfanbcfaaVers
namespace Go.Proofs.Ytpnegacfanbcfaa
open Go.RowKit Go.Maps

theorem versMany (l : List Ev) (starts : List (List (Int × Int))) (lA sA : Option Addr) (lc sc : Nat) (w : World) (hl : l.length ≤ 1048576) (hs : starts.length ≤ 1048576) (h : 1024 < l.length ∨ starts.length = 0 ∨ 64 < starts.length) :
    Calls Try.prog 20 #[.slice sA starts.length sc, .slice lA l.length lc] w (VersPost l starts w) := by
  have HP : Hid (VersPost l starts w (.returned (.tuple #[.slice none 0 0, .int .i64 201])) w) := by
    show VersPost _ _ _ _ _
    unfold VersPost
    rw [if_pos h]
    exact ⟨rfl, rfl⟩
  by_cases h1 : (1024 : Int) < (l.length : Int)
  · clear h
    go_enter Try.func20, Try.ntmps20
    go_wp2_with fail
    go_ret2
    exact HP.out
  · by_cases h2 : ((starts.length : Int) == 0) = true
    · have t4 : decide ((1024 : Int) < (l.length : Int)) = false := by simpa using h1
      clear h h1
      go_enter Try.func20, Try.ntmps20
      go_wp2_with fail
      go_ret2
      exact HP.out
    · have h2' : ((starts.length : Int) == 0) = false := by simpa using h2
      have h3 : (64 : Int) < (starts.length : Int) := by
        have : ¬ (starts.length : Int) = 0 := by simpa using h2
        omega
      have t4 : decide ((1024 : Int) < (l.length : Int)) = false := by simpa using h1
      clear h h1 h2
      go_enter Try.func20, Try.ntmps20
      go_wp2_with fail
      go_ret2
      exact HP.out

def sumS (starts : List (List (Int × Int))) : Nat := (starts.map List.length).sum
def sumE (l : List Ev) : Nat := (l.map fun e => e.nums.length + e.pairs.length).sum
def lightN (starts : List (List (Int × Int))) (l : List Ev) (j k : Nat) : Nat := l.length + starts.length + sumS (starts.take j) + sumE (l.take k)
def lightB (starts : List (List (Int × Int))) (l : List Ev) : Bool := decide (lightN starts l 1000 2000 ≤ 3000)
theorem sumS_succ {starts : List (List (Int × Int))} {j : Nat} {s : List (Int × Int)} (h : starts[j]? = some s) : sumS (starts.take (j + 1)) = sumS (starts.take j) + s.length := by
  unfold sumS
  rw [take_snoc' h, List.map_append, List.sum_append]
  simp
theorem sumE_succ {l : List Ev} {j : Nat} {e : Ev} (h : l[j]? = some e) : sumE (l.take (j + 1)) = sumE (l.take j) + (e.nums.length + e.pairs.length) := by
  unfold sumE
  rw [take_snoc' h, List.map_append, List.sum_append]
  simp
theorem sumS_le (C : Nat) {starts : List (List (Int × Int))} (h : ∀ s ∈ starts, s.length ≤ C) (j : Nat) : sumS (starts.take j) ≤ j * C := by
  induction j with
  | zero => simp [sumS]
  | succ j ih =>
    by_cases hj : j < starts.length
    · rw [sumS_succ (List.getElem?_eq_getElem hj), Nat.succ_mul]
      exact Nat.add_le_add ih (h _ (List.getElem_mem hj))
    · have e : starts.take (j + 1) = starts.take j := by rw [List.take_of_length_le (i := j + 1) (by omega), List.take_of_length_le (i := j) (by omega)]
      rw [e]
      exact Nat.le_trans ih (Nat.mul_le_mul_right C (Nat.le_succ j))
theorem sumE_le (C : Nat) {l : List Ev} (h : ∀ e ∈ l, e.nums.length + e.pairs.length ≤ C) (j : Nat) : sumE (l.take j) ≤ j * C := by
  induction j with
  | zero => simp [sumE]
  | succ j ih =>
    by_cases hj : j < l.length
    · rw [sumE_succ (List.getElem?_eq_getElem hj), Nat.succ_mul]
      exact Nat.add_le_add ih (h _ (List.getElem_mem hj))
    · have e : l.take (j + 1) = l.take j := by rw [List.take_of_length_le (i := j + 1) (by omega), List.take_of_length_le (i := j) (by omega)]
      rw [e]
      exact Nat.le_trans ih (Nat.mul_le_mul_right C (Nat.le_succ j))
def L1Rel (starts : List (List (Int × Int))) (l : List Ev) (w : World) (k : Nat) (n i : Value) (wr : World) : Prop :=
  ∃ j : Nat, j ≤ starts.length ∧ j ≤ 1000 ∧ i = .int .i64 j ∧ k = 1000 - j ∧ n = .int .i64 (lightN starts l j 0 : Nat) ∧ w = wr
def L2Rel (starts : List (List (Int × Int))) (l : List Ev) (w : World) (k : Nat) (n i : Value) (wr : World) : Prop :=
  ∃ j : Nat, j ≤ l.length ∧ j ≤ 2000 ∧ i = .int .i64 j ∧ k = 2000 - j ∧ n = .int .i64 (lightN starts l 1000 j : Nat) ∧ ∃ m, wr = w.drewN m
theorem evRow_get {w : World} {A : Option Addr} {l : List Ev} (h : Row w A (evCells l)) {k : Nat} {e : Ev} (hx : l[k]? = some e) {i : Nat} (hi : i < 13) : ∃ b off, A = some ⟨b, off, none⟩ ∧ w.cell? ⟨b, off + k * 13 + i, none⟩ = e.arr.toList[i]? := by
  have hg := flatMap_get Ev.cells 13 Ev.cells_length l k e hx i hi
  have hs : e.cells[i]? = some (e.cells[i]'hi) := List.getElem?_eq_getElem _
  obtain ⟨b, off, hA, hc⟩ := h (k * 13 + i) _ (hg.trans hs)
  refine ⟨b, off, hA, ?_⟩
  rw [Nat.add_assoc, hc]
  exact hs.symm
set_option maxRecDepth 100000 in
set_option maxHeartbeats 1000000 in
theorem light_walk (l : List Ev) (starts : List (List (Int × Int))) (heads : List (Option Addr × Nat)) (lA sA : Option Addr) (lc sc : Nat) (w : World) (hrow : Row w lA (evCells l)) (hst : StartIn starts heads sA w) (hl : l.length ≤ 1048576) (hs : starts.length ≤ 1048576)
    (hsl : ∀ s ∈ starts, s.length ≤ 1048576) (hel : ∀ e ∈ l, e.nums.length ≤ 1048576 ∧ e.pairs.length ≤ 1048576) :
    Calls Try.prog 16 #[.slice sA starts.length sc, .slice lA l.length lc] w fun e w' => e = .returned (.bool (lightB starts l)) ∧ ∃ n, w' = w.drewN n := by
  have HROW := Lib.hid hrow; have HST := Lib.hid hst; have HSL := Lib.hid hsl; have HEL := Lib.hid hel
  clear hrow hst hsl hel
  go_enter Try.func16, Try.ntmps16
  go_wp2_with fail
  go_loopg [5, 6] 1000 (fun k n i wr => L1Rel starts l w k n i wr)
  case atStart => exact ⟨0, Nat.zero_le _, by omega, rfl, rfl, by simp only [lightN, List.take_zero, sumS, sumE, List.map_nil, List.sum_nil]; go_num, rfl⟩
  case round =>
    obtain ⟨j, hj, hj2, rfl, rfl, rfl, rfl⟩ := hrel
    have hb1 := sumS_le 1048576 HSL.out j
    have hN : lightN starts l j 0 ≤ 2000000000 := by simp only [lightN, List.take_zero, sumE, List.map_nil, List.sum_nil]; omega
    clear hb1
    by_cases hlt : j < starts.length ∧ j < 1000
    · obtain ⟨hlt1, hlt2⟩ := hlt
      have hlt2' : (j : Int) < 1000 := by omega
      obtain ⟨s, hs'⟩ : ∃ s, starts[j]? = some s := ⟨_, List.getElem?_eq_getElem hlt1⟩
      obtain ⟨h, hh⟩ : ∃ h, heads[j]? = some h := ⟨_, List.getElem?_eq_getElem (by rw [HST.out.len]; exact hlt1)⟩
      obtain ⟨s0, soff, hsA, hsc⟩ := (HST.out.row) j (.slice h.1 s.length h.2) (by rw [List.getElem?_map, (List.getElem?_zip_eq_some.2 ⟨hs', hh⟩ : (starts.zip heads)[j]? = some (s, h))]; rfl)
      have hsn := HSL.out s (List.mem_of_getElem? hs')
      have hsucc : lightN starts l (j + 1) 0 = lightN starts l j 0 + s.length := by
        unfold lightN
        rw [sumS_succ hs']
        omega
      have HSU := Lib.hid hsucc
      clear hs' hh hsucc
      subst hsA
      generalize hNN : lightN starts l j 0 = N at *
      have HNN := Lib.hid hNN
      clear hNN
      go_wp2_with fail
      go_roundg (1000 - (j + 1))
      case measure => omega
      case rel => exact ⟨j + 1, by omega, by omega, by go_num, rfl, by rw [HSU.out]; go_num, rfl⟩
    · have HT : Hid (lightN starts l j 0 = lightN starts l 1000 0) := by
        show _ = _
        unfold lightN
        rcases Nat.lt_or_ge j starts.length with g | g
        · obtain rfl : j = 1000 := by omega
          rfl
        · rw [List.take_of_length_le (i := j) (by omega), List.take_of_length_le (i := 1000) (by omega)]
      generalize hNN : lightN starts l j 0 = N at *
      have HNN := Lib.hid hNN
      clear hNN
      by_cases hlt1 : j < starts.length
      all_goals
        have hlt2 : decide ((j : Int) < 1000) = decide (j < 1000) := by rw [decide_eq_decide]; omega
        go_wp2_with fail
        obtain ⟨wo, hwo⟩ : ∃ wo : World, wo = w := ⟨_, rfl⟩
        subst hwo
        go_loopg [5, 7] 2000 (fun k n i wr => L2Rel starts l wo k n i wr)
        case atStart => exact ⟨0, Nat.zero_le _, by omega, rfl, rfl, by rw [← HT.out], 0, rfl⟩
        case round =>
          obtain ⟨q, hq, hq2, rfl, rfl, rfl, m, rfl⟩ := hrel
          have hb1 := sumS_le 1048576 HSL.out 1000
          have hb2 := sumE_le 2097152 (fun e he => by have := HEL.out e he; omega) q
          have hN2 : lightN starts l 1000 q ≤ 10000000000 := by simp only [lightN]; omega
          clear hb1 hb2
          by_cases hlt3 : q < l.length ∧ q < 2000
          · obtain ⟨hlt4, hlt5⟩ := hlt3
            have hlt5' : (q : Int) < 2000 := by omega
            obtain ⟨e, he⟩ : ∃ e, l[q]? = some e := ⟨_, List.getElem?_eq_getElem hlt4⟩
            obtain ⟨b0, off, hA, hc11⟩ := evRow_get HROW.out he (i := 11) (by omega)
            have hc12' := evRow_get HROW.out he (i := 12) (by omega)
            subst hA
            obtain ⟨b1, off1, hA1, hc12⟩ := hc12'
            simp only [Option.some.injEq, Addr.mk.injEq, and_true] at hA1
            obtain ⟨rfl, rfl⟩ := hA1
            have k11 : ∀ n, (wo.drewN n).cell? ⟨b0, off + q * 13 + 11, none⟩ = some (.slice e.nA e.nums.length e.nc) := fun n => hc11
            have k12 : ∀ n, (wo.drewN n).cell? ⟨b0, off + q * 13 + 12, none⟩ = some (.slice e.pA e.pairs.length e.pc) := fun n => hc12
            have hen := HEL.out e (List.mem_of_getElem? he)
            have hsucc : lightN starts l 1000 (q + 1) = lightN starts l 1000 q + (e.nums.length + e.pairs.length) := by
              unfold lightN
              rw [sumE_succ he]
              omega
            have HSU := Lib.hid hsucc
            clear he hc11 hc12 hsucc
            obtain ⟨hen1, hen2⟩ := hen
            generalize hNN2 : lightN starts l 1000 q = N2 at *
            have HNN2 := Lib.hid hNN2
            have hlt4' : (q : Int) < l.length := by omega
            have w1 : IntKind.i64.wrap ((N2 : Int) + (e.nums.length : Int)) = (N2 : Int) + (e.nums.length : Int) := IntWalk.i64_in _ (by omega)
            have w2 : IntKind.i64.wrap ((N2 : Int) + (e.nums.length : Int) + (e.pairs.length : Int)) = (N2 : Int) + (e.nums.length : Int) + (e.pairs.length : Int) := IntWalk.i64_in _ (by omega)
            clear hNN2
            go_wp2_with fail
            go_quiet (fail)
            clear w1 w2
            go_wp2_with fail
            go_roundg (2000 - (q + 1))
            case measure => omega
            case rel => exact ⟨q + 1, by omega, by omega, by go_num, rfl, by rw [HSU.out]; go_num, _, rfl⟩
          · have HT2 : Hid (lightN starts l 1000 q = lightN starts l 1000 2000) := by
              show _ = _
              unfold lightN
              rcases Nat.lt_or_ge q l.length with g | g
              · obtain rfl : q = 2000 := by omega
                rfl
              · rw [List.take_of_length_le (i := q) (by omega), List.take_of_length_le (i := 2000) (by omega)]
            generalize hNN2 : lightN starts l 1000 q = N2 at *
            have HNN2 := Lib.hid hNN2
            have hle : decide ((N2 : Int) ≤ 3000) = lightB starts l := by
              unfold lightB
              rw [decide_eq_decide, ← HT2.out]
              omega
            have HLE := Lib.hid hle
            clear hNN2 hle
            by_cases hlt4 : q < l.length
            all_goals
              have hlt5 : decide ((q : Int) < 2000) = decide (q < 2000) := by rw [decide_eq_decide]; omega
              go_wp2_with fail
              go_ret
              exact ⟨ret_bool HLE.out, m, rfl⟩
end Go.Proofs.Ytpnegacfanbcfaa
