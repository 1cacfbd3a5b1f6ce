/- JudgeFits: the walk. It answers true over all that its arguments can read as. -/
import Derived.Test.YtpnegacfanbcfaaKnown
import Derived.Test.YtpnegacfanbcfaaFits
import Derived.Test.YtpnegacfanbcfaaFitsQ
namespace Go.Proofs.Ytpnegacfanbcfaa
open Go.RowKit

theorem fits_short {l : List Deed} : ∀ (o : List Int) (inn : List Bool) (cells : List Int), inn.length = l.length → fitsGo l o inn cells = true → o.length ≤ inn.count false
  | [], _, _, _, _ => Nat.zero_le _
  | k :: o, inn, cells, hl, h => by
    unfold fitsGo at h
    split at h
    · rename_i hk
      split at h
      · cases h
      · rename_i d hd
        simp only [Bool.and_eq_true] at h
        have hkl := (List.getElem?_eq_some_iff.1 hd).1
        have ih := fits_short o (inn.set k.toNat true) _ (by rw [List.length_set]; exact hl) h.2.2
        have hki : k.toNat < inn.length := by omega
        have hf : inn[k.toNat] = false := by
          have := hk.2
          rw [List.getD_eq_getElem?_getD, List.getElem?_eq_getElem hki] at this
          exact this
        rw [List.count_set hki, hf] at ih
        have hc : 0 < inn.count false := List.count_pos_iff.2 (hf ▸ List.getElem_mem hki)
        simp at ih ⊢
        omega
    · cases h
theorem places_ints {n : Nat} : ∀ {xs : List Value}, PlacesIn n xs → ∃ o : List Int, xs = nums o
  | [], _ => ⟨[], rfl⟩
  | u :: xs, h => by
    obtain ⟨o, rfl⟩ := places_ints (n := n) (xs := xs) fun v hv => h v (List.mem_cons_of_mem _ hv)
    obtain ⟨k, rfl, _⟩ := h u (List.mem_cons_self ..)
    exact ⟨(k : Int) :: o, rfl⟩
theorem ints_nums (t : List Nat) : ints t = nums (t.map fun (i : Nat) => (i : Int)) := by simp [ints, nums]
theorem err_len {first : List Int} {l : List Deed} (h : orderErr first l = 0) : 1 ≤ first.length ∧ first.length ≤ 256 := by
  unfold orderErr at h
  split at h
  · cases h
  · constructor <;> omega

set_option maxRecDepth 100000 in
set_option maxHeartbeats 1000000 in
theorem fits_law (first : List Int) (l : List Deed) (fA lA : Option Addr) (fc lc : Nat) (w : World) (hrf : Row w fA (nums first)) (hrl : Row w lA (deedCells l)) (hf0 : fA = none → first.length = 0) (hl0 : lA = none → l.length = 0)
    (hff : ∀ x ∈ first, inI64 x) (hok : ∀ d ∈ l, d.Ok) : Calls Try.prog 4 #[.slice fA first.length fc, .slice lA l.length lc] w fun e w' => e = .returned (.bool true) ∧ Below w.heap.size w w' := by
  have HRF := Lib.hid hrf; have HRL := Lib.hid hrl; have HF0 := Lib.hid hf0; have HL0 := Lib.hid hl0; have HFF := Lib.hid hff; have HOK := Lib.hid hok
  clear hrf hrl hf0 hl0 hff hok
  by_cases h64 : 64 < l.length
  · go_enter Try.func4, Try.ntmps4
    go_wp2_with (go_at_call 7; refine (known_walk _).mono ?_; rintro e1 w1 ⟨rfl, hb1⟩; have HB1 := Lib.hid hb1; clear hb1)
    go_ret
    exact ⟨rfl, HB1.out⟩
  by_cases h256 : 256 < first.length
  · go_enter Try.func4, Try.ntmps4
    go_wp2_with (go_at_call 7; refine (known_walk _).mono ?_; rintro e1 w1 ⟨rfl, hb1⟩; have HB1 := Lib.hid hb1; clear hb1)
    go_ret
    exact ⟨rfl, HB1.out⟩
  by_cases hE : orderErr first l = 0
  · cases hA : orderAns first l with
    | none =>
      obtain ⟨hl1, ha⟩ := right_a hE
      obtain ⟨hl2, hl3⟩ := err_len hE
      have HNONE := Lib.hid fun o => order_none hE hA o
      have HA := Lib.hid hA; have HE := Lib.hid hE; have HAL := Lib.hid ha
      clear hA hE ha
      go_enter Try.func4, Try.ntmps4
      go_wp2_with (first
        | (go_at_call 7; refine (known_walk _).mono ?_; rintro e1 w1 ⟨rfl, hb1⟩; have HB := Lib.hid hb1; clear hb1)
        | (go_at_call 9; refine (order_walk first l fA lA fc lc _ (HRF.out.below HB.out) (HRL.out.below HB.out) HL0.out HFF.out HOK.out).mono ?_
           rintro e2 w2 ⟨hb2, r, b, rfl, hcase⟩
           obtain ⟨rfl, rfl⟩ : r = .slice none 0 0 ∧ b = false := by
             rcases hcase with ⟨_, h1, h2⟩ | ⟨t, ht, _⟩
             · exact ⟨h1, h2⟩
             · rw [HA.out] at ht
               cases ht
           rw [HE.out]
           have HB2 := Lib.hid (HB.out.trans (hb2.mono HB.out.size))
           clear HB hb2 hcase
           have HB := HB2
           clear HB2)
        | (go_at_call 15; refine (by_walk l lA lc _ _ (HRL.out.below HB.out) hl1).mono ?_
           rintro e5 w5 ⟨hb5, v5, m5, xs5, rfl, hm5, ho5, hp5⟩
           have HB2 := Lib.hid (HB.out.trans (hb5.mono HB.out.size))
           clear HB hb5
           have HB := HB2
           clear HB2
           obtain ⟨o5, rfl⟩ := places_ints hp5
           obtain rfl : m5 = o5.length := by have := ho5.1; simpa [nums] using this.symm
           obtain ⟨A5, c5, rfl, hr5, _⟩ := row_of_own ho5
           have HR5 := Lib.hid hr5
           clear hr5 ho5 hp5)
        | (go_at_call 14; refine (fits_walk first l o5 fA lA A5 fc lc c5 _ (HRF.out.below HB.out) (HRL.out.below HB.out) HR5.out HF0.out hl2 hl3 hl1 (by omega) HAL.out).mono ?_
           rintro e6 w6 ⟨rfl, hb6⟩
           rw [HNONE.out]
           have HB2 := Lib.hid (HB.out.trans (hb6.mono HB.out.size))
           clear HB hb6 HR5
           have HB := HB2
           clear HB2))
      go_ret
      exact ⟨rfl, HB.out⟩
    | some t =>
      obtain ⟨hl1, ha⟩ := right_a hE
      obtain ⟨hl2, hl3⟩ := err_len hE
      have HF := Lib.hid (order_fits hE hA)
      have hts : t.length ≤ 64 := by
        have h1 := fits_short (l := l) _ _ _ (by simp) (order_fits hE hA)
        have h2 := List.count_le_length (a := false) (l := List.replicate l.length false)
        simp only [List.length_map, List.length_replicate] at h1 h2
        omega
      have HA := Lib.hid hA; have HE := Lib.hid hE; have HAL := Lib.hid ha
      have htl : (t.map fun (i : Nat) => (i : Int)).length = t.length := List.length_map ..
      have HTL := Lib.hid htl
      clear hA hE ha htl
      go_enter Try.func4, Try.ntmps4
      go_wp2_with (first
        | (go_at_call 7; refine (known_walk _).mono ?_; rintro e1 w1 ⟨rfl, hb1⟩; have HB := Lib.hid hb1; clear hb1)
        | (go_at_call 9; refine (order_walk first l fA lA fc lc _ (HRF.out.below HB.out) (HRL.out.below HB.out) HL0.out HFF.out HOK.out).mono ?_
           rintro e2 w2 ⟨hb2, r, b, rfl, hcase⟩
           obtain ⟨rfl, hown⟩ : b = true ∧ w2.ownsRow w1.heap.size 3 1 r t.length (ints t) := by
             rcases hcase with ⟨h0, _⟩ | ⟨t', ht, h1, h2⟩
             · rw [HA.out] at h0
               cases h0
             · rw [HA.out] at ht
               cases ht
               exact ⟨h1, h2⟩
           rw [HE.out]
           have HB2 := Lib.hid (HB.out.trans (hb2.mono HB.out.size))
           clear HB hb2 hcase
           have HB := HB2
           clear HB2
           obtain ⟨A5, c5, rfl, hr5, _⟩ := row_of_own hown
           rw [ints_nums] at hr5
           have HR5 := Lib.hid hr5
           clear hr5 hown)
        | (go_at_call 14
           rw [← HTL.out]
           refine (fits_walk first l (t.map fun (i : Nat) => (i : Int)) fA lA A5 fc lc c5 _ (HRF.out.below HB.out) (HRL.out.below HB.out) HR5.out HF0.out hl2 hl3 hl1 (by rw [HTL.out]; exact hts) HAL.out).mono ?_
           rintro e6 w6 ⟨rfl, hb6⟩
           rw [HF.out]
           have HB2 := Lib.hid (HB.out.trans (hb6.mono HB.out.size))
           clear HB hb6 HR5
           have HB := HB2
           clear HB2))
      go_ret
      exact ⟨rfl, HB.out⟩
  · have hE' : (orderErr first l != 0) = true := by simpa using hE
    have HANS : Hid (orderAns first l = none) := Lib.hid (orderAns_err rfl hE)
    generalize hgE : orderErr first l = E at hE'
    have HGE := Lib.hid hgE
    clear hgE hE
    go_enter Try.func4, Try.ntmps4
    go_wp2_with (first
      | (go_at_call 7; refine (known_walk _).mono ?_; rintro e1 w1 ⟨rfl, hb1⟩; have HB := Lib.hid hb1; clear hb1)
      | (go_at_call 9; refine (order_walk first l fA lA fc lc _ (HRF.out.below HB.out) (HRL.out.below HB.out) HL0.out HFF.out HOK.out).mono ?_
         rintro e2 w2 ⟨hb2, r, b, rfl, hcase⟩
         obtain ⟨rfl, rfl⟩ : r = .slice none 0 0 ∧ b = false := by
           rcases hcase with ⟨_, h1, h2⟩ | ⟨t, ht, _⟩
           · exact ⟨h1, h2⟩
           · rw [HANS.out] at ht
             cases ht
         rw [HGE.out]
         have HB2 := Lib.hid (HB.out.trans (hb2.mono HB.out.size))
         clear HB hb2 hcase
         have HB := HB2
         clear HB2))
    go_ret
    exact ⟨rfl, HB.out⟩
end Go.Proofs.Ytpnegacfanbcfaa
