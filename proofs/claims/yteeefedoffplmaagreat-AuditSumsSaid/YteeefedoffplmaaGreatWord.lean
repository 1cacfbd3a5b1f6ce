/- Package word: what its functions answer. Conditions: the numbers are int64s; Pack's, Next's, Part's, Place's are right. -/
import Derived.Test.YteeefedoffplmaaGreatAtom
import Derived.Test.YteeefedoffplmaaGreatModel
import Derived.Laws.BitsAllLaws
namespace Go.Proofs.YteeefedoffplmaaGreat
open Go.RowKit

/- bits of numbers that are not negative -/
theorem ofInt_i64 (a : Nat) (h : a < 9223372036854775808) : (BitVec.ofInt 64 (a : Int)).toNat = a := by
  simp
  omega
theorem i64_or_nat (a b : Nat) (ha : a < 9223372036854775808) (hb : b < 9223372036854775808) : bits .or .i64 (a : Int) (b : Int) = ((a ||| b : Nat) : Int) := by
  have hx : a ||| b < 2 ^ 63 := Nat.or_lt_two_pow (by omega) (by omega)
  show IntKind.i64.wrap ((BitVec.ofInt 64 (a : Int) ||| BitVec.ofInt 64 (b : Int)).toNat : Int) = _
  rw [BitVec.toNat_or, ofInt_i64 a ha, ofInt_i64 b hb, IntWalk.i64_in _ (by omega)]
theorem i64_and_nat (a b : Nat) (ha : a < 9223372036854775808) (hb : b < 9223372036854775808) : bits .and .i64 (a : Int) (b : Int) = ((a &&& b : Nat) : Int) := by
  have hx : a &&& b < 2 ^ 63 := Nat.and_lt_two_pow _ (by omega)
  show IntKind.i64.wrap ((BitVec.ofInt 64 (a : Int) &&& BitVec.ofInt 64 (b : Int)).toNat : Int) = _
  rw [BitVec.toNat_and, ofInt_i64 a ha, ofInt_i64 b hb, IntWalk.i64_in _ (by omega)]
theorem i64_xor_nat (a b : Nat) (ha : a < 9223372036854775808) (hb : b < 9223372036854775808) : bits .xor .i64 (a : Int) (b : Int) = ((a ^^^ b : Nat) : Int) := by
  have hx : a ^^^ b < 2 ^ 63 := Nat.xor_lt_two_pow (by omega) (by omega)
  show IntKind.i64.wrap ((BitVec.ofInt 64 (a : Int) ^^^ BitVec.ofInt 64 (b : Int)).toNat : Int) = _
  rw [BitVec.toNat_xor, ofInt_i64 a ha, ofInt_i64 b hb, IntWalk.i64_in _ (by omega)]
theorem or_pack (i t : Nat) (ht : t < 1099511627776) : i * 1099511627776 ||| t = i * 1099511627776 + t := by
  have := Nat.shiftLeft_add_eq_or_of_lt (i := 40) (b := t) (by omega) i
  rw [Nat.shiftLeft_eq] at this
  exact this.symm
theorem and_tag (x : Nat) : x &&& 1099511627775 = x % 1099511627776 := Nat.and_two_pow_sub_one_eq_mod x 40

theorem isWordB_iff (h : Int) : isWordB h = true ↔ 0 ≤ h ∧ h ≤ 1152921504606846975 := by
  unfold isWordB T20 T40
  simp
  omega
theorem isWord_any (h : Int) (w : World) : Calls Tryz.prog 156 #[.int .i64 h] w fun e w' => e = .returned (.bool (isWordB h)) ∧ w = w' := by
  go_enter Tryz.func156, Tryz.ntmps156
  go_wp2
  all_goals
    go_ret
    refine ⟨ret_bool ?_, rfl⟩
    rw [Bool.eq_iff_iff, isWordB_iff]
    simp
    omega
theorem index_any (h : Int) (w : World) : Calls Tryz.prog 95 #[.int .i64 h] w fun e w' => e = .returned (.int .i64 (idxW h)) ∧ w = w' := by
  unfold idxW
  cases hb : isWordB h with
  | false =>
    have hw := isWord_any h w
    rw [hb] at hw
    go_enter Tryz.func95, Tryz.ntmps95
    go_wp2_with (go_at_call 156; refine hw.mono ?_; rintro e w' ⟨rfl, rfl⟩)
    go_ret
    exact ⟨rfl, rfl⟩
  | true =>
    have hw := isWord_any h w
    rw [hb] at hw
    obtain ⟨h0, h1⟩ := (isWordB_iff h).1 hb
    go_enter Tryz.func95, Tryz.ntmps95
    go_wp2_with (go_at_call 156; refine hw.mono ?_; rintro e w' ⟨rfl, rfl⟩)
    go_ret
    exact ⟨rfl, rfl⟩
theorem tag_any (h : Int) (w : World) : Calls Tryz.prog 84 #[.int .i64 h] w fun e w' => e = .returned (.int .i64 (tagW h)) ∧ w = w' := by
  unfold tagW
  cases hb : isWordB h with
  | false =>
    have hw := isWord_any h w
    rw [hb] at hw
    go_enter Tryz.func84, Tryz.ntmps84
    go_wp2_with (go_at_call 156; refine hw.mono ?_; rintro e w' ⟨rfl, rfl⟩)
    go_ret
    exact ⟨rfl, rfl⟩
  | true =>
    have hw := isWord_any h w
    rw [hb] at hw
    obtain ⟨h0, h1⟩ := (isWordB_iff h).1 hb
    go_enter Tryz.func84, Tryz.ntmps84
    go_wp2_with (go_at_call 156; refine hw.mono ?_; rintro e w' ⟨rfl, rfl⟩)
    go_ret
    refine ⟨ret_int ?_, rfl⟩
    obtain ⟨n, rfl⟩ := Int.eq_ofNat_of_zero_le h0
    show bits .and .i64 _ ((1099511627775 : Nat) : Int) = _
    rw [i64_and_nat _ _ (by omega) (by omega), and_tag]
    unfold T40
    simp
theorem pack_or (i t : Int) (hi : 0 ≤ i) (hi' : i ≤ 1048575) (ht : 0 ≤ t) (ht' : t ≤ 1099511627775) : bits .or .i64 (i * 1099511627776) t = packW i t := by
  obtain ⟨n, rfl⟩ := Int.eq_ofNat_of_zero_le hi
  obtain ⟨m, rfl⟩ := Int.eq_ofNat_of_zero_le ht
  have e : ((n : Int) * 1099511627776) = ((n * 1099511627776 : Nat) : Int) := by simp
  rw [e, i64_or_nat _ _ (by omega) (by omega), or_pack _ _ (by omega)]
  unfold packW T40
  simp
/-- Pack of an index and a tag. -/
theorem pack_any (i t : Int) (w : World) (hi : 0 ≤ i) (hi' : i ≤ 1048575) (ht : 0 ≤ t) (ht' : t ≤ 1099511627775) :
    Calls Tryz.prog 81 #[.int .i64 i, .int .i64 t] w fun e w' => e = .returned (.tuple #[.int .i64 (packW i t), .int .i64 0]) ∧ w = w' := by
  have hp := Lib.hid (pack_or i t hi hi' ht ht')
  go_enter Tryz.func81, Tryz.ntmps81
  go_wp2
  go_ret2
  exact ⟨ret_int2 hp.out rfl, rfl⟩
theorem isIndex_yes (i : Int) (w : World) (hi : 0 ≤ i) (hi' : i ≤ 1048575) : Calls Tryz.prog 148 #[.int .i64 i] w fun e w' => e = .returned (.bool true) ∧ w = w' := by
  go_enter Tryz.func148, Tryz.ntmps148
  go_wp2
  go_ret
  exact ⟨rfl, rfl⟩
theorem isParts_yes (i : Int) (w : World) (hi : 1 ≤ i) (hi' : i ≤ 64) : Calls Tryz.prog 106 #[.int .i64 i] w fun e w' => e = .returned (.bool true) ∧ w = w' := by
  go_enter Tryz.func106, Tryz.ntmps106
  go_wp2
  go_ret
  exact ⟨rfl, rfl⟩
/-- Next of a word and an index. -/
theorem next_any (h i : Int) (w : World) (hh : isWordB h = true) (hi : 0 ≤ i) (hi' : i ≤ 1048575) :
    Calls Tryz.prog 217 #[.int .i64 h, .int .i64 i] w fun e w' => e = .returned (.tuple #[.int .i64 (packW i ((tagW h + 1) % T40)), .int .i64 0]) ∧ w = w' := by
  have hw := isWord_any h w
  rw [hh] at hw
  have h0 : 0 ≤ tagW h ∧ tagW h ≤ 1099511627775 := by unfold tagW T40; split <;> omega
  have hp : bits .or .i64 (i * 1099511627776) (bits .and .i64 (tagW h + 1) 1099511627775) = packW i ((tagW h + 1) % T40) := by
    generalize tagW h = x at *
    obtain ⟨m, rfl⟩ := Int.eq_ofNat_of_zero_le h0.1
    have e : ((m : Int) + 1) = ((m + 1 : Nat) : Int) := by simp
    have e2 : bits .and .i64 ((m : Int) + 1) 1099511627775 = ((m : Int) + 1) % T40 := by
      rw [e]
      show bits .and .i64 _ ((1099511627775 : Nat) : Int) = _
      rw [i64_and_nat _ _ (by omega) (by omega), and_tag]
      unfold T40
      simp
    rw [e2, pack_or _ _ hi hi' (by unfold T40; omega) (by unfold T40; omega)]
  have HP := Lib.hid hp
  clear hp hh
  obtain ⟨h1, h2⟩ := h0
  go_enter Tryz.func217, Tryz.ntmps217
  go_wp2_with (first | (go_at_call 148; refine (isIndex_yes _ _ hi hi').mono ?_; rintro e w' ⟨rfl, rfl⟩) | (go_at_call 156; refine hw.mono ?_; rintro e w' ⟨rfl, rfl⟩) | (go_at_call 84; refine (tag_any _ _).mono ?_; rintro e w' ⟨rfl, rfl⟩))
  go_ret2
  exact ⟨ret_int2 HP.out rfl, rfl⟩
theorem isKey_any (k : Int) (w : World) : Calls Tryz.prog 105 #[.int .i64 k] w fun e w' => e = .returned (.bool (keyB k)) ∧ w = w' := by
  go_enter Tryz.func105, Tryz.ntmps105
  go_wp2
  all_goals
    go_ret
    refine ⟨ret_bool ?_, rfl⟩
    unfold keyB K32
    rw [Bool.eq_iff_iff]
    simp
    omega
theorem keyB_iff (k : Int) : keyB k = true ↔ 0 ≤ k ∧ k ≤ 4294967295 := by
  unfold keyB K32
  simp
  omega
/-- Part of a key and of so many parts. -/
theorem part_yes (k n : Int) (w : World) (hk : keyB k = true) (h1 : 1 ≤ n) (h2 : n ≤ 64) :
    Calls Tryz.prog 47 #[.int .i64 k, .int .i64 n] w fun e w' => e = .returned (.tuple #[.int .i64 (partOf k n), .int .i64 0]) ∧ w = w' := by
  have hw := isKey_any k w
  rw [hk] at hw
  obtain ⟨g1, g2⟩ := (keyB_iff k).1 hk
  have g3 : 0 ≤ k * n := Int.mul_nonneg g1 (by omega)
  have g4 : k * n ≤ 4294967295 * 64 := Int.mul_le_mul g2 h2 (by omega) (by omega)
  unfold partOf K32
  go_enter Tryz.func47, Tryz.ntmps47
  go_wp2_with (first | (go_at_call 105; refine hw.mono ?_; rintro e w' ⟨rfl, rfl⟩) | (go_at_call 106; refine (isParts_yes _ _ h1 h2).mono ?_; rintro e w' ⟨rfl, rfl⟩))
  go_ret2
  exact ⟨ret_int2 rfl rfl, rfl⟩
theorem part_no (k n : Int) (w : World) (hk : keyB k = false) :
    Calls Tryz.prog 47 #[.int .i64 k, .int .i64 n] w fun e w' => e = .returned (.tuple #[.int .i64 0, .int .i64 12]) ∧ w = w' := by
  have hw := isKey_any k w
  rw [hk] at hw
  clear hk
  go_enter Tryz.func47, Tryz.ntmps47
  go_wp2_with (go_at_call 105; refine hw.mono ?_; rintro e w' ⟨rfl, rfl⟩)
  go_ret2
  exact ⟨rfl, rfl⟩

theorem placeX_big : ∀ (n x : Nat), x < 2 ^ n → ∀ m, x < 2 ^ m → placeX n x = placeX m x
  | 0, x, h, m, _ => by
    have : x = 0 := by simpa using h
    subst this
    cases m <;> simp [placeX]
  | n + 1, x, h, 0, h' => by
    have : x = 0 := by simpa using h'
    subst this
    simp [placeX]
  | n + 1, x, h, m + 1, h' => by
    simp only [placeX]
    rw [placeX_big n (x / 2) (by rw [Nat.pow_succ] at h; omega) m (by rw [Nat.pow_succ] at h'; omega)]
theorem placeX_half (x : Nat) (hx : x < 8589934592) (h0 : x ≠ 0) : placeX 33 x = 1 + placeX 33 (x / 2) := by
  rw [show placeX 33 x = 1 + placeX 32 (x / 2) by simp [placeX, h0], placeX_big 32 (x / 2) (by omega) 33 (by omega)]
theorem placeX_byte (x : Nat) (hx : x < 8589934592) (h0 : 256 ≤ x) : placeX 33 x = 8 + placeX 33 (x / 256) := by
  rw [placeX_half x hx (by omega), placeX_half (x / 2) (by omega) (by omega), placeX_half (x / 2 / 2) (by omega) (by omega), placeX_half (x / 2 / 2 / 2) (by omega) (by omega), placeX_half (x / 2 / 2 / 2 / 2) (by omega) (by omega),
    placeX_half (x / 2 / 2 / 2 / 2 / 2) (by omega) (by omega), placeX_half (x / 2 / 2 / 2 / 2 / 2 / 2) (by omega) (by omega), placeX_half (x / 2 / 2 / 2 / 2 / 2 / 2 / 2) (by omega) (by omega)]
  have : x / 2 / 2 / 2 / 2 / 2 / 2 / 2 / 2 = x / 256 := by omega
  rw [this]
  omega
theorem placeX_bound : ∀ (n x : Nat), -1 ≤ placeX n x ∧ placeX n x < n
  | 0, _ => by simp [placeX]
  | n + 1, x => by
    have := placeX_bound n (x / 2)
    unfold placeX
    split <;> omega
theorem isKey_nat (a : Nat) (w : World) (ha : Hid (a < 4294967296)) : Calls Tryz.prog 105 #[.int .i64 (a : Int)] w fun e w' => e = .returned (.bool true) ∧ w = w' := by
  have h := isKey_any (a : Int) w
  rw [(keyB_iff _).2 (by have := ha.out; omega)] at h
  exact h
def Num33 (n : Nat) : Prop := n < 8589934592
set_option maxHeartbeats 400000 in
set_option maxRecDepth 100000 in
set_option maxHeartbeats 400000 in
theorem place_any (a b : Nat) (w : World) (ha : a < 4294967296) (hb : b < 4294967296) :
    Calls Tryz.prog 230 #[.int .i64 a, .int .i64 b] w fun e w' => e = .returned (.tuple #[.int .i64 (placeOf a b), .int .i64 0]) ∧ w = w' := by
  have HA := Lib.hid ha
  have HB := Lib.hid hb
  have hx : bits .xor .i64 (a : Int) (b : Int) = ((a ^^^ b : Nat) : Int) := i64_xor_nat a b (by omega) (by omega)
  have hlt : a ^^^ b < 4294967296 := show a ^^^ b < 2 ^ 32 from Nat.xor_lt_two_pow (by omega) (by omega)
  unfold placeOf
  generalize hX : a ^^^ b = X at hx hlt
  have HLT := Lib.hid hlt
  have HX := Lib.hid hx
  clear hx
  clear hX ha hb hlt
  go_enter Tryz.func230, Tryz.ntmps230
  go_wp2_with (go_at_call 105; refine (isKey_nat _ _ (by first | exact HA | exact HB)).mono ?_; rintro e w' ⟨rfl, rfl⟩)
  go_loop [6, 7] (fun t x => ∃ (n : Nat) (m : Int), Num33 n ∧ -1 ≤ m ∧ m ≤ 100 ∧ x = .int .i64 n ∧ t = .int .i64 m ∧ m + 1 + placeX 33 n = placeX 33 X) (fun _ x => (intOf x).toNat)
  case atStart => exact ⟨X, -1, by have := HLT.out; unfold Num33; omega, by omega, by omega, by rw [HX.out], rfl, by omega⟩
  case round =>
    obtain ⟨n, m, hn, h1, h2, rfl, rfl, hm⟩ := hrel
    have HM := Lib.hid hm
    clear hm
    by_cases hbig : 256 ≤ n
    · have h3 : m ≤ 40 := by
        have := placeX_bound 33 X
        have := placeX_bound 33 n
        have := HM.out
        omega
      have hs := Lib.hid (placeX_byte n hn hbig)
      go_wp2_with fail
      go_round
      case rel => exact ⟨n / 256, m + 8, by unfold Num33 at hn ⊢; omega, by omega, by omega, by simp, by go_num, by have := hs.out; have := HM.out; omega⟩
      case measure => simp [intOf]; omega
    · go_wp2_with fail
      go_loop [6, 7] (fun t x => ∃ (n : Nat) (m : Int), Num33 n ∧ -1 ≤ m ∧ m ≤ 100 ∧ x = .int .i64 n ∧ t = .int .i64 m ∧ m + 1 + placeX 33 n = placeX 33 X) (fun _ x => (intOf x).toNat)
      case atStart => exact ⟨n, m, hn, h1, h2, rfl, rfl, HM.out⟩
      case round =>
        obtain ⟨n, m, hn, h1, h2, rfl, rfl, hm⟩ := hrel
        have HM := Lib.hid hm
        clear hm
        by_cases hz : n = 0
        · subst hz
          go_wp2_with fail
          go_ret2
          exact ⟨ret_int2 (by have := HM.out; simp [placeX] at this ⊢; omega) rfl, rfl⟩
        · have hpos : 0 < n := by omega
          have h3 : m ≤ 40 := by
            have := placeX_bound 33 X
            have := placeX_bound 33 n
            have := HM.out
            omega
          have hs := Lib.hid (placeX_half n hn hz)
          have hn' : (n : Int) < 8589934592 := by unfold Num33 at hn; omega
          clear hz
          go_wp2_with fail
          go_round
          case rel => exact ⟨n / 2, m + 1, by unfold Num33 at hn ⊢; omega, by omega, by omega, by simp, by go_num, by have := hs.out; have := HM.out; omega⟩
          case measure => simp [intOf]; omega
end Go.Proofs.YteeefedoffplmaaGreat
