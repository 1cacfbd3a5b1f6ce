/- A pool's Free; package trie: key, none, New, half, span. Conditions: the pool lies in memory; an inner node's place is below 32, its first key a key. -/
import Derived.Test.YteeefedoffplmaaGreatSet
import Derived.Handy
namespace Go.Proofs.YteeefedoffplmaaGreat
open Go.RowKit

theorem free_any (w : World) (L : PoolL) (S : PoolS) (hp : PoolAt w L S) (res : List Int) (hr : S.places = some res) : Calls Tryz.prog 57 #[ptr L.pb] w (NewInts res w) := by
  have hpl := places_any w L S hp res hr
  have c1 : w.cell? ⟨L.pb, 1, none⟩ = some (ptr L.fb) := hp.p.cell rfl
  unfold ptr at *
  clear hp hr
  go_enter Tryz.func57, Tryz.ntmps57
  go_wp2_with (go_at_call 120; refine hpl.mono ?_; rintro e w1 ⟨sv, rfl, hown, ho⟩; obtain ⟨A, c, rfl, hrow, _⟩ := row_of_own hown; have HO := Lib.hid ho; have HOW := Lib.hid hown; clear hown ho hrow hpl)
  go_ret
  exact ⟨_, rfl, HOW.out, HO.out⟩

theorem key_any (k : Int) (w : World) : Calls Tryz.prog 195 #[.int .i64 k] w fun e w' => e = .returned (.bool (keyB k)) ∧ w = w' := by
  go_enter Tryz.func195, Tryz.ntmps195
  go_wp2
  all_goals
    go_ret
    refine ⟨ret_bool ?_, rfl⟩
    unfold keyB K32
    rw [Bool.eq_iff_iff]
    simp
    try omega
theorem none_any (n : Int) (w : World) : Calls Tryz.prog 196 #[.pointer none, .int .i64 n] w fun e w' => e = .returned (.int .i64 n) ∧ w = w' := by
  have hs := step_nil w
  go_enter Tryz.func196, Tryz.ntmps196
  go_wp2_with (go_at_call 71; refine hs.mono ?_; rintro e w' ⟨rfl, rfl⟩)
  go_ret
  exact ⟨rfl, rfl⟩
/-- an inner node's value. -/
def innerV (p : Nat) (f l r c : Int) : Value := .agg #[.int .i64 (p : Int), .int .i64 f, .int .i64 l, .int .i64 r, .int .i64 c]
theorem pow32 (p : Nat) (hp : p < 33) : 1 ≤ pow2 p ∧ pow2 p ≤ 4294967296 := by
  have h3 : 2 ^ p ≤ 2 ^ 32 := Nat.pow_le_pow_right (by omega) (show p ≤ 32 by omega)
  have h4 : 1 ≤ 2 ^ p := Nat.one_le_two_pow
  unfold pow2
  generalize 2 ^ p = q at *
  omega
theorem pow_cast (p : Nat) : (2 : Int) ^ p = pow2 p := by unfold pow2; simp
theorem pow_two (p : Nat) : 2 * (2 : Int) ^ p = pow2 (p + 1) := by unfold pow2; rw [Nat.pow_succ]; simp; omega
theorem half_any (p : Nat) (f l r c : Int) (hp : p < 32) (hf : 0 ≤ f ∧ f < 4294967296) (w : World) :
    Calls Tryz.prog 222 #[innerV p f l r c] w fun e w' => e = .returned (.int .i64 (f + pow2 p)) ∧ Only [] w w' := by
  have h3 := pow32 p (by omega)
  have e1 : wrap64 ((2 : Int) ^ p) = pow2 p := by rw [pow_cast]; exact IntWalk.wrap64_in _ (by omega)
  have e2 : wrap64 (f + pow2 p) = f + pow2 p := IntWalk.wrap64_in _ (by omega)
  unfold innerV
  have HE1 := Lib.hid e1; have HE2 := Lib.hid e2
  clear hf h3 e1 e2
  go_enter Tryz.func222, Tryz.ntmps222
  go_wp2_with fail
  go_quiet (fail)
  go_wp2_with fail
  go_ret
  refine ⟨?_, ((Only.refl _ _).alloc _).drewN _⟩
  show Ending.returned (.int .i64 (wrap64 (f + wrap64 (2 ^ p)))) = _
  rw [HE1.out, HE2.out]
theorem spanInner_any (p : Nat) (f l r c : Int) (hp : p < 32) (hf : 0 ≤ f ∧ f < 4294967296) (w : World) :
    Calls Tryz.prog 241 #[innerV p f l r c] w fun e w' => e = .returned (.tuple #[.int .i64 f, .int .i64 (f + pow2 (p + 1) - 1)]) ∧ Only [] w w' := by
  have h3 := pow32 (p + 1) (by omega)
  have e1 : wrap64 (2 * (2 : Int) ^ p) = pow2 (p + 1) := by rw [pow_two]; exact IntWalk.wrap64_in _ (by omega)
  have e2 : wrap64 (f + pow2 (p + 1)) = f + pow2 (p + 1) := IntWalk.wrap64_in _ (by omega)
  have e3 : wrap64 (f + pow2 (p + 1) - 1) = f + pow2 (p + 1) - 1 := IntWalk.wrap64_in _ (by omega)
  unfold innerV
  have HE1 := Lib.hid e1; have HE2 := Lib.hid e2; have HE3 := Lib.hid e3
  clear hf h3 e1 e2 e3
  go_enter Tryz.func241, Tryz.ntmps241
  go_wp2_with fail
  go_quiet (fail)
  go_wp2_with fail
  go_ret2
  refine ⟨?_, ((Only.refl _ _).alloc _).drewN _⟩
  show Ending.returned (.tuple #[.int .i64 f, .int .i64 (wrap64 (wrap64 (f + wrap64 (2 * 2 ^ p)) - 1))]) = _
  rw [HE1.out, HE2.out, HE3.out]
theorem spanLeaf_any (k v : Int) (w : World) :
    Calls Tryz.prog 268 #[.agg #[.int .i64 k, .int .i64 v]] w fun e w' => e = .returned (.tuple #[.int .i64 k, .int .i64 k]) ∧ Only [] w w' := by
  go_enter Tryz.func268, Tryz.ntmps268
  go_wp2_with fail
  go_quiet (fail)
  go_wp2_with fail
  go_ret2
  exact ⟨rfl, ((Only.refl _ _).alloc _).drewN _⟩
theorem trieNew_any (w : World) (pb : Nat) :
    Calls Tryz.prog 43 #[ptr pb] w fun e w' => ∃ b, e = .returned (ptr b) ∧ Blk w' b [ptr pb] 187 ∧ w.heap.size ≤ b ∧ Only [] w w' := by
  unfold ptr
  go_enter Tryz.func43, Tryz.ntmps43
  go_wp2_with fail
  go_ret
  exact ⟨_, rfl, heap_alloc_new _ _, Nat.le_refl _, (Only.refl _ _).alloc _⟩
end Go.Proofs.YteeefedoffplmaaGreat

/- Package trie: shaped, has. Conditions: the node is a leaf or an inner node in shape. -/
namespace Go.Proofs.YteeefedoffplmaaGreat
open Go.RowKit

def Shape.val : Shape → Value
  | .leaf k v => .iface 307 (.agg #[.int .i64 k, .int .i64 v])
  | .inner p f l r c => .iface 335 (.agg #[.int .i64 (p : Int), .int .i64 f, .int .i64 l, .int .i64 r, .int .i64 c])
/-- what the parts of a shape keep. -/
def Shape.Ok : Shape → Prop
  | .leaf k v => keyB k = true ∧ In64 v
  | .inner p f l r c => p < 32 ∧ keyB f = true ∧ In64 l ∧ In64 r ∧ In64 c
set_option maxRecDepth 100000 in
theorem hasLeaf_any (k v x : Int) (w : World) :
    Calls Tryz.prog 221 #[(Shape.leaf k v).val, .int .i64 x] w fun e w' => e = .returned (.bool (decide (k ≤ x) && decide (x ≤ k))) ∧ Only [] w w' := by
  have hs := spanLeaf_any k v w
  unfold Shape.val
  go_enter Tryz.func221, Tryz.ntmps221
  go_wp2_with (go_at_call 268; refine hs.mono ?_; rintro e w' ⟨rfl, ho⟩; have HO := Lib.hid ho; clear ho)
  all_goals
    go_ret
    refine ⟨ret_bool ?_, HO.out⟩
    rw [Bool.eq_iff_iff]
    simp
    try omega
set_option maxRecDepth 100000 in
theorem hasInner_any (p : Nat) (f l r c x : Int) (hp : p < 32) (hf : 0 ≤ f ∧ f < 4294967296) (w : World) :
    Calls Tryz.prog 221 #[(Shape.inner p f l r c).val, .int .i64 x] w fun e w' => e = .returned (.bool (decide (f ≤ x) && decide (x ≤ f + pow2 (p + 1) - 1))) ∧ Only [] w w' := by
  have hs := spanInner_any p f l r c hp hf w
  unfold innerV at hs
  unfold Shape.val
  clear hf
  go_enter Tryz.func221, Tryz.ntmps221
  go_wp2_with (go_at_call 241; refine hs.mono ?_; rintro e w' ⟨rfl, ho⟩; have HO := Lib.hid ho; clear ho)
  all_goals
    go_ret
    refine ⟨ret_bool ?_, HO.out⟩
    rw [Bool.eq_iff_iff]
    simp
    try omega
set_option maxRecDepth 100000 in
theorem shapedLeaf_any (b c : Int) (hk : keyB b = true) (w : World) :
    Calls Tryz.prog 247 #[.agg #[.int .i64 0, .int .i64 b, .int .i64 c, .int .i64 1]] w fun e w' => e = .returned (.tuple #[(Shape.leaf b c).val, .bool true]) ∧ Only [] w w' := by
  have hkey := fun W => calls_rev (key_any b W)
  rw [hk] at hkey
  have HK := Lib.hid hkey
  unfold Shape.val
  clear hk hkey
  go_enter Tryz.func247, Tryz.ntmps247
  go_wp2_with fail
  go_quiet ((go_at_call 195; exact Calls.quiet_of_same (HK.out _)))
  go_wp2_with fail
  go_ret2
  exact ⟨rfl, ((Only.refl _ _).alloc _).drewN _⟩
set_option maxRecDepth 100000 in
theorem shapedInner_any (a l r c : Int) (h0 : 0 < a) (ha : In64 a) (hp : ((a - 1) % 64).toNat < 32) (hk : keyB ((a - 1) / 64) = true) (hm : (a - 1) / 64 % pow2 (((a - 1) % 64).toNat + 1) = 0) (w : World) :
    Calls Tryz.prog 247 #[.agg #[.int .i64 a, .int .i64 l, .int .i64 r, .int .i64 c]] w fun e w' => e = .returned (.tuple #[(Shape.inner ((a - 1) % 64).toNat ((a - 1) / 64) l r c).val, .bool true]) ∧ Only [] w w' := by
  have e0 : wrap64 (a - 1) = a - 1 := IntWalk.wrap64_in _ (by unfold In64 at ha; omega)
  have e1 : (a - 1).tmod 64 = (((a - 1) % 64).toNat : Int) := by rw [Int.tmod_eq_emod_of_nonneg (by omega)]; omega
  have e2 : (a - 1).tdiv 64 = (a - 1) / 64 := Int.tdiv_eq_ediv_of_nonneg (by omega)
  generalize ((a - 1) % 64).toNat = p at *
  generalize hf : (a - 1) / 64 = f at *
  have hb : 0 ≤ f ∧ f < 4294967296 := by unfold keyB K32 at hk; simp at hk; exact hk
  have h3 := pow32 (p + 1) (by omega)
  have e3 : wrap64 (2 * (2 : Int) ^ p) = pow2 (p + 1) := by rw [pow_two]; exact IntWalk.wrap64_in _ (by omega)
  have hkey := fun W => calls_rev (key_any f W)
  rw [hk] at hkey
  have HK := Lib.hid hkey
  have HE0 := Lib.hid e0; have HE1 := Lib.hid e1; have HE2 := Lib.hid e2; have HE3 := Lib.hid e3; have HB := Lib.hid hb; have HM := Lib.hid hm
  have HF := Lib.hid (show wrap64 f = f from IntWalk.wrap64_in _ (by omega))
  have HP := Lib.hid (show (p : Int) < 32 by omega)
  have HQ := Lib.hid (show pow2 (p + 1) ≠ 0 by omega)
  have HT := Lib.hid (show f.tmod (pow2 (p + 1)) = 0 by rw [Int.tmod_eq_emod_of_nonneg (by omega)]; exact hm)
  unfold Shape.val
  clear hk hkey e0 e1 e2 e3 ha hm hf hb h3 hp
  go_enter Tryz.func247, Tryz.ntmps247
  go_wp2_with fail
  rw [HE0.out, HE1.out, HE2.out, HF.out]
  have e3 := HE3.out
  have h32 := HP.out
  have hq0 := HQ.out
  have ht0 := HT.out
  generalize pow2 (p + 1) = q at *
  go_quiet ((go_at_call 195; exact Calls.quiet_of_same (HK.out _)))
  go_wp2_with fail
  go_ret2
  exact ⟨rfl, (((Only.refl _ _).alloc _).drewN _).alloc _⟩
end Go.Proofs.YteeefedoffplmaaGreat
