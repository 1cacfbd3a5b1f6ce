/- slices.Delete of one element, of a row of the call's own. Conditions: the index is in range. -/
import Derived.Test.YteeefedoffplmaaGreatRoom
namespace Go.Proofs.YteeefedoffplmaaGreat
open Go.RowKit

def Deleted (base e size : Nat) (v : Value) (n : Nat) (xs : List Value) (i : Nat) (w : World) (en : Ending) (w' : World) : Prop :=
  ∃ v', en = .returned v' ∧ w'.ownsRow base e size v' (n - 1) (xs.take (i * size) ++ xs.drop ((i + 1) * size)) ∧ v'.ownBlock = v.ownBlock ∧ w.grownBy w' v.ownBlock
theorem zero229 (w : World) : (zeroValue 229).run Tryz.prog w = .ok (.agg #[.int .i64 0, .int .i64 0]) w := by kernel_rfl
theorem one229 : ∀ v ∈ (Value.agg #[Value.int .i64 0, Value.int .i64 0]).cells.toList, v.oneCell' = true := by
  intro v hv
  simp [Value.cells] at hv
  subst hv
  rfl
theorem grown_trans {a b c : World} {row : Option Nat} (h : a.grownBy b row) (k : b.grownBy c row) : a.grownBy c row :=
  ⟨k.os.trans h.os, k.tape.trans h.tape, k.output.trans h.output, Nat.le_trans h.size k.size, fun i hi hn => (k.block i (Nat.lt_of_lt_of_le hi h.size) hn).trans (h.block i hi hn)⟩
theorem row_size {cur : Array Value} {xs : List Value} {i n cap size : Nat} (hcs : cur.size = cap * size) (hl : (xs.drop ((i + 1) * size)).length = (n - (i + 1)) * size) (hi : i < n) (hnc : n ≤ cap) :
    (cur.toList.take (i * size) ++ xs.drop ((i + 1) * size) ++ cur.toList.drop (i * size + (n - (i + 1)) * size)).toArray.size = cap * size := by
  have h1 : (n - (i + 1)) * size + (i + 1) * size = n * size := by rw [← Nat.add_mul]; congr 1; omega
  have h2 : n * size ≤ cap * size := Nat.mul_le_mul_right _ hnc
  have h3 : i * size ≤ cap * size := Nat.mul_le_mul_right _ (by omega)
  have h4 : (i + 1) * size = i * size + size := by rw [Nat.succ_mul]
  simp only [List.size_toArray, List.length_append, List.length_take, List.length_drop, Array.length_toList, hcs] at hl ⊢
  rw [hl]
  omega
theorem deleted_fin {base e size g n cap i : Nat} {cur : Array Value} {w2 : World} {xs : List Value} (hbg : base ≤ g) (hcm : cap ≤ 9223372036854775807) (hcur : cur.toList.take (n * size) = xs) (hcs : cur.size = cap * size) (hl : (xs.drop ((i + 1) * size)).length = (n - (i + 1)) * size)
    (hxl : xs.length = n * size) (hi : i < n) (hnc : n ≤ cap)
    (h2 : ∃ cur' : Array Value, w2.heap[g]? = some (.cells cur' e (0, 0)) ∧ cur'.size = (cur.toList.take (i * size) ++ xs.drop ((i + 1) * size) ++ cur.toList.drop (i * size + (n - (i + 1)) * size)).toArray.size ∧
      cur'.toList.take ((n - 1) * size) = (cur.toList.take (i * size) ++ xs.drop ((i + 1) * size) ++ cur.toList.drop (i * size + (n - (i + 1)) * size)).toArray.toList.take ((n - 1) * size)) :
    w2.ownsRow base e size (.slice (some ⟨g, 0, none⟩) (n - 1) cap) (n - 1) (xs.take (i * size) ++ xs.drop ((i + 1) * size)) := by
  obtain ⟨cur', hg, hsz, htk⟩ := h2
  have h0 : i * size + (n - (i + 1)) * size = (n - 1) * size := by rw [← Nat.add_mul]; congr 1; omega
  have h1 : i * size ≤ n * size := Nat.mul_le_mul_right _ (by omega)
  have h3 : n * size ≤ cap * size := Nat.mul_le_mul_right _ hnc
  have hlen : (xs.take (i * size) ++ xs.drop ((i + 1) * size)).length = (n - 1) * size := by
    rw [List.length_append, hl, List.length_take, hxl, Nat.min_eq_left h1, h0]
  refine ⟨hlen, .inr ⟨g, cap, cur', rfl, hbg, hg, by omega, by unfold maxLen; omega, by rw [hsz, row_size hcs hl hi hnc], ?_⟩⟩
  have htake : cur.toList.take (i * size) = xs.take (i * size) := by rw [← hcur, List.take_take, Nat.min_eq_left h1]
  rw [htk, htake]
  show List.take ((n - 1) * size) ((xs.take (i * size) ++ xs.drop ((i + 1) * size)) ++ _) = _
  rw [← hlen, List.take_left]
theorem grown_undrew {w w1 : World} {row : Option Nat} (h : w.drew.grownBy w1 row) : w.grownBy w1 row := ⟨h.os, h.tape, h.output, h.size, h.block⟩
set_option maxRecDepth 100000 in
set_option maxHeartbeats 1600000 in
theorem deleteWait (w : World) (base : Nat) (v : Value) (n : Nat) (xs : List Value) (hown : w.ownsRow base 229 2 v n xs) (hxs : ∀ u ∈ xs, u.oneCell' = true) (i : Nat) (hi : i < n) (hn : n ≤ 200000) :
    Calls Tryz.prog 139 #[v, .int .i64 (i : Int), .int .i64 ((i : Int) + 1)] w (Deleted base 229 2 v n xs i w) := by
  have hnil : ¬ (v = .slice none 0 0 ∧ n = 0) := by intro h; omega
  obtain ⟨hxl, hr | ⟨g, cap, cur, rfl, hbg, hg, hnc, hcm, hcs, hcur⟩⟩ := hown
  · exact absurd hr hnil
  have hrow : ∀ j, j ≤ n → Row w (some ⟨g, j * 2, none⟩) (xs.drop (j * 2)) := by
    intro j hj k u hu
    refine ⟨g, j * 2, rfl, ?_⟩
    rw [List.getElem?_drop, ← hcur, List.getElem?_take] at hu
    split at hu
    · simp only [World.cell?, hg]
      simpa using hu
    · cases hu
  have hdl : (xs.drop ((i + 1) * 2)).length = (n - (i + 1)) * 2 := by rw [List.length_drop, hxl, Nat.sub_mul]
  have HR := Lib.hid hrow; have HG := Lib.hid hg; have HCS := Lib.hid hcs; have HCUR := Lib.hid hcur; have HXL := Lib.hid hxl; have HXS := Lib.hid hxs; have HBG := Lib.hid hbg; have HDL := Lib.hid hdl
  unfold maxLen at hcm
  clear hrow hg hcs hcur hxl hxs hbg hdl hnil
  have hi1 : (i : Int) < n := by omega
  have h01 : (0 : Int) ≤ (i : Int) + 1 := by omega
  have e0 : ((i : Int) == (i : Int) + 1) = false := by simp; omega
  by_cases hcap : cap = i + 1
  · obtain rfl : n = i + 1 := by omega
    have HCAP := Lib.hid hcap
    subst hcap
    have hle : (i : Int) ≤ (i : Int) + 1 := by omega
    go_enter Tryz.func139, Tryz.ntmps139
    go_wp2_with fail
    refine wp_region_still_tail 6 (by kernel_rfl) (by kernel_rfl) ?_
    simp only [List.take_succ_cons, List.take_zero, List.drop_succ_cons, List.drop_zero]
    change wpStill _ _ (World.drew _) (fun a' => wpList _ _ _ _ a' (World.drew _)) _ _
    iterate 6 still_step
    refine wpStill_nil ?_
    go_wp2_with (first | (at_builtin; (refine wpList_append_room_is rfl (.tmp 22) (.tmp 25) rfl elemWait rfl HG.out _ 0 _ [] rfl (Row.nil _ _) rfl (by simp) (by omega) (by rw [HCS.out]; omega) (fun e => by first | cases e | omega) ?_); intro w1 hg1 hgr1 hsz1; have HG1 := Lib.hid hg1; have HGR1 := Lib.hid hgr1; clear hg1 hgr1 hsz1) | ((refine wpList_clear_is rfl (.tmp 31) rfl elemWait (zero229 _) rfl one229 rfl HG1.out (by have := HCS.out; simp; omega) ?_); intro w2 hg2 hgr2; have HG2 := Lib.hid hg2; have HGR2 := Lib.hid hgr2; clear hg2 hgr2))
    go_ret
    have hd0 : xs.drop ((i + 1) * 2) = [] := List.eq_nil_of_length_eq_zero (by rw [HDL.out]; simp)
    have h2 := HG2.out
    refine ⟨_, rfl, deleted_fin (n := i + 1) HBG.out (by omega) HCUR.out HCS.out HDL.out HXL.out (by omega) (by omega) (by rw [hd0]; simpa using h2), rfl, grown_trans (grown_undrew HGR1.out) HGR2.out⟩
  · have hle : (i : Int) ≤ cap := by omega
    have hle2 : (i : Int) + 1 ≤ cap := by omega
    have hle3 : (i : Int) + 1 ≤ n := by omega
    have hnc' : (n : Int) ≤ cap := by omega
    go_enter Tryz.func139, Tryz.ntmps139
    go_wp2_with fail
    refine wp_region_still_tail 6 (by kernel_rfl) (by kernel_rfl) ?_
    simp only [List.take_succ_cons, List.take_zero, List.drop_succ_cons, List.drop_zero]
    change wpStill _ _ (World.drew _) (fun a' => wpList _ _ _ _ a' (World.drew _)) _ _
    iterate 6 still_step
    refine wpStill_nil ?_
    go_wp2_with (first | (at_builtin; (refine wpList_append_room_is rfl (.tmp 22) (.tmp 25) rfl elemWait rfl HG.out _ (n - (i + 1)) _ (xs.drop ((i + 1) * 2)) rfl (HR.out (i + 1) (by omega)) HDL.out (fun u hu => HXS.out u (List.mem_of_mem_drop hu)) (by omega) (by rw [HCS.out]; omega) (fun e => by first | cases e | omega) ?_); intro w1 hg1 hgr1 hsz1; have HG1 := Lib.hid hg1; have HGR1 := Lib.hid hgr1; clear hg1 hgr1 hsz1) | ((refine wpList_clear_is rfl (.tmp 31) rfl elemWait (zero229 _) rfl one229 rfl HG1.out (by rw [row_size HCS.out HDL.out (by omega) (by omega)]; omega) ?_); intro w2 hg2 hgr2; have HG2 := Lib.hid hg2; have HGR2 := Lib.hid hgr2; clear hg2 hgr2))
    go_ret
    have e : i + (n - (i + 1)) = n - 1 := by omega
    have h2 := HG2.out
    rw [e] at h2
    refine ⟨_, rfl, ?_, rfl, grown_trans (grown_undrew HGR1.out) HGR2.out⟩
    rw [e]
    exact deleted_fin HBG.out (by omega) HCUR.out HCS.out HDL.out HXL.out (by omega) (by omega) h2

end Go.Proofs.YteeefedoffplmaaGreat

/- The epoch's Collect, for worker 0. Conditions: the epoch and the pool lie in memory; collect of the plain store answers. -/
namespace Go.Proofs.YteeefedoffplmaaGreat
open Go.RowKit

def ripeB (now : Int) (x : Int × Int) : Bool := decide (x.2 + 2 ≤ now)
theorem ripe_any (h e now : Int) (c : Nat) (w : World) (he : 0 ≤ e ∧ e ≤ 1099511627776) (hc : w.cell? ⟨c, 0, none⟩ = some (.int .i64 now)) :
    Calls Tryz.prog 137 #[.agg #[.int .i64 h, .int .i64 e], ptr c] w fun en w' => en = .returned (.bool (ripeB now (h, e))) ∧ Below w.heap.size w w' := by
  obtain ⟨h1, h2⟩ := he
  have hc' := cell_alloc hc (.cells #[.int .i64 h, .int .i64 e] 229)
  unfold ptr ripeB
  clear hc
  go_enter Tryz.func137, Tryz.ntmps137
  go_wp2_with fail
  go_ret
  exact ⟨rfl, (Below.refl _ _).alloc (Nat.le_refl _) _⟩
def IxRel (l : List (Int × Int)) (now : Int) (w : World) (k : Nat) (i : Value) (wr : World) : Prop :=
  ∃ j : Nat, j ≤ l.length ∧ i = .int .i64 j ∧ k = l.length - j ∧ (∀ x ∈ l.take j, ripeB now x = false) ∧ Only [] w wr
def idxI (o : Option Nat) : Int := match o with | some i => (i : Int) | none => -1
theorem findIdx_none {α : Type} {p : α → Bool} {l : List α} (h : ∀ x ∈ l, p x = false) : l.findIdx? p = none := by
  rw [List.findIdx?_eq_none_iff]
  exact h
theorem findIdx_some {α : Type} {p : α → Bool} {l : List α} {j : Nat} {x : α} (h : ∀ x ∈ l.take j, p x = false) (hx : l[j]? = some x) (hp : p x = true) : l.findIdx? p = some j := by
  obtain ⟨hj, hx'⟩ := List.getElem?_eq_some_iff.1 hx
  rw [List.findIdx?_eq_some_iff_getElem]
  refine ⟨hj, by rw [hx']; exact hp, fun k hk => ?_⟩
  have : l[k] ∈ l.take j := by
    rw [List.mem_iff_getElem]
    exact ⟨k, by simp; omega, by simp⟩
  simp [h _ this]
set_option maxRecDepth 100000 in
set_option maxHeartbeats 800000 in
theorem indexWait (w : World) (l : List (Int × Int)) (A : Option Addr) (cap c : Nat) (now : Int) (hrow : Row w A (waitCells l)) (hlen : l.length ≤ 100000) (hc : w.cell? ⟨c, 0, none⟩ = some (.int .i64 now)) (hok : ∀ x ∈ l, In64 x.1 ∧ 0 ≤ x.2 ∧ x.2 ≤ 1099511627776) :
    Calls Tryz.prog 136 #[.slice A l.length cap, .func (.func 137) #[] #[ptr c]] w fun e w' => e = .returned (.int .i64 (idxI (l.findIdx? (ripeB now)))) ∧ Only [] w w' := by
  have HR := Lib.hid hrow; have HC := Lib.hid hc; have HOK := Lib.hid hok
  unfold ptr
  clear hrow hc hok
  go_enter Tryz.func136, Tryz.ntmps136
  go_wp2_with fail
  go_loopg [8] l.length (fun k i wr => IxRel l now w k i wr)
  case atStart => exact ⟨0, Nat.zero_le _, rfl, rfl, by simp, Only.refl _ _⟩
  case round =>
    obtain ⟨j, hj, rfl, rfl, hno, ho⟩ := hrel
    have HO := Lib.hid ho; have HNO := Lib.hid hno
    clear ho hno
    by_cases hlt : j < l.length
    · have hlt' : (j : Int) < l.length := by omega
      obtain ⟨x, hx⟩ : ∃ x, l[j]? = some x := ⟨_, List.getElem?_eq_getElem hlt⟩
      have hg : ∀ i, i < 2 → (waitCells l)[j * 2 + i]? = [Value.int .i64 x.1, .int .i64 x.2][i]? := flatMap_get _ 2 (fun _ => rfl) l j x hx
      have hr2 : Row wr A (waitCells l) := HR.out.keep fun a v hc => cell_below HO.out.below hc
      obtain ⟨b, off, hA, h1⟩ := hr2 (j * 2 + 0) _ ((hg 0 (by omega)).trans rfl)
      obtain ⟨b', off', hA', h2⟩ := hr2 (j * 2 + 1) _ ((hg 1 (by omega)).trans rfl)
      subst hA
      simp only [Option.some.injEq, Addr.mk.injEq, and_true] at hA'
      obtain ⟨rfl, rfl⟩ := hA'
      have hrip := ripe_any x.1 x.2 now c wr (HOK.out x (List.mem_of_getElem? hx)).2 (cell_below HO.out.below HC.out)
      have HX := Lib.hid hx; have HRIP := Lib.hid hrip
      rw [Nat.add_zero] at h1
      rw [← Nat.add_assoc] at h2
      unfold ptr at HRIP
      clear hx hg hr2 hrip
      cases hb : ripeB now (x.1, x.2)
      all_goals
        have HB := Lib.hid hb
        rw [hb] at HRIP
        clear hb
        go_wp2_with (go_at_call 137; refine HRIP.out.mono ?_; rintro e w1 ⟨rfl, hb1⟩; have HO := Lib.hid (HO.out.trans (.of_below hb1)); clear hb1)
      · go_roundg (l.length - (j + 1))
        case measure => omega
        case rel => exact ⟨j + 1, by omega, by go_num, rfl, by
          rw [take_snoc HX.out]
          intro y hy
          rcases List.mem_append.1 hy with hy | hy
          · exact HNO.out y hy
          · obtain rfl := List.mem_singleton.1 hy
            exact HB.out, HO.out⟩
      · go_ret
        exact ⟨ret_int (by rw [findIdx_some HNO.out HX.out HB.out]; rfl), HO.out⟩
    · have hjl : j = l.length := by omega
      have HJ := Lib.hid hjl
      clear hjl
      go_wp2_with fail
      go_ret
      have := HNO.out
      rw [HJ.out, List.take_length] at this
      exact ⟨ret_int (by rw [findIdx_none this]; rfl), HO.out⟩
end Go.Proofs.YteeefedoffplmaaGreat
