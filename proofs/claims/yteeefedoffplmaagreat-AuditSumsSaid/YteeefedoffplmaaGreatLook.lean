/- An audit's look: looks, handle, at, nodes of a leaf. Conditions: the store lies in memory; the slots' generations are tags. -/
import Derived.Test.YteeefedoffplmaaGreatGetters
import Derived.Test.YteeefedoffplmaaGreatSet
set_option linter.unusedSimpArgs false
set_option linter.unusedVariables false
namespace Go.Proofs.YteeefedoffplmaaGreat
open Go.RowKit

/-- a look in memory: the store, and its slots from 1 on. -/
structure LookAt (w : World) (lk : Nat) (Y : StoreL) (b c : Nat) (sl : List SlotS) : Prop where
  blk : Blk w lk [ptr Y.sb, .slice (some ⟨b, 0, none⟩) sl.length c] 137
  row : ∀ j s, sl[j]? = some s → ∀ k v, s.api[k]? = some v → w.cell? ⟨b, j * 7 + k, none⟩ = some v
  len : sl.length ≤ 4096
  gens : ∀ s ∈ sl, 0 ≤ s.gen ∧ s.gen ≤ 1099511627775
  blt : b < w.heap.size
theorem LookAt.only {w w' : World} {lk : Nat} {Y : StoreL} {b c : Nat} {sl : List SlotS} (h : LookAt w lk Y b c sl) {Z : List Nat} (ho : Only Z w w') (h1 : lk ∉ Z) (h2 : b ∉ Z) : LookAt w' lk Y b c sl :=
  ⟨h.blk.only ho h1, fun j s hs k v hv => cell_only ho (h.row j s hs k v hv) h2, h.len, h.gens, Nat.lt_of_lt_of_le h.blt ho.size⟩
def handleL (s : SlotS) (i : Nat) : Int := if s.gen % 2 = 0 then 0 else packW ((i : Int) + 1) s.gen
theorem looks_any (w : World) (Y : StoreL) (ed : Option Nat) (D : Nat → List Nat) (X : StoreS) (h : StoreIn w Y ed D X) (h1 : 2 ≤ X.pool.slots.length) (hg : ∀ s ∈ X.pool.slots, 0 ≤ s.gen ∧ s.gen ≤ 1099511627775) :
    Calls Tryz.prog 55 #[ptr Y.sb] w fun e w' => ∃ lk b c, e = .returned (ptr lk) ∧ LookAt w' lk Y b c (X.pool.slots.drop 1) ∧ w.heap.size ≤ lk ∧ w.heap.size ≤ b ∧ Only [] w w' := by
  have hpl := getPool w Y h.fixed
  have hsl := slots_any w Y.pool X.pool h.pool h.slots
  have hm := h.pool.most
  have HM := Lib.hid hm; have HG := Lib.hid hg; have H1 := Lib.hid h1
  unfold NewSlots at hsl
  unfold ptr at *
  clear h hm hg h1
  go_enter Tryz.func55, Tryz.ntmps55
  go_wp2_with (first | (go_at_call 16; refine hpl.mono ?_; rintro e w' ⟨rfl, rfl⟩) | (go_at_call 104; refine hsl.mono ?_; rintro e w1 ⟨sv, rfl, hown, ho⟩; obtain ⟨A, c, rfl, hrow, hnil⟩ := row_of_own hown; have HOWN := Lib.hid hown; have HROW := Lib.hid hrow; have HNIL := Lib.hid hnil; have HO := Lib.hid ho; clear hown hrow hnil ho))
  go_ret
  have h1 := H1.out
  obtain ⟨b, hA⟩ : ∃ b, A = some ⟨b, 0, none⟩ := by
    rcases HOWN.out.2 with ⟨h2, h3⟩ | ⟨g, cap, cur, h2, _⟩
    · simp at h3
      omega
    · injection h2 with h2
      exact ⟨g, h2⟩
  subst hA
  refine ⟨w1.heap.size, b, c, rfl, ⟨by rw [show (X.pool.slots.drop 1).length = X.pool.slots.length - 1 by simp]; exact Blk.new w1 [ptr Y.sb, .slice (some ⟨b, 0, none⟩) (X.pool.slots.length - 1) c] 137, fun j s hs k v hv => ?_, by simp; have := HM.out; omega, fun s hs => HG.out s (List.mem_of_mem_drop hs), Nat.lt_of_lt_of_le (HOWN.out.lt b rfl).2 (size_alloc_le _ _)⟩, HO.out.size, (HOWN.out.lt b rfl).1, HO.out.alloc _⟩
  have hk : k < 7 := (List.getElem?_eq_some_iff.1 hv).1
  obtain ⟨b', off, e1, hc⟩ := HROW.out (j * 7 + k) v ((flatMap_get SlotS.api 7 (fun _ => rfl) _ j s hs k hk).trans hv)
  injection e1 with e1
  injection e1 with e1 e2
  subst e1 e2
  rw [Nat.zero_add] at hc
  exact cell_alloc hc _
set_option maxRecDepth 100000 in
theorem handle_any (w : World) (lk : Nat) (Y : StoreL) (b c : Nat) (sl : List SlotS) (h : LookAt w lk Y b c sl) (i : Nat) (s : SlotS) (hs : sl[i]? = some s) :
    Calls Tryz.prog 58 #[ptr lk, .int .i64 (i : Int)] w fun e w' => e = .returned (.int .i64 (handleL s i)) ∧ w' = w := by
  have hil : i < sl.length := (List.getElem?_eq_some_iff.1 hs).1
  have hlen := h.len
  obtain ⟨g1, g2⟩ := h.gens s (List.mem_of_getElem? hs)
  have k0 := h.row i s hs 0 _ rfl
  rw [Nat.add_zero] at k0
  have c1 := h.blk.cell (i := 1) rfl
  have hi0 : (0 : Int) ≤ (i : Int) := by omega
  have hi1 : (i : Int) < (sl.length : Int) := by omega
  have hp := pack_any ((i : Int) + 1) s.gen w (by omega) (by omega) g1 g2
  unfold handleL
  unfold ptr
  by_cases hm : s.gen % 2 = 0
  · have e5 : (s.gen.tmod 2 == 0) = true := by rw [Int.tmod_eq_emod_of_nonneg g1]; simp [hm]
    have e6 : (s.gen % 2 == 0) = true := by simp [hm]
    rw [if_pos hm]
    generalize s.gen = gg at *
    generalize sl.length = n at *
    clear h hp hm hs
    go_enter Tryz.func58, Tryz.ntmps58
    go_wp2_with fail
    go_ret
    exact ⟨rfl, rfl⟩
  · have e5 : (s.gen.tmod 2 == 0) = false := by rw [Int.tmod_eq_emod_of_nonneg g1]; simp [hm]
    have e6 : (s.gen % 2 == 0) = false := by simp [hm]
    rw [if_neg hm]
    generalize s.gen = gg at *
    generalize sl.length = n at *
    clear h hm hs
    go_enter Tryz.func58, Tryz.ntmps58
    go_wp2_with (go_at_call 81; refine hp.mono ?_; rintro e w' ⟨rfl, rfl⟩)
    go_ret
    exact ⟨rfl, rfl⟩
/-- the slot of a handle in use. -/
structure LookYes (sl : List SlotS) (h : Int) (s : SlotS) : Prop where
  ex : ∃ j : Nat, sl[j]? = some s ∧ idxW h = (j : Int) + 1 ∧ handleL s j = h
  ne : h ≠ 0
set_option maxRecDepth 100000 in
set_option maxHeartbeats 800000 in
theorem lookAt_yes (w : World) (lk : Nat) (Y : StoreL) (b c : Nat) (sl : List SlotS) (hl : LookAt w lk Y b c sl) (h : Int) (s : SlotS) (hy : LookYes sl h s) :
    Calls Tryz.prog 121 #[ptr lk, .int .i64 h] w fun e w' => e = .returned (.tuple #[s.apiV, .bool true]) ∧ Only [] w w' := by
  obtain ⟨⟨j, hs, hi, hh⟩, hne⟩ := hy
  have hjl : j < sl.length := (List.getElem?_eq_some_iff.1 hs).1
  have hlen := hl.len
  obtain ⟨w0, hw0⟩ : ∃ w0, w.alloc (.cells #[.int .i64 0, .int .i64 0, .int .i64 0, .int .i64 0, .int .i64 0, .int .i64 0, .int .i64 0] 220) = w0 := ⟨_, rfl⟩
  have ho0 : Only [] w w0 := by rw [← hw0]; exact (Only.refl _ _).alloc _
  have hb0 : Blk w0 w.heap.size [.int .i64 0, .int .i64 0, .int .i64 0, .int .i64 0, .int .i64 0, .int .i64 0, .int .i64 0] 220 := by rw [← hw0]; exact Blk.new w _ 220
  have hl0 := hl.only ho0 (by simp) (by simp)
  have hix : ∀ W, Calls Tryz.prog 95 #[.int .i64 h] W fun e w' => e = .returned (.int .i64 ((j : Int) + 1)) ∧ W = w' := fun W => hi ▸ index_any h W
  have hhd := handle_any w0 lk Y b c sl hl0 j s hs
  rw [hh] at hhd
  have q0 : (h == 0) = false := by simp [hne]
  have q1 : (h != h) = false := by simp
  have k0 := hl0.row j s hs 0 _ rfl
  rw [Nat.add_zero] at k0
  have k1 := hl0.row j s hs 1 _ rfl
  have k2 := hl0.row j s hs 2 _ rfl
  have k3 := hl0.row j s hs 3 _ rfl
  have k4 := hl0.row j s hs 4 _ rfl
  have k5 := hl0.row j s hs 5 _ rfl
  have k6 := hl0.row j s hs 6 _ rfl
  have c1 := hl0.blk.cell (i := 1) rfl
  have hj0 : (0 : Int) ≤ (j : Int) := by omega
  have hj1 : (j : Int) < (sl.length : Int) := by omega
  have r0 := hb0.cell (i := 0) rfl
  have r1 := hb0.cell (i := 1) rfl
  have r2 := hb0.cell (i := 2) rfl
  have r3 := hb0.cell (i := 3) rfl
  have r4 := hb0.cell (i := 4) rfl
  have r5 := hb0.cell (i := 5) rfl
  have r6 := hb0.cell (i := 6) rfl
  have rf := hb0.frozen
  have HO0 := Lib.hid ho0; have HIX := Lib.hid hix
  unfold SlotS.apiV
  unfold ptr at *
  generalize sl.length = n at *
  obtain ⟨s0, s1, s2, ⟨s3, s4, s5, s6⟩⟩ := s
  dsimp only at *
  clear hl hl0 hs hi hh hne ho0 hb0 hix
  go_enter Tryz.func121, Tryz.ntmps121
  go_wp2_with (first | (go_at_call 95; refine (HIX.out _).mono ?_; rintro e w' ⟨rfl, rfl⟩) | (go_at_call 58; refine hhd.mono ?_; rintro e w0 ⟨rfl, rfl⟩))
  refine bodyPost_ret (v := .tuple #[.agg #[.int .i64 s0, .int .i64 s3, .int .i64 s4, .int .i64 s5, .int .i64 s6, .int .i64 s1, .int .i64 s2], .bool true]) (by simp [results, Tryz.results121, go_sem, r0, r1, r2, r3, r4, r5, r6]) rfl ⟨rfl, ?_⟩
  exact (((((((HO0.out.setCell (.inr (Nat.le_refl _)) _).setCell (.inr (Nat.le_refl _)) _).setCell (.inr (Nat.le_refl _)) _).setCell (.inr (Nat.le_refl _)) _).setCell (.inr (Nat.le_refl _)) _).setCell (.inr (Nat.le_refl _)) _).setCell (.inr (Nat.le_refl _)) _)
theorem row_new1 (W : World) (o : Obj) (cs : List Value) (t : TypeId) : Row ((W.alloc o).alloc (.cells cs.toArray t)) (some ⟨W.heap.size + 1, 0, none⟩) cs := by
  have := row_new (W.alloc o) cs t
  rwa [World.size_alloc] at this
set_option maxRecDepth 100000 in
set_option maxHeartbeats 800000 in
theorem nodesLeaf_any (w : World) (lk : Nat) (Y : StoreL) (b c : Nat) (sl : List SlotS) (hl : LookAt w lk Y b c sl) (h : Int) (s : SlotS) (hy : LookYes sl h s) (ha : s.node.a ≤ 0) :
    Calls Tryz.prog 122 #[ptr lk, .int .i64 h, .slice none 0 0] w (NewInts [h] w) := by
  have hat := lookAt_yes w lk Y b c sl hl h s hy
  have hgt : ¬ (0 < s.node.a) := by omega
  have hrn := fun W o => row_new1 W o [.int .i64 h] 3
  have HRN := Lib.hid hrn
  have HM1 := Lib.hid (show 0 + 1 ≤ maxLen from by unfold maxLen; omega)
  have HM2 := Lib.hid (show (0 + 1) * 8 ≤ 140737488355328 from by omega)
  unfold SlotS.apiV at hat
  unfold NewInts
  unfold ptr at *
  clear hl hy ha hrn
  obtain ⟨s0, s1, s2, ⟨s3, s4, s5, s6⟩⟩ := s
  dsimp only at *
  have hq : decide (s3 > 0) = false := by simpa using hgt
  go_enter Tryz.func122, Tryz.ntmps122
  go_wp2_with (first | (go_at_call 121; refine hat.mono ?_; rintro e w1 ⟨rfl, ho1⟩; have HO1 := Lib.hid ho1; have HB := Lib.hid (show w.heap.size ≤ w1.heap.size from ho1.size); clear ho1) | (at_builtin; refine wpList_append_is rfl (.tmp 18) (.tmp 20) rfl elemInt rfl (World.ownsRow_nil _ w.heap.size 3 1) _ 1 _ [.int .i64 h] rfl (HRN.out _ _) rfl (by simp [Value.oneCell']) HM1.out HM2.out (Nat.le_trans (Nat.le_trans HB.out (size_alloc_le _ _)) (size_alloc_le _ _)) (fun e => by cases e) ?_; intro v2 w4 hown2 hg2 hat2; obtain ⟨A2, c2', rfl, _, _⟩ := row_of_own hown2; have hb4 := blk_grown ((Blk.new w1 [.int .i64 s0, .int .i64 s3, .int .i64 s4, .int .i64 s5, .int .i64 s6, .int .i64 s1, .int .i64 s2] 220).alloc (.cells #[.int .i64 h] 3)) hg2 (show (Value.slice none 0 0).ownBlock ≠ some w1.heap.size from by simp [Value.ownBlock]); have d1 := hb4.cell (i := 1) rfl; have HW2 := Lib.hid hown2; have HG2 := Lib.hid (show World.grownBy _ w4 none from hg2); clear hown2 hg2 hat2 hb4))
  go_ret
  exact ⟨_, rfl, HW2.out, (((HO1.out.alloc _).alloc _)).grown HG2.out (fun k hk => by cases hk)⟩
end Go.Proofs.YteeefedoffplmaaGreat
