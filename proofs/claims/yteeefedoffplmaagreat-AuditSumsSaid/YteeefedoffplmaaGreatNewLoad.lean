/- store.right of a small setup; load.New of two chains and a pair of the first part. Conditions: what is handed in lies in memory. -/
import Derived.Test.YteeefedoffplmaaGreatVersionsOf
import Derived.LoopN
set_option linter.unusedSimpArgs false
set_option linter.unusedVariables false
namespace Go.Proofs.YteeefedoffplmaaGreat
open Go.RowKit

theorem inRange_any (n m : Int) (h1 : 1 ≤ n) (h2 : n ≤ m) (w : World) : Calls Tryz.prog 98 #[.int .i64 n, .int .i64 m] w fun e w' => e = .returned (.bool true) ∧ w' = w := by
  go_enter Tryz.func98, Tryz.ntmps98
  go_wp2_with fail
  go_ret
  exact ⟨by simp, rfl⟩
set_option maxRecDepth 100000 in
theorem right_any (w : World) (sa sc : Nat) (k v : Int) (h0 : w.cell? ⟨sa, 0, none⟩ = some (.int .i64 k)) (h1 : w.cell? ⟨sa, 1, none⟩ = some (.int .i64 v)) (hk : keyB k = true) :
    Calls Tryz.prog 38 #[.agg #[.int .i64 2, .int .i64 2, .int .i64 20, .int .i64 2, .slice (some ⟨sa, 0, none⟩) 1 sc, .int .i64 0]] w fun e w' => e = .returned (.bool true) ∧ Only [] w w' := by
  have g0 := cell_alloc h0 (.cells #[.int .i64 2, .int .i64 2, .int .i64 20, .int .i64 2, .slice (some ⟨sa, 0, none⟩) 1 sc, .int .i64 0] 31)
  have g1 := cell_alloc h1 (.cells #[.int .i64 2, .int .i64 2, .int .i64 20, .int .i64 2, .slice (some ⟨sa, 0, none⟩) 1 sc, .int .i64 0] 31)
  have hin := fun n m a b W => inRange_any n m a b W
  obtain ⟨k1, k2⟩ := (keyB_iff k).1 hk
  have HIN := Lib.hid hin
  clear h0 h1 hk hin
  go_enter Tryz.func38, Tryz.ntmps38
  go_wp2_with (go_at_call 98; refine (HIN.out _ _ (by decide) (by decide) _).mono ?_; rintro e w' ⟨rfl, rfl⟩)
  refine wp_loop_rounds 2 ?_
  rw [rounds_succ]
  go_wp2_with fail
  all_goals (try (exfalso; omega))
  rw [rounds_succ]
  go_wp2_with fail
  go_ret
  exact ⟨rfl, ((Only.refl _ _).alloc _).alloc _⟩
theorem elemLp : ElemOk Tryz.prog 192 195 1 8 := elemOk_of (by kernel_rfl) (by decide) (.pointer none) (by kernel_rfl) rfl
theorem elemPair : ElemOk Tryz.prog 29 36 2 16 := elemOk_of (by kernel_rfl) (by decide) (.agg #[.int .i64 0, .int .i64 0]) (by kernel_rfl) rfl
theorem blk_new1 (W : World) (o : Obj) (cs : List Value) (t : TypeId) : Blk ((W.alloc o).alloc (.cells cs.toArray t)) (W.heap.size + 1) cs t := by
  have := Blk.new (W.alloc o) cs t
  rwa [World.size_alloc] at this
theorem own_cell {w : World} {base e n s : Nat} {g c : Nat} {xs : List Value} (h : w.ownsRow base e s (.slice (some ⟨g, 0, none⟩) n c) n xs) {j : Nat} {u : Value} (hu : xs[j]? = some u) : w.cell? ⟨g, j, none⟩ = some u := by
  have := h.cells (g := g) rfl j u hu
  rwa [addr_add, Nat.zero_add] at this
/-- an own row that is not empty. -/
theorem own_some {w : World} {base e size n : Nat} {v : Value} {xs : List Value} (h : w.ownsRow base e size v n xs) (hn : 0 < n) : ∃ g c, v = .slice (some ⟨g, 0, none⟩) n c := by
  rcases h.2 with ⟨_, h0⟩ | ⟨g, cap, cur, hv, _⟩
  · omega
  · exact ⟨g, cap, hv⟩
set_option maxRecDepth 100000 in
set_option maxHeartbeats 3200000 in
theorem loadNew_any (w : World) (pb x0 x1 ca cc sa sc : Nat) (k v : Int) (h0 : w.cell? ⟨ca, 0, none⟩ = some (ptr x0)) (h1 : w.cell? ⟨ca, 1, none⟩ = some (ptr x1)) (hk0 : w.cell? ⟨sa, 0, none⟩ = some (.int .i64 k)) (hk1 : w.cell? ⟨sa, 1, none⟩ = some (.int .i64 v)) (hk : keyB k = true) (hp : partOf k 2 = 0) :
    Calls Tryz.prog 45 #[ptr pb, .slice (some ⟨ca, 0, none⟩) 2 cc, .slice (some ⟨sa, 0, none⟩) 1 sc, .int .i64 0] w fun e w' => ∃ ld lt lp0 lp1 g c q qc, e = .returned (ptr ld) ∧ Blk w' ld [ptr pb, ptr lt, .slice (some ⟨g, 0, none⟩) 2 c] 194 ∧ Blk w' lt [ptr pb] 187 ∧
      Blk w' lp0 [.int .i64 0, ptr x0, .slice (some ⟨q, 0, none⟩) 1 qc, .int .i64 0] 197 ∧ Blk w' lp1 [.int .i64 0, ptr x1, .slice none 0 0, .int .i64 0] 197 ∧ w'.cell? ⟨g, 0, none⟩ = some (ptr lp0) ∧ w'.cell? ⟨g, 1, none⟩ = some (ptr lp1) ∧ w'.cell? ⟨q, 0, none⟩ = some (.int .i64 k) ∧ w'.cell? ⟨q, 1, none⟩ = some (.int .i64 v) ∧
      (w.heap.size ≤ ld ∧ w.heap.size ≤ lt ∧ w.heap.size ≤ lp0 ∧ w.heap.size ≤ lp1 ∧ w.heap.size ≤ g ∧ w.heap.size ≤ q) ∧ (lp0 ≠ lp1 ∧ lp0 ≠ ld ∧ lp0 ≠ lt ∧ lp0 ≠ g ∧ lp0 ≠ q) ∧ (lp1 ≠ ld ∧ lp1 ≠ lt ∧ lp1 ≠ g ∧ lp1 ≠ q) ∧ Only [] w w' := by
  have htr := trieNew_any w pb
  have hpy := fun W => part_yes k 2 W hk (by omega) (by omega)
  rw [hp] at hpy
  have HPY := Lib.hid hpy; have H0 := Lib.hid h0; have H1 := Lib.hid h1; have HK0 := Lib.hid hk0; have HK1 := Lib.hid hk1
  have hcl := cell_lt h0
  have hsl := cell_lt hk0
  have HM1 := Lib.hid (show 0 + 1 ≤ maxLen from by unfold maxLen; omega)
  have HM2 := Lib.hid (show (0 + 1) * 8 ≤ 140737488355328 from by omega)
  unfold ptr at *
  clear h0 h1 hk0 hk1 hk hp hpy
  go_enter Tryz.func45, Tryz.ntmps45
  go_wp2_with (go_at_call 43; refine htr.mono ?_; rintro e w1 ⟨lt, rfl, hl1, hl2, ho1⟩; have HL1 := Lib.hid hl1; have HL2 := Lib.hid hl2; have HO1 := Lib.hid ho1; clear hl1 hl2 ho1)
  obtain ⟨W1, hW1⟩ : ∃ W1, w1.alloc (.cells #[.pointer (some ⟨pb, 0, none⟩), .pointer (some ⟨lt, 0, none⟩), .slice none 0 0] 194) = W1 := ⟨_, rfl⟩
  rw [hW1]
  have ho1 : Only [] w W1 := by rw [← hW1]; exact HO1.out.alloc _
  have hld : Blk W1 w1.heap.size [.pointer (some ⟨pb, 0, none⟩), .pointer (some ⟨lt, 0, none⟩), .slice none 0 0] 194 := by rw [← hW1]; exact Blk.new w1 _ 194
  have hlt : Blk W1 lt [.pointer (some ⟨pb, 0, none⟩)] 187 := by rw [← hW1]; exact HL1.out.alloc _
  have hll : lt < w1.heap.size := HL1.out.lt
  have hws : w.heap.size ≤ w1.heap.size := HO1.out.size
  clear hW1 htr
  generalize w1.heap.size = ld at *
  have q0 := cell_only ho1 H0.out (by simp)
  have q1 := cell_only ho1 H1.out (by simp)
  have d2 := hld.cell (i := 2) rfl
  have hldl := hld.lt
  have f2 := hld.frozen
  have HO2 := Lib.hid ho1; have HLD := Lib.hid hld; have HLT := Lib.hid hlt
  have HRN := Lib.hid (row_new1 W1 (.cells #[.int .i64 0, .pointer (some ⟨x0, 0, none⟩), .slice none 0 0, .int .i64 0] 197) [.pointer (some ⟨W1.heap.size, 0, none⟩)] 195)
  have HBS := Lib.hid (show w.heap.size ≤ ((W1.alloc (.cells #[.int .i64 0, .pointer (some ⟨x0, 0, none⟩), .slice none 0 0, .int .i64 0] 197)).alloc (.cells #[.pointer (some ⟨W1.heap.size, 0, none⟩)] 195)).heap.size from Nat.le_trans ho1.size (Nat.le_trans (size_alloc_le _ _) (size_alloc_le _ _)))
  clear ho1 hld hlt
  refine wp_loop_rounds 3 ?_
  rw [rounds_succ]
  go_wp2_with (at_builtin; refine wpList_append_is rfl (.tmp 31) (.tmp 37) rfl elemLp rfl (World.ownsRow_nil _ w.heap.size 195 1) _ 1 _ [.pointer (some ⟨W1.heap.size, 0, none⟩)] rfl HRN.out rfl (by simp [Value.oneCell']) HM1.out HM2.out HBS.out (fun e => by cases e) ?_; intro v2 w2 hown2 hg2 hat2; obtain ⟨g2, c2, rfl⟩ := own_some hown2 (by omega); have hld2 := blk_grown ((HLD.out.alloc (.cells #[.int .i64 0, .pointer (some ⟨x0, 0, none⟩), .slice none 0 0, .int .i64 0] 197)).alloc (.cells #[.pointer (some ⟨W1.heap.size, 0, none⟩)] 195)) hg2 (show (Value.slice none 0 0).ownBlock ≠ some ld from by simp [Value.ownBlock]); have d22 := hld2.cell (i := 2) rfl; have f22 := hld2.frozen; have HLD2 := Lib.hid hld2; have HOWN2 := Lib.hid hown2; have HG2 := Lib.hid (show World.grownBy _ w2 none from hg2); have HAT2 := Lib.hid hat2; clear hld2 hown2 hg2 hat2)
  obtain ⟨lp0, hlp0⟩ : ∃ lp0, W1.heap.size = lp0 := ⟨_, rfl⟩
  obtain ⟨W2, hW2⟩ : ∃ W2, w2.setCell ⟨ld, 2, none⟩ (.slice (some ⟨g2, 0, none⟩) (0 + 1) c2) = W2 := ⟨_, rfl⟩
  rw [Nat.zero_add] at hW2
  rw [hW2]
  have hg2e : g2 = lp0 + 2 := by
    rcases HAT2.out with e | e
    · cases e
    · have e : some g2 = some ((W1.alloc (.cells #[.int .i64 0, .pointer (some ⟨x0, 0, none⟩), .slice none 0 0, .int .i64 0] 197)).alloc (.cells #[.pointer (some ⟨W1.heap.size, 0, none⟩)] 195)).heap.size := e
      injection e with e
      simp at e
      omega
  have hglow : lp0 < g2 := by omega
  clear hg2e
  have hlow : ld < lp0 := by rw [← hlp0]; exact hldl
  have ho2 : Only [] W1 w2 := (((Only.refl [] W1).alloc _).alloc _).grown HG2.out (fun k hk => by cases hk)
  have hs2 : Only [ld] w2 W2 := by rw [← hW2]; exact (Only.refl _ _).setCell (.inl (by simp)) _
  have hw2 : Only [] w W2 := ((HO2.out.trans ho2).mono (Y := [ld]) (by simp)).trans hs2 |>.fresh (fun k hk hl => by simp at hk; omega)
  have hb_ld : Blk W2 ld [.pointer (some ⟨pb, 0, none⟩), .pointer (some ⟨lt, 0, none⟩), .slice (some ⟨g2, 0, none⟩) 1 c2] 194 := by rw [← hW2]; exact HLD2.out.set 2 _
  have hb_lt : Blk W2 lt [.pointer (some ⟨pb, 0, none⟩)] 187 := (HLT.out.only ho2 (by simp)).only hs2 (by simp; omega)
  have hb_0 : Blk W2 lp0 [.int .i64 0, .pointer (some ⟨x0, 0, none⟩), .slice none 0 0, .int .i64 0] 197 := by
    have h := Blk.new W1 [.int .i64 0, .pointer (some ⟨x0, 0, none⟩), .slice none 0 0, .int .i64 0] 197
    rw [hlp0] at h
    exact (blk_grown (h.alloc _) HG2.out (by simp)).only hs2 (by simp; omega)
  have hown : W2.ownsRow w.heap.size 195 1 (.slice (some ⟨g2, 0, none⟩) 1 c2) 1 [.pointer (some ⟨lp0, 0, none⟩)] := by
    have h := own_only HOWN2.out hs2 (fun k hk => by cases hk; simp; omega)
    rw [hlp0] at h
    exact h
  have r1 := cell_only hw2 H1.out (by simp)
  have e2 := hb_ld.cell (i := 2) rfl
  have ef := hb_ld.frozen
  have hsz2 : lp0 < W2.heap.size := hb_0.lt
  have hgl2 := (hown.lt g2 rfl).2
  have HLD3 := Lib.hid hb_ld; have HLT3 := Lib.hid hb_lt; have HB0 := Lib.hid hb_0; have HOWN3 := Lib.hid hown; have HW2 := Lib.hid hw2
  have HNE2 := Lib.hid (show some g2 ≠ some ld from fun e => by injection e with e; omega)
  have HM3 := Lib.hid (show 1 + 1 ≤ maxLen from by unfold maxLen; omega)
  have HM4 := Lib.hid (show (1 + 1) * 8 ≤ 140737488355328 from by omega)
  have HRN2 := Lib.hid (row_new1 W2 (.cells #[.int .i64 0, .pointer (some ⟨x1, 0, none⟩), .slice none 0 0, .int .i64 0] 197) [.pointer (some ⟨W2.heap.size, 0, none⟩)] 195)
  have HBS2 := Lib.hid (show w.heap.size ≤ ((W2.alloc (.cells #[.int .i64 0, .pointer (some ⟨x1, 0, none⟩), .slice none 0 0, .int .i64 0] 197)).alloc (.cells #[.pointer (some ⟨W2.heap.size, 0, none⟩)] 195)).heap.size from Nat.le_trans hw2.size (Nat.le_trans (size_alloc_le _ _) (size_alloc_le _ _)))
  clear hW2 ho2 hs2 hw2 hb_ld hb_lt hb_0 hown hlp0 q0 q1 d2 f2 d22 f22
  rw [rounds_succ]
  go_wp2_with (at_builtin; refine wpList_append_is rfl (.tmp 31) (.tmp 37) rfl elemLp rfl ((HOWN3.out.alloc _).alloc _) _ 1 _ [.pointer (some ⟨W2.heap.size, 0, none⟩)] rfl HRN2.out rfl (by simp [Value.oneCell']) HM3.out HM4.out HBS2.out (fun e => by cases e) ?_; intro v3 w3 hown3 hg3 hat3; obtain ⟨g3, c3, rfl⟩ := own_some hown3 (by omega); have hld3 := blk_grown ((HLD3.out.alloc (.cells #[.int .i64 0, .pointer (some ⟨x1, 0, none⟩), .slice none 0 0, .int .i64 0] 197)).alloc (.cells #[.pointer (some ⟨W2.heap.size, 0, none⟩)] 195)) hg3 HNE2.out; have d22 := hld3.cell (i := 2) rfl; have f22 := hld3.frozen; have HLD4 := Lib.hid hld3; have HOWN4 := Lib.hid hown3; have HG3 := Lib.hid (show World.grownBy _ w3 (some g2) from hg3); have HAT3 := Lib.hid (show some g3 = some g2 ∨ some g3 = some ((W2.alloc (.cells #[.int .i64 0, .pointer (some ⟨x1, 0, none⟩), .slice none 0 0, .int .i64 0] 197)).alloc (.cells #[.pointer (some ⟨W2.heap.size, 0, none⟩)] 195)).heap.size from hat3); clear hld3 hown3 hg3 hat3)
  obtain ⟨lp1, hlp1⟩ : ∃ lp1, W2.heap.size = lp1 := ⟨_, rfl⟩
  obtain ⟨W3, hW3⟩ : ∃ W3, w3.setCell ⟨ld, 2, none⟩ (.slice (some ⟨g3, 0, none⟩) (1 + 1) c3) = W3 := ⟨_, rfl⟩
  rw [show 1 + 1 = 2 from rfl] at hW3
  rw [hW3]
  have hg3e : g3 = g2 ∨ lp1 + 1 < g3 := by
    rcases HAT3.out with e | e
    · injection e with e
      exact .inl e
    · injection e with e
      simp at e
      omega
  have hg3l : lp0 < g3 := by omega
  have hg31 : g3 ≠ lp1 := by omega
  have hl01 : lp0 < lp1 := by omega
  have hg21 : g2 < lp1 := by omega
  clear hg3e
  have ho3 : Only [g2] W2 w3 := (((Only.refl [g2] W2).alloc _).alloc _).grown HG3.out (fun k hk => by cases hk; exact .inr (by simp))
  have hs3 : Only [ld] w3 W3 := by rw [← hW3]; exact (Only.refl _ _).setCell (.inl (by simp)) _
  have hw3 : Only [] w W3 := ((HW2.out.mono (Y := [ld, g2]) (by simp)).trans ((ho3.mono (by simp)).trans (hs3.mono (by simp)))).fresh (fun k hk hl => by simp at hk; omega)
  have hb_ld : Blk W3 ld [.pointer (some ⟨pb, 0, none⟩), .pointer (some ⟨lt, 0, none⟩), .slice (some ⟨g3, 0, none⟩) 2 c3] 194 := by rw [← hW3]; exact HLD4.out.set 2 _
  have hb_lt : Blk W3 lt [.pointer (some ⟨pb, 0, none⟩)] 187 := (HLT3.out.only ho3 (by simp; omega)).only hs3 (by simp; omega)
  have hb_0 : Blk W3 lp0 [.int .i64 0, .pointer (some ⟨x0, 0, none⟩), .slice none 0 0, .int .i64 0] 197 := (HB0.out.only ho3 (by simp; omega)).only hs3 (by simp; omega)
  have hb_1 : Blk W3 lp1 [.int .i64 0, .pointer (some ⟨x1, 0, none⟩), .slice none 0 0, .int .i64 0] 197 := by
    have h := Blk.new W2 [.int .i64 0, .pointer (some ⟨x1, 0, none⟩), .slice none 0 0, .int .i64 0] 197
    rw [hlp1] at h
    exact (blk_grown (h.alloc _) HG3.out (by simp; omega)).only hs3 (by simp; omega)
  have hown : W3.ownsRow w.heap.size 195 1 (.slice (some ⟨g3, 0, none⟩) 2 c3) 2 [.pointer (some ⟨lp0, 0, none⟩), .pointer (some ⟨lp1, 0, none⟩)] := by
    have h := own_only HOWN4.out hs3 (fun k hk => by cases hk; simp; omega)
    rw [hlp1] at h
    exact h
  have p0 := own_cell hown (j := 0) rfl
  have p1 := own_cell hown (j := 1) rfl
  have e2 := hb_ld.cell (i := 2) rfl
  have ef := hb_ld.frozen
  have u2 := hb_0.cell (i := 2) rfl
  have uf := hb_0.frozen
  have hsz3 : lp1 < W3.heap.size := hb_1.lt
  have hgl3 := (hown.lt g3 rfl).2
  have s0 := cell_only hw3 HK0.out (by simp)
  have s1 := cell_only hw3 HK1.out (by simp)
  have HLD5 := Lib.hid hb_ld; have HLT5 := Lib.hid hb_lt; have HB50 := Lib.hid hb_0; have HB51 := Lib.hid hb_1; have HOWN5 := Lib.hid hown; have HW3 := Lib.hid hw3
  clear hW3 ho3 hs3 hw3 hb_ld hb_lt hb_0 hb_1 hown hlp1 r1 d22 f22
  rw [rounds_succ]
  go_wp2_with fail
  refine wp_loop_rounds 2 ?_
  rw [rounds_succ]
  go_wp2_with (go_at_call 47; refine (HPY.out _).mono ?_; rintro e w5 ⟨rfl, rfl⟩)
  obtain ⟨W4, hW4⟩ : ∃ W4, W3.alloc (.cells #[.int .i64 k, .int .i64 v] 36) = W4 := ⟨_, rfl⟩
  try rw [hW4]
  have ho4 : Only [] W3 W4 := by rw [← hW4]; exact (Only.refl _ _).alloc _
  have hbp : Blk W4 W3.heap.size [.int .i64 k, .int .i64 v] 36 := by rw [← hW4]; exact Blk.new W3 _ 36
  have z0 := hbp.cell (i := 0) rfl
  have z1 := hbp.cell (i := 1) rfl
  have m2 := cell_only ho4 e2 (by simp)
  have n0 := cell_only ho4 p0 (by simp)
  have v2 := (HB50.out.only ho4 (by simp)).cell (i := 2) rfl
  have hsz4 : lp1 < W4.heap.size := Nat.lt_of_lt_of_le hsz3 ho4.size
  have HO4 := Lib.hid ho4
  have HB40 := Lib.hid (HB50.out.only ho4 (by simp))
  have HM5 := Lib.hid (show 0 + 1 ≤ maxLen from by unfold maxLen; omega)
  have HM6 := Lib.hid (show (0 + 1) * 16 ≤ 140737488355328 from by omega)
  have HRN4 := Lib.hid ((row_new W4 [.int .i64 k, .int .i64 v] 36).drewN 1)
  have HBS4 := Lib.hid (show w.heap.size ≤ ((W4.alloc (.cells #[.int .i64 k, .int .i64 v] 36)).drew).heap.size from Nat.le_trans (Nat.le_trans HW3.out.size ho4.size) (size_alloc_le _ _))
  have hl40 : lp0 < W4.heap.size := by omega
  have v2a := (HB40.out.alloc (.cells #[.int .i64 k, .int .i64 v] 36)).cell (i := 2) rfl
  have m2a := Lib.hid (show ((W4.alloc (.cells #[.int .i64 k, .int .i64 v] 36)).drew).cell? ⟨ld, 2, none⟩ = some (.slice (some ⟨g3, 0, none⟩) 2 c3) from cell_alloc m2 (.cells #[.int .i64 k, .int .i64 v] 36))
  have n0a := Lib.hid (show ((W4.alloc (.cells #[.int .i64 k, .int .i64 v] 36)).drew).cell? ⟨g3, 0, none⟩ = some (.pointer (some ⟨lp0, 0, none⟩)) from cell_alloc n0 (.cells #[.int .i64 k, .int .i64 v] 36))
  have z0a := Lib.hid (show ((W4.alloc (.cells #[.int .i64 k, .int .i64 v] 36)).drew).cell? ⟨W3.heap.size, 0, none⟩ = some (.int .i64 k) from cell_alloc z0 (.cells #[.int .i64 k, .int .i64 v] 36))
  have z1a := Lib.hid (show ((W4.alloc (.cells #[.int .i64 k, .int .i64 v] 36)).drew).cell? ⟨W3.heap.size, 1, none⟩ = some (.int .i64 v) from cell_alloc z1 (.cells #[.int .i64 k, .int .i64 v] 36))
  have HB4a := Lib.hid (show Blk ((W4.alloc (.cells #[.int .i64 k, .int .i64 v] 36)).drew) lp0 [.int .i64 0, .pointer (some ⟨x0, 0, none⟩), .slice none 0 0, .int .i64 0] 197 from HB40.out.alloc (.cells #[.int .i64 k, .int .i64 v] 36))
  clear hW4 ho4 hbp e2 ef u2 uf p0 p1 s0 s1
  refine wp_region_held_drew (S := (fun W => W.cell? ⟨ld, 2, none⟩ = some (.slice (some ⟨g3, 0, none⟩) 2 c3) ∧ W.cell? ⟨g3, 0, none⟩ = some (.pointer (some ⟨lp0, 0, none⟩)) ∧ W.cell? ⟨W3.heap.size, 0, none⟩ = some (.int .i64 k) ∧ W.cell? ⟨W3.heap.size, 1, none⟩ = some (.int .i64 v))) (by kernel_rfl) ?_ (fun hHeld => ?_)
  · exact ⟨m2, n0, z0, z1⟩
  refine wpAnyH_take (i := 0) (v := ?_) (by simp only [List.getElem?_toArray, List.getElem?_cons_succ, List.getElem?_cons_zero]; rfl) (by kernel_rfl) (by kernel_rfl) (by kernel_rfl) (by exact fun _ _ _ h => h) (Or.inl ⟨by rfl, ?_⟩) (by assumption) ?_
  rotate_left
  · intro w hSw; (try dsimp only at hSw); go_simp; try with_reducible rfl
  try simp only [Act.put, List.setIfInBounds_toArray, List.set_cons_zero, List.set_cons_succ]
  refine wpAnyH_take (i := 1) (v := ?_) (by simp only [List.getElem?_toArray, List.getElem?_cons_succ, List.getElem?_cons_zero]; rfl) (by kernel_rfl) (by kernel_rfl) (by kernel_rfl) (by exact fun _ _ _ h => h) (Or.inl ⟨by rfl, ?_⟩) (by assumption) ?_
  rotate_left
  · intro w hSw; (try dsimp only at hSw); go_simp; try with_reducible rfl
  try simp only [Act.put, List.setIfInBounds_toArray, List.set_cons_zero, List.set_cons_succ]
  refine wpAnyH_take (i := 2) (v := ?_) (by simp only [List.getElem?_toArray, List.getElem?_cons_succ, List.getElem?_cons_zero]; rfl) (by kernel_rfl) (by kernel_rfl) (by kernel_rfl) (by exact fun _ _ _ h => h) (Or.inl ⟨by rfl, ?_⟩) (by assumption) ?_
  rotate_left
  · intro w hSw; (try dsimp only at hSw); go_simp; try with_reducible rfl
  try simp only [Act.put, List.setIfInBounds_toArray, List.set_cons_zero, List.set_cons_succ]
  refine wpAnyH_take (i := 3) (v := ?_) (by simp only [List.getElem?_toArray, List.getElem?_cons_succ, List.getElem?_cons_zero]; rfl) (by kernel_rfl) (by kernel_rfl) (by kernel_rfl) (by exact fun _ _ _ h => h) (Or.inl ⟨by rfl, ?_⟩) (by assumption) ?_
  rotate_left
  · intro w hSw; (try dsimp only at hSw); go_simp; try with_reducible rfl
  try simp only [Act.put, List.setIfInBounds_toArray, List.set_cons_zero, List.set_cons_succ]
  refine wpAnyH_take (i := 4) (v := ?_) (by simp only [List.getElem?_toArray, List.getElem?_cons_succ, List.getElem?_cons_zero]; rfl) (by kernel_rfl) (by kernel_rfl) (by kernel_rfl) (by exact fun _ _ _ h => h) (Or.inl ⟨by rfl, ?_⟩) (by assumption) ?_
  rotate_left
  · intro w hSw; (try dsimp only at hSw); go_simp; try with_reducible rfl
  try simp only [Act.put, List.setIfInBounds_toArray, List.set_cons_zero, List.set_cons_succ]
  refine wpAnyH_take (i := 5) (v := ?_) (by simp only [List.getElem?_toArray, List.getElem?_cons_succ, List.getElem?_cons_zero]; rfl) (by kernel_rfl) (by kernel_rfl) (by kernel_rfl) (by exact fun _ _ _ h => h) (Or.inl ⟨by rfl, ?_⟩) (by assumption) ?_
  rotate_left
  · intro w hSw; (try dsimp only at hSw); go_simp; try with_reducible rfl
  try simp only [Act.put, List.setIfInBounds_toArray, List.set_cons_zero, List.set_cons_succ]
  refine wpAnyH_take (i := 6) (v := ?_) (by simp only [List.getElem?_toArray, List.getElem?_cons_succ, List.getElem?_cons_zero]; rfl) (by kernel_rfl) (by kernel_rfl) (by kernel_rfl) (by exact fun _ _ _ h => h) (Or.inl ⟨by rfl, ?_⟩) (by assumption) ?_
  rotate_left
  · intro w hSw; (try dsimp only at hSw); go_simp; try with_reducible rfl
  try simp only [Act.put, List.setIfInBounds_toArray, List.set_cons_zero, List.set_cons_succ]
  refine wpAnyH_take (i := 7) (v := ?_) (by simp only [List.getElem?_toArray, List.getElem?_cons_succ, List.getElem?_cons_zero]; rfl) (by kernel_rfl) (by kernel_rfl) (by kernel_rfl) (by exact fun _ _ _ h => h) (Or.inl ⟨by rfl, ?_⟩) (by assumption) ?_
  rotate_left
  · intro w hSw; (try dsimp only at hSw); go_simp; try with_reducible rfl
  try simp only [Act.put, List.setIfInBounds_toArray, List.set_cons_zero, List.set_cons_succ]
  refine wpAnyH_take (i := 8) (v := ?_) (by simp only [List.getElem?_toArray, List.getElem?_cons_succ, List.getElem?_cons_zero]; rfl) (by kernel_rfl) (by kernel_rfl) (by kernel_rfl) (by exact fun _ _ _ h => h) (Or.inl ⟨by rfl, ?_⟩) (by assumption) ?_
  rotate_left
  · intro w hSw; (try dsimp only at hSw); go_simp; try with_reducible rfl
  try simp only [Act.put, List.setIfInBounds_toArray, List.set_cons_zero, List.set_cons_succ]
  refine wpAnyH_take (i := 9) (v := ?_) (by simp only [List.getElem?_toArray, List.getElem?_cons_succ, List.getElem?_cons_zero]; rfl) (by kernel_rfl) (by kernel_rfl) (by kernel_rfl) (by exact fun _ _ _ h => h) (Or.inl ⟨by rfl, ?_⟩) (by assumption) ?_
  rotate_left
  · intro w hSw; (try dsimp only at hSw); go_simp; try with_reducible rfl
  try simp only [Act.put, List.setIfInBounds_toArray, List.set_cons_zero, List.set_cons_succ]
  refine wpAnyH_take (i := 10) (v := ?_) (by simp only [List.getElem?_toArray, List.getElem?_cons_succ, List.getElem?_cons_zero]; rfl) (by kernel_rfl) (by kernel_rfl) (by kernel_rfl) (by exact fun _ _ _ h => h) (Or.inl ⟨by rfl, ?_⟩) (by assumption) ?_
  rotate_left
  · intro w hSw; (try dsimp only at hSw); go_simp; try with_reducible rfl
  try simp only [Act.put, List.setIfInBounds_toArray, List.set_cons_zero, List.set_cons_succ]
  refine wpAnyH_take (i := 11) (v := ?_) (by simp only [List.getElem?_toArray, List.getElem?_cons_succ, List.getElem?_cons_zero]; rfl) (by kernel_rfl) (by kernel_rfl) (by kernel_rfl) (by exact fun _ _ _ h => h) (Or.inl ⟨by rfl, ?_⟩) (by assumption) ?_
  rotate_left
  · intro w hSw; (try dsimp only at hSw); go_simp; try with_reducible rfl
  try simp only [Act.put, List.setIfInBounds_toArray, List.set_cons_zero, List.set_cons_succ]
  refine wpAnyH_take (i := 12) (v := ?_) (by simp only [List.getElem?_toArray, List.getElem?_cons_succ, List.getElem?_cons_zero]; rfl) (by kernel_rfl) (by kernel_rfl) (by kernel_rfl) (by exact fun _ _ _ h => h) (Or.inl ⟨by rfl, ?_⟩) (by assumption) ?_
  rotate_left
  · intro w hSw; (try dsimp only at hSw); go_simp; try with_reducible rfl
  try simp only [Act.put, List.setIfInBounds_toArray, List.set_cons_zero, List.set_cons_succ]
  refine wpAnyH_take (i := 13) (v := ?_) (by simp only [List.getElem?_toArray, List.getElem?_cons_succ, List.getElem?_cons_zero]; rfl) (by kernel_rfl) (by kernel_rfl) (by kernel_rfl) (by exact fun _ _ _ h => h) (Or.inl ⟨by rfl, ?_⟩) (by assumption) ?_
  rotate_left
  · intro w hSw; (try dsimp only at hSw); go_simp; try with_reducible rfl
  try simp only [Act.put, List.setIfInBounds_toArray, List.set_cons_zero, List.set_cons_succ]
  refine wpAnyH_take (i := 14) (v := ?_) (by simp only [List.getElem?_toArray, List.getElem?_cons_succ, List.getElem?_cons_zero]; rfl) (by kernel_rfl) (by kernel_rfl) (by kernel_rfl) (by exact fun _ _ _ h => h) (Or.inl ⟨by rfl, ?_⟩) (by assumption) ?_
  rotate_left
  · intro w hSw; (try dsimp only at hSw); go_simp; try with_reducible rfl
  try simp only [Act.put, List.setIfInBounds_toArray, List.set_cons_zero, List.set_cons_succ]
  refine wpAnyH_take (i := 15) (v := ?_) (by simp only [List.getElem?_toArray, List.getElem?_cons_succ, List.getElem?_cons_zero]; rfl) (by kernel_rfl) (by kernel_rfl) (by kernel_rfl) (by exact fun _ _ _ h => h) (Or.inl ⟨by rfl, ?_⟩) (by assumption) ?_
  rotate_left
  · intro w hSw; (try dsimp only at hSw); go_simp; try with_reducible rfl
  try simp only [Act.put, List.setIfInBounds_toArray, List.set_cons_zero, List.set_cons_succ]
  refine wpAnyH_take (i := 17) (v := ?_) (by simp only [List.getElem?_toArray, List.getElem?_cons_succ, List.getElem?_cons_zero]; rfl) (by kernel_rfl) (by kernel_rfl) (by kernel_rfl) (by exact fun _ _ _ h => h) (Or.inl ⟨by rfl, ?_⟩) (by assumption) ?_
  rotate_left
  · intro w hSw; (try dsimp only at hSw); go_simp; try with_reducible rfl
  try simp only [Act.put, List.setIfInBounds_toArray, List.set_cons_zero, List.set_cons_succ]
  refine wpAnyH_ready (rs := [16, 18]) (by kernel_rfl) (by simp) ?_
  refine AllReadyH.cons (by simp only [List.getElem?_toArray, List.getElem?_cons_succ, List.getElem?_cons_zero]; rfl) (fun K hK => ?_) (AllReadyH.cons (by simp only [List.getElem?_toArray, List.getElem?_cons_succ, List.getElem?_cons_zero]; rfl) (fun K hK => ?_) AllReadyH.nil)
  go_simp
  refine hK.out _ _ ⟨m2, n0, z0, z1⟩ (fun hHeld => ?_)
  clear hK K
  try simp only [Act.put, List.setIfInBounds_toArray, List.set_cons_zero, List.set_cons_succ]
  refine wpAnyH_ready (rs := [18]) (by kernel_rfl) (by simp) ?_
  refine AllReadyH.cons (by simp only [List.getElem?_toArray, List.getElem?_cons_succ, List.getElem?_cons_zero]; rfl) (fun K hK => ?_) AllReadyH.nil
  go_simp
  refine hK.out _ _ ⟨cell_alloc m2 _, cell_alloc n0 _, cell_alloc z0 _, cell_alloc z1 _⟩ (fun hHeld => ?_)
  clear hK K
  try simp only [Act.put, List.setIfInBounds_toArray, List.set_cons_zero, List.set_cons_succ]
  refine wpAnyH_ready (rs := [19]) (by kernel_rfl) (by simp) ?_
  refine AllReadyH.cons (by simp only [List.getElem?_toArray, List.getElem?_cons_succ, List.getElem?_cons_zero]; rfl) (fun K hK => ?_) AllReadyH.nil
  refine step_append_is rfl (.tmp 74) (.tmp 76) rfl elemPair rfl (World.ownsRow_nil ((W4.alloc (.cells #[.int .i64 k, .int .i64 v] 36)).drew) w.heap.size 36 2) _ 1 _ [.int .i64 k, .int .i64 v] rfl HRN4.out rfl (by simp [Value.oneCell']) HM5.out HM6.out HBS4.out (fun e => by cases e) ?_; intro v5 w5 hown5 hg5 hat5; obtain ⟨g5, c5, rfl⟩ := own_some hown5 (by omega); have hg5' : World.grownBy ((W4.alloc (.cells #[.int .i64 k, .int .i64 v] 36)).drew) w5 none := hg5; have y1 := cell_far5 m2a.out hg5' (by simp); have y2 := cell_far5 n0a.out hg5' (by simp); have y3 := cell_far5 z0a.out hg5' (by simp); have y4 := cell_far5 z1a.out hg5' (by simp); have hb5 := blk_grown HB4a.out hg5' (by simp); have u2 := hb5.cell (i := 2) rfl; have uf := hb5.frozen; have HB5 := Lib.hid hb5; have HOWN6 := Lib.hid hown5; have HG5 := Lib.hid hg5'; have HAT5 := Lib.hid (show some g5 = none ∨ some g5 = some ((W4.alloc (.cells #[.int .i64 k, .int .i64 v] 36)).drew).heap.size from hat5); have hsl : Only [lp0] w5 (w5.setCell ⟨lp0, 2, none⟩ (.slice (some ⟨g5, 0, none⟩) (0 + 1) c5)) := ((Only.refl _ _).setCell (.inl (by simp)) _); clear hb5 hown5 hg5 hat5
  refine hK.out _ _ ⟨y1, y2, y3, y4⟩ (fun hHeld => ?_)
  clear hK K
  try simp only [Act.put, List.setIfInBounds_toArray, List.set_cons_zero, List.set_cons_succ]
  refine wpAnyH_take (i := 20) (v := ?_) (by simp only [List.getElem?_toArray, List.getElem?_cons_succ, List.getElem?_cons_zero]; rfl) (by kernel_rfl) (by kernel_rfl) (by kernel_rfl) (by exact fun _ _ _ h => h) (Or.inl ⟨by rfl, ?_⟩) (by assumption) ?_
  rotate_left
  · intro w hSw; (try dsimp only at hSw); go_simp; try with_reducible rfl
  try simp only [Act.put, List.setIfInBounds_toArray, List.set_cons_zero, List.set_cons_succ]
  refine wpAnyH_take (i := 21) (v := ?_) (by simp only [List.getElem?_toArray, List.getElem?_cons_succ, List.getElem?_cons_zero]; rfl) (by kernel_rfl) (by kernel_rfl) (by kernel_rfl) (by exact fun _ _ _ h => h) (Or.inl ⟨by rfl, ?_⟩) (by assumption) ?_
  rotate_left
  · intro w hSw; (try dsimp only at hSw); go_simp; try with_reducible rfl
  try simp only [Act.put, List.setIfInBounds_toArray, List.set_cons_zero, List.set_cons_succ]
  refine wpAnyH_ready (rs := [22]) (by kernel_rfl) (by simp) ?_
  refine AllReadyH.cons (by simp only [List.getElem?_toArray, List.getElem?_cons_succ, List.getElem?_cons_zero]; rfl) (fun K hK => ?_) AllReadyH.nil
  go_simp
  refine hK.out _ _ ⟨cell_only hsl y1 (by simp; omega), cell_only hsl y2 (by simp; omega), cell_only hsl y3 (by simp; omega), cell_only hsl y4 (by simp; omega)⟩ (fun hHeld => ?_)
  clear hK K
  try simp only [Act.put, List.setIfInBounds_toArray, List.set_cons_zero, List.set_cons_succ]
  refine wpAnyH_done (by kernel_rfl) ?_ _
  rotate_left 1
  go_simp
  refine hK.out _ _ ⟨cell_alloc m2 _, cell_alloc n0 _, cell_alloc z0 _, cell_alloc z1 _⟩ (fun hHeld => ?_)
  clear hK K
  try simp only [Act.put, List.setIfInBounds_toArray, List.set_cons_zero, List.set_cons_succ]
  refine wpAnyH_ready (rs := [16]) (by kernel_rfl) (by simp) ?_
  refine AllReadyH.cons (by simp only [List.getElem?_toArray, List.getElem?_cons_succ, List.getElem?_cons_zero]; rfl) (fun K hK => ?_) AllReadyH.nil
  go_simp
  refine hK.out _ _ ⟨cell_alloc m2 _, cell_alloc n0 _, cell_alloc z0 _, cell_alloc z1 _⟩ (fun hHeld => ?_)
  clear hK K
  try simp only [Act.put, List.setIfInBounds_toArray, List.set_cons_zero, List.set_cons_succ]
  refine wpAnyH_ready (rs := [19]) (by kernel_rfl) (by simp) ?_
  refine AllReadyH.cons (by simp only [List.getElem?_toArray, List.getElem?_cons_succ, List.getElem?_cons_zero]; rfl) (fun K hK => ?_) AllReadyH.nil
  refine step_append_is rfl (.tmp 74) (.tmp 76) rfl elemPair rfl (World.ownsRow_nil ((W4.alloc (.cells #[.int .i64 k, .int .i64 v] 36)).drew) w.heap.size 36 2) _ 1 _ [.int .i64 k, .int .i64 v] rfl HRN4.out rfl (by simp [Value.oneCell']) HM5.out HM6.out HBS4.out (fun e => by cases e) ?_; intro v5 w5 hown5 hg5 hat5; obtain ⟨g5, c5, rfl⟩ := own_some hown5 (by omega); have hg5' : World.grownBy ((W4.alloc (.cells #[.int .i64 k, .int .i64 v] 36)).drew) w5 none := hg5; have y1 := cell_far5 m2a.out hg5' (by simp); have y2 := cell_far5 n0a.out hg5' (by simp); have y3 := cell_far5 z0a.out hg5' (by simp); have y4 := cell_far5 z1a.out hg5' (by simp); have hb5 := blk_grown HB4a.out hg5' (by simp); have u2 := hb5.cell (i := 2) rfl; have uf := hb5.frozen; have HB5 := Lib.hid hb5; have HOWN6 := Lib.hid hown5; have HG5 := Lib.hid hg5'; have HAT5 := Lib.hid (show some g5 = none ∨ some g5 = some ((W4.alloc (.cells #[.int .i64 k, .int .i64 v] 36)).drew).heap.size from hat5); have hsl : Only [lp0] w5 (w5.setCell ⟨lp0, 2, none⟩ (.slice (some ⟨g5, 0, none⟩) (0 + 1) c5)) := ((Only.refl _ _).setCell (.inl (by simp)) _); clear hb5 hown5 hg5 hat5
  refine hK.out _ _ ⟨y1, y2, y3, y4⟩ (fun hHeld => ?_)
  clear hK K
  try simp only [Act.put, List.setIfInBounds_toArray, List.set_cons_zero, List.set_cons_succ]
  refine wpAnyH_take (i := 20) (v := ?_) (by simp only [List.getElem?_toArray, List.getElem?_cons_succ, List.getElem?_cons_zero]; rfl) (by kernel_rfl) (by kernel_rfl) (by kernel_rfl) (by exact fun _ _ _ h => h) (Or.inl ⟨by rfl, ?_⟩) (by assumption) ?_
  rotate_left
  · intro w hSw; (try dsimp only at hSw); go_simp; try with_reducible rfl
  try simp only [Act.put, List.setIfInBounds_toArray, List.set_cons_zero, List.set_cons_succ]
  refine wpAnyH_take (i := 21) (v := ?_) (by simp only [List.getElem?_toArray, List.getElem?_cons_succ, List.getElem?_cons_zero]; rfl) (by kernel_rfl) (by kernel_rfl) (by kernel_rfl) (by exact fun _ _ _ h => h) (Or.inl ⟨by rfl, ?_⟩) (by assumption) ?_
  rotate_left
  · intro w hSw; (try dsimp only at hSw); go_simp; try with_reducible rfl
  try simp only [Act.put, List.setIfInBounds_toArray, List.set_cons_zero, List.set_cons_succ]
  refine wpAnyH_ready (rs := [22]) (by kernel_rfl) (by simp) ?_
  refine AllReadyH.cons (by simp only [List.getElem?_toArray, List.getElem?_cons_succ, List.getElem?_cons_zero]; rfl) (fun K hK => ?_) AllReadyH.nil
  go_simp
  refine hK.out _ _ ⟨cell_only hsl y1 (by simp; omega), cell_only hsl y2 (by simp; omega), cell_only hsl y3 (by simp; omega), cell_only hsl y4 (by simp; omega)⟩ (fun hHeld => ?_)
  clear hK K
  try simp only [Act.put, List.setIfInBounds_toArray, List.set_cons_zero, List.set_cons_succ]
  refine wpAnyH_done (by kernel_rfl) ?_ _
  all_goals (go_wp2_with fail; rw [rounds_succ]; go_wp2_with fail; go_ret)
  all_goals
    have hw5 : lp1 < g5 := by
      rcases HAT5.out with e | e
      · cases e
      · injection e with e
        rw [e]
        exact Nat.lt_of_lt_of_le hsz4 (size_alloc_le _ _)
    have ho5 : Only [] W3 w5 := (HO4.out.trans ((((Only.refl [] W4).alloc _).drew').grown HG5.out (fun k hk => by cases hk)))
    have hoE : Only [lp0] w5 (w5.setCell ⟨lp0, 2, none⟩ (.slice (some ⟨g5, 0, none⟩) (0 + 1) c5)) := (Only.refl _ _).setCell (.inl (by simp)) _
    have hq := own_only HOWN6.out hoE (fun k hk => by cases hk; simp; omega)
    have hWW := ((HW3.out.trans ho5).mono (Y := [lp0]) (by simp)).trans hoE
    exact ⟨ld, lt, lp0, lp1, g3, c3, g5, c5, rfl, (HLD5.out.only ho5 (by simp)).only hoE (by simp; omega), (HLT5.out.only ho5 (by simp)).only hoE (by simp; omega), HB5.out.set 2 _, (HB51.out.only ho5 (by simp)).only hoE (by simp; omega),
      cell_only hoE (cell_only ho5 (own_cell HOWN5.out (j := 0) rfl) (by simp)) (by simp; omega), cell_only hoE (cell_only ho5 (own_cell HOWN5.out (j := 1) rfl) (by simp)) (by simp; omega), own_cell hq (j := 0) rfl, own_cell hq (j := 1) rfl,
      ⟨by omega, by have := HL2.out; omega, by omega, by omega, by have := (HOWN5.out.lt g3 rfl).1; omega, by omega⟩, ⟨by omega, by omega, by omega, by omega, by omega⟩, ⟨by omega, by omega, fun e => hg31 e.symm, by omega⟩, hWW.fresh (fun k hk hl => by simp at hk; omega)⟩
end Go.Proofs.YteeefedoffplmaaGreat
