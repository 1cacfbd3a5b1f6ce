/- A loading's put of its first pair: the tree is empty. Conditions: pool, tree and loading lie in memory; the plain leaf answers. -/
import Derived.Test.YteeefedoffplmaaGreatOther
namespace Go.Proofs.YteeefedoffplmaaGreat
open Go.RowKit

theorem keep5 {w : World} {b b' i : Nat} {v a0 a1 a2 a3 a4 : Value} (h : w.cell? ⟨b, i, none⟩ = some v) (hn : b ≠ b') :
    (((((w.setCell ⟨b', 0, none⟩ a0).setCell ⟨b', 1, none⟩ a1).setCell ⟨b', 2, none⟩ a2).setCell ⟨b', 3, none⟩ a3).setCell ⟨b', 4, none⟩ a4).cell? ⟨b, i, none⟩ = some v :=
  cell_only ((((((Only.refl [b'] w).setCell (.inl (by simp)) _).setCell (.inl (by simp)) _).setCell (.inl (by simp)) _).setCell (.inl (by simp)) _).setCell (.inl (by simp)) _) h (by simpa using hn)
theorem putB {w0 w2 : World} {L : PoolL} {S' : PoolS} {b : Nat} {z0 z1 z2 z3 z4 : Value} {t : TypeId} {mA : Option Addr} {n mc : Nat} {xs : List Value} (a0 a1 a2 a3 a4 : Value) (h5 : Blk w2 b [z0, z1, z2, z3, z4] t) (hO : Only L.blocks w0 w2) (hb : w0.heap.size ≤ b) (hP : PoolAt w2 L S') (hlt : ∀ k ∈ L.all, k < b) (hrow : w2.ownsRow (b + 1) 3 1 (.slice mA n mc) n xs) :
    Blk (((((w2.setCell ⟨b, 0, none⟩ a0).setCell ⟨b, 1, none⟩ a1).setCell ⟨b, 2, none⟩ a2).setCell ⟨b, 3, none⟩ a3).setCell ⟨b, 4, none⟩ a4) b [a0, a1, a2, a3, a4] t ∧
    Only L.blocks w0 (((((w2.setCell ⟨b, 0, none⟩ a0).setCell ⟨b, 1, none⟩ a1).setCell ⟨b, 2, none⟩ a2).setCell ⟨b, 3, none⟩ a3).setCell ⟨b, 4, none⟩ a4) ∧
    PoolAt (((((w2.setCell ⟨b, 0, none⟩ a0).setCell ⟨b, 1, none⟩ a1).setCell ⟨b, 2, none⟩ a2).setCell ⟨b, 3, none⟩ a3).setCell ⟨b, 4, none⟩ a4) L S' ∧
    World.ownsRow (((((w2.setCell ⟨b, 0, none⟩ a0).setCell ⟨b, 1, none⟩ a1).setCell ⟨b, 2, none⟩ a2).setCell ⟨b, 3, none⟩ a3).setCell ⟨b, 4, none⟩ a4) (b + 1) 3 1 (.slice mA n mc) n xs := by
  have g : Only [b] w2 (((((w2.setCell ⟨b, 0, none⟩ a0).setCell ⟨b, 1, none⟩ a1).setCell ⟨b, 2, none⟩ a2).setCell ⟨b, 3, none⟩ a3).setCell ⟨b, 4, none⟩ a4) := ((((((Only.refl [b] w2).setCell (.inl (by simp)) _).setCell (.inl (by simp)) _).setCell (.inl (by simp)) _).setCell (.inl (by simp)) _).setCell (.inl (by simp)) _)
  refine ⟨((((h5.set 0 _).set 1 _).set 2 _).set 3 _).set 4 _, ?_, hP.only g (fun k hk e => by have := hlt k hk; simp at e; omega), ?_⟩
  · exact ((hO.mono (Y := b :: L.blocks) (by intro k hk; simp [hk])).trans (g.mono (by intro k hk; simp at hk; simp [hk]))).fresh (fun k hk hl => by
      simp only [List.mem_cons] at hk
      rcases hk with rfl | hk
      · omega
      · exact hk)
  · exact own_only hrow g (fun k hk e => by have := (hrow.lt k hk).1; simp at e; omega)
/-- where a loading lies. -/
structure LoadingIn (w : World) (L : PoolL) (lg ld lt : Nat) (lpv : Value) : Prop where
  g : Blk w lg [.int .i64 0, .slice none 0 0, ptr ld, .pointer none] 355
  d : Blk w ld [ptr L.pb, ptr lt, lpv] 194
  t : Blk w lt [ptr L.pb] 187
  glt : lg ∉ L.all
  ldl : ld ∉ L.blocks
  ltl : lt ∉ L.blocks
set_option maxRecDepth 100000 in
set_option maxHeartbeats 6400000 in
theorem loadPut_any (w : World) (L : PoolL) (S : PoolS) (lg ld lt : Nat) (lpv : Value) (hp : PoolAt w L S) (hl : LoadingIn w L lg ld lt lpv) (k v : Int) (hk : keyB k = true) (hv : In64 v) (m' : EditS) (S' : PoolS) (h : mkLeaf k v (.zero, S) = some (m', S')) (hg : m'.gone = []) (hmd : m'.made.length ≤ 1) :
    Calls Tryz.prog 244 #[ptr lg, .agg #[.int .i64 k, .int .i64 v]] w fun e w' => e = .returned (.int .i64 0) ∧ PoolAt w' L S' ∧ (∃ nv, Blk w' lg [.int .i64 m'.root, nv, ptr ld, .pointer none] 355) ∧ Only (lg :: L.blocks) w w' := by
  have hpo : ∀ W, Only [] w W → Calls Tryz.prog 165 #[ptr lt, .pointer none, .int .i64 0, .int .i64 k, .int .i64 v] W (Putted L m' S' W) := fun W ho => putEmpty_any W lt L S (hp.only ho (by simp)) (hl.t.only ho (by simp)) hl.ltl k v hk hv m' S' h
  have ho0 : Only [] w (w.alloc (.cells #[.int .i64 k, .int .i64 v] 36)) := (Only.refl _ _).alloc _
  have c0 := (hl.g.only ho0 (by simp)).cell (i := 0) rfl
  have c2 := (hl.g.only ho0 (by simp)).cell (i := 2) rfl
  have c3 := (hl.g.only ho0 (by simp)).cell (i := 3) rfl
  have d1 := (hl.d.only ho0 (by simp)).cell (i := 1) rfl
  have b0 : (w.alloc (.cells #[.int .i64 k, .int .i64 v] 36)).cell? ⟨w.heap.size, 0, none⟩ = some (.int .i64 k) := (Blk.new w [.int .i64 k, .int .i64 v] 36).cell rfl
  have b1 : (w.alloc (.cells #[.int .i64 k, .int .i64 v] 36)).cell? ⟨w.heap.size, 1, none⟩ = some (.int .i64 v) := (Blk.new w [.int .i64 k, .int .i64 v] 36).cell rfl
  have hbx : w.heap.size ∉ L.blocks := fun e => by have := hp.lt _ (blocks_all e); omega
  have HPO := Lib.hid hpo; have HLG := Lib.hid hl.g; have HGL := Lib.hid hl.glt; have HDL := Lib.hid hl.ldl; have HBX := Lib.hid hbx; have HO0 := Lib.hid ho0; have HMD := Lib.hid hmd; have HLT := Lib.hid hp.lt
  have hbx2 : w.heap.size + 1 ∉ L.blocks := fun e => by have := hp.lt _ (blocks_all e); omega
  have heb0 : Blk ((w.alloc (.cells #[.int .i64 k, .int .i64 v] 36)).alloc (.cells #[.int .i64 0, .int .i64 0, .bool false, .slice none 0 0, .slice none 0 0] 264)) (w.heap.size + 1) [.int .i64 0, .int .i64 0, .bool false, .slice none 0 0, .slice none 0 0] 264 := by
    have := Blk.new (w.alloc (.cells #[.int .i64 k, .int .i64 v] 36)) [.int .i64 0, .int .i64 0, .bool false, .slice none 0 0, .slice none 0 0] 264
    rw [World.size_alloc] at this
    exact this
  have HEB := Lib.hid heb0; have HBX2 := Lib.hid hbx2
  have hgb : lg ∉ L.blocks := fun e => hl.glt (blocks_all e)
  have HGB := Lib.hid hgb
  unfold Putted Edit2 ptr at HPO
  unfold ptr at *
  rw [hg] at HPO
  have hlgs : lg < w.heap.size := hl.g.lt
  have HLS := Lib.hid hlgs
  have hlds : ld < w.heap.size := hl.d.lt
  have hn1 : lg ≠ w.heap.size + 1 := by omega
  have hn2 : ld ≠ w.heap.size + 1 := by omega
  have hn5 : w.heap.size ≠ w.heap.size + 1 := by omega
  have hn3 : lg ≠ w.heap.size := by omega
  have hn4 : ld ≠ w.heap.size := by omega
  clear hp hl hk hv h hpo ho0 hbx hmd hgb hlgs hlds heb0 hbx2
  go_enter Tryz.func244, Tryz.ntmps244
  go_wp2_with fail
  go_region_held3 (fun W => W.cell? ⟨lg, 0, none⟩ = some (.int .i64 0) ∧ W.cell? ⟨lg, 2, none⟩ = some (.pointer (some ⟨ld, 0, none⟩)) ∧ W.cell? ⟨lg, 3, none⟩ = some (.pointer none) ∧ W.cell? ⟨ld, 1, none⟩ = some (.pointer (some ⟨lt, 0, none⟩)) ∧ W.cell? ⟨w.heap.size, 0, none⟩ = some (.int .i64 k) ∧ W.cell? ⟨w.heap.size, 1, none⟩ = some (.int .i64 v))
    (first | with_reducible exact ⟨cell_only ho2 c0 HGB.out, cell_only ho2 c2 HGB.out, cell_only ho2 c3 HGB.out, cell_only ho2 d1 HDL.out, cell_only ho2 b0 HBX.out, cell_only ho2 b1 HBX.out⟩ | with_reducible exact ⟨cell_only (ho2.alloc _) c0 HGB.out, cell_only (ho2.alloc _) c2 HGB.out, cell_only (ho2.alloc _) c3 HGB.out, cell_only (ho2.alloc _) d1 HDL.out, cell_only (ho2.alloc _) b0 HBX.out, cell_only (ho2.alloc _) b1 HBX.out⟩ | with_reducible exact ⟨keep5 (cell_only ho2 c0 HGB.out) hn1, keep5 (cell_only ho2 c2 HGB.out) hn1, keep5 (cell_only ho2 c3 HGB.out) hn1, keep5 (cell_only ho2 d1 HDL.out) hn2, keep5 (cell_only ho2 b0 HBX.out) hn5, keep5 (cell_only ho2 b1 HBX.out) hn5⟩ | (go_keep; done))
    (first | (go_simp; go_at_call 165; refine (HPO.out _ HO0.out.drew').mono ?_; rintro e w2 ⟨gv, mv, rfl, h1, h2, h3, h4, ho2'⟩; obtain ⟨gA, gc, rfl, _, _⟩ := row_of_own h2; obtain ⟨mA, mc, rfl, hmr, hmn⟩ := row_of_own h3; have H1 := Lib.hid h1; have H2 := Lib.hid h2; have H3 := Lib.hid h3; have HR := Lib.hid hmr; have HN := Lib.hid hmn; clear h1 h2 h3 h4 hmr hmn; have ho2 : Only L.blocks (w.alloc (.cells #[.int .i64 k, .int .i64 v] 36)) w2 := ⟨ho2'.os, ho2'.tape, ho2'.output, ho2'.size, ho2'.block⟩; have HO2 := Lib.hid ho2; clear ho2') | (go_simp; go_at_call 165; refine (HPO.out _ (HO0.out.alloc _).drew').mono ?_; rintro e w2 ⟨gv, mv, rfl, h1, h2, h3, h4, ho2'⟩; obtain ⟨gA, gc, rfl, _, _⟩ := row_of_own h2; obtain ⟨mA, mc, rfl, hmr, hmn⟩ := row_of_own h3; have H1 := Lib.hid h1; have H2 := Lib.hid h2; have H3 := Lib.hid h3; have HR := Lib.hid hmr; have HN := Lib.hid hmn; clear h1 h2 h3 h4 hmr hmn; have ho2 : Only L.blocks (w.alloc (.cells #[.int .i64 k, .int .i64 v] 36)) w2 := ((Only.refl _ _).alloc _).trans ⟨ho2'.os, ho2'.tape, ho2'.output, ho2'.size, ho2'.block⟩; have heb : Blk w2 (w.heap.size + 1) [.int .i64 0, .int .i64 0, .bool false, .slice none 0 0, .slice none 0 0] 264 := HEB.out.only (X := L.blocks) ⟨ho2'.os, ho2'.tape, ho2'.output, ho2'.size, ho2'.block⟩ HBX2.out; have q0 := heb.cell (i := 0) rfl; have q1 := heb.cell (i := 1) rfl; have q2 := heb.cell (i := 2) rfl; have q3 := heb.cell (i := 3) rfl; have q4 := heb.cell (i := 4) rfl; have qf := heb.frozen; have HEB2 := Lib.hid heb; clear heb ho2'; have HO2 := Lib.hid ho2))
  · have hE : Blk (w2.alloc (.cells #[.int .i64 m'.root, .int .i64 m'.old, .bool m'.had, .slice gA 0 gc, .slice mA m'.made.length mc] 264)) w2.heap.size [.int .i64 m'.root, .int .i64 m'.old, .bool m'.had, .slice gA 0 gc, .slice mA m'.made.length mc] 264 := Blk.new w2 _ 264
    have hO3 := HO2.out.alloc (.cells #[.int .i64 m'.root, .int .i64 m'.old, .bool m'.had, .slice gA 0 gc, .slice mA m'.made.length mc] 264)
    have hP3 := H1.out.alloc (.cells #[.int .i64 m'.root, .int .i64 m'.old, .bool m'.had, .slice gA 0 gc, .slice mA m'.made.length mc] 264)
    have hR3 := (own_base (b' := w.heap.size + 1) H3.out (by simp)).alloc (.cells #[.int .i64 m'.root, .int .i64 m'.old, .bool m'.had, .slice gA 0 gc, .slice mA m'.made.length mc] 264)
    have hes : w.heap.size < w2.heap.size := by have := HO2.out.size; simp at this; omega
    generalize w2.alloc (.cells #[.int .i64 m'.root, .int .i64 m'.old, .bool m'.had, .slice gA 0 gc, .slice mA m'.made.length mc] 264) = W3 at hE hO3 hP3 hR3 ⊢
    generalize w2.heap.size = eb at hE hes ⊢
    have hne : lg ≠ eb := by have := HLS.out; omega
    have hlg3 := (HLG.out.only HO0.out (by simp)).only hO3 HGB.out
    have hlf := hlg3.frozen
    have g0 := hlg3.cell (i := 0) rfl
    have g1 := hlg3.cell (i := 1) rfl
    have e0 := hE.cell (i := 0) rfl
    have e3 := hE.cell (i := 3) rfl
    have e4 := hE.cell (i := 4) rfl
    have E3 := Lib.hid hE; have O3 := Lib.hid hO3; have P3 := Lib.hid hP3; have R3 := Lib.hid hR3; have HLG3 := Lib.hid hlg3; have HES := Lib.hid hes
    clear hE hO3 hP3 hR3 hlg3 hes c0 c2 c3 d1 b0 b1 hn1 hn2 hn3 hn4 hn5
    try clear qf q0 q1 q2 q3 q4
    clear ho2
    go_wp2_with fail
    obtain ⟨W4, hW4⟩ : ∃ W4, W3.setCell ⟨lg, 0, none⟩ (.int .i64 m'.root) = W4 := ⟨_, rfl⟩
    rw [hW4]
    have go4 : Only [lg] W3 W4 := by rw [← hW4]; exact (Only.refl _ _).setCell (.inl (by simp)) _
    have hlg4 : Blk W4 lg [.int .i64 m'.root, .slice none 0 0, .pointer (some ⟨ld, 0, none⟩), .pointer none] 355 := by rw [← hW4]; exact HLG3.out.set 0 _
    have hE4 := E3.out.only go4 (by simpa using Ne.symm hne)
    have hR4 := own_only R3.out go4 (fun k hk e => by have := (R3.out.lt k hk).1; have := HLS.out; simp at e; omega)
    obtain ⟨mA', mc', hme, hrow4, hnil4⟩ := row_of_own hR4
    simp only [Value.slice.injEq, true_and] at hme
    obtain ⟨rfl, rfl⟩ := hme
    have HROW := Lib.hid (hrow4.drewN 1); have HNIL := Lib.hid hnil4; have HLG4 := Lib.hid hlg4; have HE4 := Lib.hid hE4; have GO4 := Lib.hid go4
    have l0 := hlg4.cell (i := 0) rfl
    have l1 := hlg4.cell (i := 1) rfl
    have lf := hlg4.frozen
    have x3 := hE4.cell (i := 3) rfl
    have x4 := hE4.cell (i := 4) rfl
    have hm1 : 0 + m'.made.length ≤ maxLen := by have := HMD.out; unfold maxLen; omega
    have hm2 : (0 + m'.made.length) * 8 ≤ 140737488355328 := by have := HMD.out; omega
    have HM1 := Lib.hid hm1; have HM2 := Lib.hid hm2
    clear hW4 go4 hlg4 hE4 hR4 hrow4 hnil4 hlf g0 g1 e0 e3 e4 hm1 hm2
    have HBS := Lib.hid (show w.heap.size ≤ W4.drew.heap.size from by have h1 := O3.out.size; have h2 := GO4.out.size; simp at h1; show w.heap.size ≤ W4.heap.size; omega)
    go_region_law (refine step_append_is rfl (.tmp 47) (.tmp 49) rfl elemInt rfl (World.ownsRow_nil W4.drew w.heap.size 3 1) mA m'.made.length mc (ints m'.made) rfl HROW.out (by simp [ints_length]) (ints_one _) HM1.out HM2.out HBS.out HNIL.out ?_; intro v2 w5 hown2 hg2 hat2; obtain ⟨A2, c2', rfl, _, _⟩ := row_of_own hown2; have hlg5 := blk_grown HLG4.out.drew hg2 (show (Value.slice none 0 0).ownBlock ≠ some lg from by simp [Value.ownBlock]); have hE5 := blk_grown HE4.out.drew hg2 (show (Value.slice none 0 0).ownBlock ≠ some eb from by simp [Value.ownBlock]); have lf5 := hlg5.frozen; have l15 := hlg5.cell (i := 1) rfl; have x35 := hE5.cell (i := 3) rfl; have HLG5 := Lib.hid hlg5; have HE5 := Lib.hid hE5; have HG5 := Lib.hid (show W4.drew.grownBy w5 none from hg2); clear hlg5 hE5 hg2 hat2 hown2)
    all_goals
      go_wp2_with fail
      refine wp_loop_rounds 1 ?_
      rw [rounds_succ]
      go_wp2_with fail
      go_ret
      have gf : Only [lg] W3 (w5.setCell ⟨lg, 1, none⟩ (.slice A2 (0 + m'.made.length) c2')) := ((GO4.out.drew').grown HG5.out (fun k hk => by cases hk)).setCell (.inl (by simp)) _
      rw [Nat.zero_add] at gf
      refine ⟨rfl, P3.out.only gf (fun k hk e => by simp at e; exact HGL.out (e ▸ hk)), ⟨_, HLG5.out.set 1 _⟩, ?_⟩
      exact (HO0.out.mono (by simp)).trans ((O3.out.mono (by intro k hk; simp [hk])).trans (gf.mono (by intro k hk; simp at hk; simp [hk])))
  · have hrw := own_base (b' := w.heap.size + 1 + 1) H3.out (by simp)
    obtain ⟨hE, hO3, hP3, hR3⟩ := putB (b := w.heap.size + 1) (.int .i64 m'.root) (.int .i64 m'.old) (.bool m'.had) (.slice gA 0 gc) (.slice mA m'.made.length mc) HEB2.out HO2.out (by simp) H1.out (fun k hk => by have := HLT.out k hk; omega) hrw
    have hes : w.heap.size < w.heap.size + 1 := Nat.lt_succ_self _
    replace hR3 := own_base (b' := w.heap.size + 1) hR3 (by omega)
    clear hrw
    generalize (((((w2.setCell ⟨w.heap.size + 1, 0, none⟩ (.int .i64 m'.root)).setCell ⟨w.heap.size + 1, 1, none⟩ (.int .i64 m'.old)).setCell ⟨w.heap.size + 1, 2, none⟩ (.bool m'.had)).setCell ⟨w.heap.size + 1, 3, none⟩ (.slice gA 0 gc)).setCell ⟨w.heap.size + 1, 4, none⟩ (.slice mA m'.made.length mc)) = W3 at hE hO3 hP3 hR3 ⊢
    generalize w.heap.size + 1 = eb at hE hes ⊢
    have hne : lg ≠ eb := by have := HLS.out; omega
    have hlg3 := (HLG.out.only HO0.out (by simp)).only hO3 HGB.out
    have hlf := hlg3.frozen
    have g0 := hlg3.cell (i := 0) rfl
    have g1 := hlg3.cell (i := 1) rfl
    have e0 := hE.cell (i := 0) rfl
    have e3 := hE.cell (i := 3) rfl
    have e4 := hE.cell (i := 4) rfl
    have E3 := Lib.hid hE; have O3 := Lib.hid hO3; have P3 := Lib.hid hP3; have R3 := Lib.hid hR3; have HLG3 := Lib.hid hlg3; have HES := Lib.hid hes
    clear hE hO3 hP3 hR3 hlg3 hes c0 c2 c3 d1 b0 b1 hn1 hn2 hn3 hn4 hn5
    try clear qf q0 q1 q2 q3 q4
    clear ho2
    go_wp2_with fail
    obtain ⟨W4, hW4⟩ : ∃ W4, W3.setCell ⟨lg, 0, none⟩ (.int .i64 m'.root) = W4 := ⟨_, rfl⟩
    rw [hW4]
    have go4 : Only [lg] W3 W4 := by rw [← hW4]; exact (Only.refl _ _).setCell (.inl (by simp)) _
    have hlg4 : Blk W4 lg [.int .i64 m'.root, .slice none 0 0, .pointer (some ⟨ld, 0, none⟩), .pointer none] 355 := by rw [← hW4]; exact HLG3.out.set 0 _
    have hE4 := E3.out.only go4 (by simpa using Ne.symm hne)
    have hR4 := own_only R3.out go4 (fun k hk e => by have := (R3.out.lt k hk).1; have := HLS.out; simp at e; omega)
    obtain ⟨mA', mc', hme, hrow4, hnil4⟩ := row_of_own hR4
    simp only [Value.slice.injEq, true_and] at hme
    obtain ⟨rfl, rfl⟩ := hme
    have HROW := Lib.hid (hrow4.drewN 1); have HNIL := Lib.hid hnil4; have HLG4 := Lib.hid hlg4; have HE4 := Lib.hid hE4; have GO4 := Lib.hid go4
    have l0 := hlg4.cell (i := 0) rfl
    have l1 := hlg4.cell (i := 1) rfl
    have lf := hlg4.frozen
    have x3 := hE4.cell (i := 3) rfl
    have x4 := hE4.cell (i := 4) rfl
    have hm1 : 0 + m'.made.length ≤ maxLen := by have := HMD.out; unfold maxLen; omega
    have hm2 : (0 + m'.made.length) * 8 ≤ 140737488355328 := by have := HMD.out; omega
    have HM1 := Lib.hid hm1; have HM2 := Lib.hid hm2
    clear hW4 go4 hlg4 hE4 hR4 hrow4 hnil4 hlf g0 g1 e0 e3 e4 hm1 hm2
    have HBS := Lib.hid (show w.heap.size ≤ W4.drew.heap.size from by have h1 := O3.out.size; have h2 := GO4.out.size; simp at h1; show w.heap.size ≤ W4.heap.size; omega)
    go_region_law (refine step_append_is rfl (.tmp 47) (.tmp 49) rfl elemInt rfl (World.ownsRow_nil W4.drew w.heap.size 3 1) mA m'.made.length mc (ints m'.made) rfl HROW.out (by simp [ints_length]) (ints_one _) HM1.out HM2.out HBS.out HNIL.out ?_; intro v2 w5 hown2 hg2 hat2; obtain ⟨A2, c2', rfl, _, _⟩ := row_of_own hown2; have hlg5 := blk_grown HLG4.out.drew hg2 (show (Value.slice none 0 0).ownBlock ≠ some lg from by simp [Value.ownBlock]); have hE5 := blk_grown HE4.out.drew hg2 (show (Value.slice none 0 0).ownBlock ≠ some eb from by simp [Value.ownBlock]); have lf5 := hlg5.frozen; have l15 := hlg5.cell (i := 1) rfl; have x35 := hE5.cell (i := 3) rfl; have HLG5 := Lib.hid hlg5; have HE5 := Lib.hid hE5; have HG5 := Lib.hid (show W4.drew.grownBy w5 none from hg2); clear hlg5 hE5 hg2 hat2 hown2)
    all_goals
      go_wp2_with fail
      refine wp_loop_rounds 1 ?_
      rw [rounds_succ]
      go_wp2_with fail
      go_ret
      have gf : Only [lg] W3 (w5.setCell ⟨lg, 1, none⟩ (.slice A2 (0 + m'.made.length) c2')) := ((GO4.out.drew').grown HG5.out (fun k hk => by cases hk)).setCell (.inl (by simp)) _
      rw [Nat.zero_add] at gf
      refine ⟨rfl, P3.out.only gf (fun k hk e => by simp at e; exact HGL.out (e ▸ hk)), ⟨_, HLG5.out.set 1 _⟩, ?_⟩
      exact (HO0.out.mono (by simp)).trans ((O3.out.mono (by intro k hk; simp [hk])).trans (gf.mono (by intro k hk; simp at hk; simp [hk])))
end Go.Proofs.YteeefedoffplmaaGreat
