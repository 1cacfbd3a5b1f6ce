/- A tree's leaf; Put into an empty tree. Conditions: pool and tree lie in memory; the plain take answers. -/
import Derived.Test.YteeefedoffplmaaGreatMakes
import Derived.LoopN
namespace Go.Proofs.YteeefedoffplmaaGreat
open Go.RowKit

theorem leaf_any (w : World) (base mb tb : Nat) (L : PoolL) (S : PoolS) (m : EditS) (gv mv : Value) (hp : PoolAt w L S) (ht : Blk w tb [ptr L.pb] 187) (hm : EditAt w base mb tb m gv mv)
    (hx1 : mb ∉ L.all) (hx2 : tb ∉ L.blocks) (hx3 : tb ≠ mb) (hx4 : ∀ k ∈ L.all, k < base) (hx5 : tb < base) (hlen : m.made.length < 100000000) (k v : Int) (hk : In64 k) (hv : In64 v) (m' : EditS) (S' : PoolS) (h : mkLeaf k v (m, S) = some (m', S')) :
    Calls Tryz.prog 205 #[ptr mb, .int .i64 k, .int .i64 v] w (Edited L base mb tb m' S' w) := by
  have hc := makes_any w base mb tb L S m gv mv hp ht hm hx1 hx2 hx3 hx4 hx5 hlen ⟨0, k, v, 1⟩ ⟨by unfold In64; simp, hk, hv, by unfold In64; simp⟩ m' S' h
  unfold NodeS.val ptr at hc
  unfold ptr
  clear hp ht hm h hx1 hx2 hx3 hx4 hx5 hlen hk hv
  go_enter Tryz.func205, Tryz.ntmps205
  go_wp2_with (go_at_call 229; refine hc.mono ?_; rintro e w1 he; obtain ⟨gv', mv', D, rfl, h1, h2, h3, h4⟩ := he; have H1 := Lib.hid h1; have H2 := Lib.hid h2; have H3 := Lib.hid h3; have H4 := Lib.hid h4; clear h1 h2 h3 h4)
  go_ret
  exact ⟨gv', mv', D, rfl, H1.out, H2.out, H3.out, H4.out⟩
/-- an edit's value as the caller gets it. -/
def Edit2 (m : EditS) (gv mv : Value) : Value := .tuple #[.agg #[.int .i64 m.root, .int .i64 m.old, .bool m.had, gv, mv], .int .i64 0]
/-- what Put leaves: an edit whose rows are the call's own. -/
def Putted (L : PoolL) (m : EditS) (S' : PoolS) (w : World) (e : Ending) (w' : World) : Prop :=
  ∃ gv mv, e = .returned (Edit2 m gv mv) ∧ PoolAt w' L S' ∧ w'.ownsRow w.heap.size 3 1 gv m.gone.length (ints m.gone) ∧ w'.ownsRow w.heap.size 3 1 mv m.made.length (ints m.made) ∧ (∀ g, gv.ownBlock = some g → mv.ownBlock ≠ some g) ∧ Only L.blocks w w'
theorem low_not {n : Nat} {L : PoolL} {D : List Nat} (h1 : ∀ k ∈ L.all, k < n) (h2 : ∀ k ∈ D, n + 2 ≤ k) : n ∉ (n + 1) :: L.blocks ++ D := by
  intro e
  simp at e
  rcases e with e | e
  · have := h1 n (blocks_all e)
    omega
  · have := h2 n e
    omega
def zEdit : Array Value := #[.int .i64 0, .int .i64 0, .bool false, .slice none 0 0, .slice none 0 0]
set_option maxRecDepth 100000 in
set_option maxHeartbeats 1600000 in
theorem putEmpty_any (w : World) (tb : Nat) (L : PoolL) (S : PoolS) (hp : PoolAt w L S) (ht : Blk w tb [ptr L.pb] 187) (hx2 : tb ∉ L.blocks) (k v : Int) (hk : keyB k = true) (hv : In64 v) (m' : EditS) (S' : PoolS) (h : mkLeaf k v (.zero, S) = some (m', S')) :
    Calls Tryz.prog 165 #[ptr tb, .pointer none, .int .i64 0, .int .i64 k, .int .i64 v] w (Putted L m' S' w) := by
  have hkey := fun W => key_any k W
  rw [hk] at hkey
  have hk64 : In64 k := by unfold keyB K32 at hk; simp at hk; unfold In64; omega
  have HK := Lib.hid hkey; have HP := Lib.hid hp; have HT := Lib.hid ht; have HX := Lib.hid hx2; have HH := Lib.hid h; have HV := Lib.hid hv; have HK64 := Lib.hid hk64
  have ho : Only [] w ((w.alloc (.cells #[.int .i64 0, .int .i64 0, .bool false, .slice none 0 0, .slice none 0 0] 264)).alloc (.cells #[.pointer (some ⟨tb, 0, none⟩), .pointer none, .int .i64 0, .int .i64 0, .bool false, .slice none 0 0, .slice none 0 0] 320)) := ((Only.refl _ _).alloc _).alloc _
  have hlt := hp.lt
  have htl := ht.lt
  have hbm : Blk ((w.alloc (.cells #[.int .i64 0, .int .i64 0, .bool false, .slice none 0 0, .slice none 0 0] 264)).alloc (.cells #[.pointer (some ⟨tb, 0, none⟩), .pointer none, .int .i64 0, .int .i64 0, .bool false, .slice none 0 0, .slice none 0 0] 320)) (w.heap.size + 1) [ptr tb, .pointer none, .int .i64 0, .int .i64 0, .bool false, .slice none 0 0, .slice none 0 0] 320 := by
    have := Blk.new (w.alloc (.cells #[.int .i64 0, .int .i64 0, .bool false, .slice none 0 0, .slice none 0 0] 264)) [ptr tb, .pointer none, .int .i64 0, .int .i64 0, .bool false, .slice none 0 0, .slice none 0 0] 320
    rw [World.size_alloc] at this
    exact this
  have hbr : Blk ((w.alloc (.cells #[.int .i64 0, .int .i64 0, .bool false, .slice none 0 0, .slice none 0 0] 264)).alloc (.cells #[.pointer (some ⟨tb, 0, none⟩), .pointer none, .int .i64 0, .int .i64 0, .bool false, .slice none 0 0, .slice none 0 0] 320)) w.heap.size [.int .i64 0, .int .i64 0, .bool false, .slice none 0 0, .slice none 0 0] 264 := (Blk.new w [.int .i64 0, .int .i64 0, .bool false, .slice none 0 0, .slice none 0 0] 264).alloc _
  have hed : EditAt ((w.alloc (.cells #[.int .i64 0, .int .i64 0, .bool false, .slice none 0 0, .slice none 0 0] 264)).alloc (.cells #[.pointer (some ⟨tb, 0, none⟩), .pointer none, .int .i64 0, .int .i64 0, .bool false, .slice none 0 0, .slice none 0 0] 320)) (w.heap.size + 2) (w.heap.size + 1) tb .zero (.slice none 0 0) (.slice none 0 0) := ⟨hbm, World.ownsRow_nil _ _ 3 1, World.ownsRow_nil _ _ 3 1, by omega, (fun g hg => by cases hg), by simp⟩
  have hleaf := leaf_any _ _ _ tb L S .zero _ _ (hp.only ho (by simp)) (ht.only ho (by simp)) hed (fun e => by have := hlt _ e; omega) hx2 (by omega) (fun k hk => by have := hlt k hk; omega) (by omega) (by decide) k v hk64 hv m' S' h
  have HO := Lib.hid ho; have HBR := Lib.hid hbr; have HLT := Lib.hid hlt
  unfold ptr at hleaf ⊢
  clear hkey hp ht hx2 h hv hk hk64 ho hlt htl hbm hbr hed
  go_enter Tryz.func165, Tryz.ntmps165
  go_wp2_with (first | (go_at_call 195; refine (HK.out _).mono ?_; rintro e w' ⟨rfl, rfl⟩) | (go_at_call 205; refine hleaf.mono ?_; rintro e w1 he; obtain ⟨gv, mv, D, rfl, h1, h2, h3, h4⟩ := he; obtain ⟨gA, gc, rfl, _, _⟩ := row_of_own h2.gone; obtain ⟨mA, mc, rfl, _, _⟩ := row_of_own h2.made; have hbr2 : Blk w1 w.heap.size [.int .i64 0, .int .i64 0, .bool false, .slice none 0 0, .slice none 0 0] 264 := HBR.out.only h3 (low_not HLT.out h4); have d2 : w1.cell? ⟨w.heap.size + 1, 2, none⟩ = some (.int .i64 m'.root) := h2.blk.cell rfl; have d3 : w1.cell? ⟨w.heap.size + 1, 3, none⟩ = some (.int .i64 m'.old) := h2.blk.cell rfl; have d4 : w1.cell? ⟨w.heap.size + 1, 4, none⟩ = some (.bool m'.had) := h2.blk.cell rfl; have d5 : w1.cell? ⟨w.heap.size + 1, 5, none⟩ = some (.slice gA m'.gone.length gc) := h2.blk.cell rfl; have d6 : w1.cell? ⟨w.heap.size + 1, 6, none⟩ = some (.slice mA m'.made.length mc) := h2.blk.cell rfl; have f := hbr2.frozen; have e0 := hbr2.cell (i := 0) rfl; have e1 := hbr2.cell (i := 1) rfl; have e2 := hbr2.cell (i := 2) rfl; have e3 := hbr2.cell (i := 3) rfl; have e4 := hbr2.cell (i := 4) rfl; have H1 := Lib.hid h1; have H2 := Lib.hid h2; have H3 := Lib.hid h3; have H4 := Lib.hid h4; clear h1 h2 h3 h4 hbr2 hleaf))
  have g : Only [w.heap.size] w1 (((((w1.setCell ⟨w.heap.size, 0, none⟩ (.int .i64 m'.root)).setCell ⟨w.heap.size, 1, none⟩ (.int .i64 m'.old)).setCell ⟨w.heap.size, 2, none⟩ (.bool m'.had)).setCell ⟨w.heap.size, 3, none⟩ (.slice gA m'.gone.length gc)).setCell ⟨w.heap.size, 4, none⟩ (.slice mA m'.made.length mc)) := ((((((Only.refl _ _).setCell (.inl (by simp)) _).setCell (.inl (by simp)) _).setCell (.inl (by simp)) _).setCell (.inl (by simp)) _).setCell (.inl (by simp)) _)
  have hall : Only L.blocks w (((((w1.setCell ⟨w.heap.size, 0, none⟩ (.int .i64 m'.root)).setCell ⟨w.heap.size, 1, none⟩ (.int .i64 m'.old)).setCell ⟨w.heap.size, 2, none⟩ (.bool m'.had)).setCell ⟨w.heap.size, 3, none⟩ (.slice gA m'.gone.length gc)).setCell ⟨w.heap.size, 4, none⟩ (.slice mA m'.made.length mc)) := by
    have h1 := (HO.out.mono (Y := w.heap.size :: (w.heap.size + 1) :: L.blocks ++ D) (by simp)).trans ((H3.out.mono (by intro k hk; simp at hk ⊢; rcases hk with h | h | h <;> simp [h])).trans (g.mono (by intro k hk; simp at hk ⊢; simp [hk])))
    refine h1.fresh (fun k hk hlt => ?_)
    have h4 := H4.out k
    simp at hk
    rcases hk with h | h | h | h
    · omega
    · omega
    · exact h
    · have := h4 h
      omega
  refine bodyPost_ret (v := Edit2 m' (.slice gA m'.gone.length gc) (.slice mA m'.made.length mc)) (by simp [results, Tryz.results165, go_sem, e0, e1, e2, e3, e4, Edit2]) rfl ⟨_, _, rfl, H1.out.only g (fun k hk e => ?_), ?_, ?_, H2.out.apart, hall⟩
  · have := HLT.out k hk
    simp at e
    omega
  · exact own_base (own_only H2.out.gone g (fun k hk e => by have := (H2.out.gone.lt k hk).1; simp at e; omega)) (by omega)
  · exact own_base (own_only H2.out.made g (fun k hk e => by have := (H2.out.made.lt k hk).1; simp at e; omega)) (by omega)
end Go.Proofs.YteeefedoffplmaaGreat

/- A tree's down where the root is a leaf; Put where the key is met there. Conditions: pool and tree lie in memory. -/
namespace Go.Proofs.YteeefedoffplmaaGreat
open Go.RowKit

/-- a leaf is no inner node. -/
theorem assertLeaf (k v : Int) (W : World) : (Instr.typeAssert (.iface 307 (.agg #[.int .i64 k, .int .i64 v])) 301 335 true).run Tryz.prog W = .ok (.tuple #[.agg #[.int .i64 0, .int .i64 0, .int .i64 0, .int .i64 0, .int .i64 0], .bool false]) W := by kernel_rfl
theorem assertLeaf2 (k v : Int) (W : World) : (Instr.typeAssert (.iface 307 (.agg #[.int .i64 k, .int .i64 v])) 301 307 true).run Tryz.prog W = .ok (.tuple #[.agg #[.int .i64 k, .int .i64 v], .bool true]) W := by kernel_rfl
set_option maxRecDepth 100000 in
set_option maxHeartbeats 800000 in
theorem downLeaf_any (w : World) (tb : Nat) (L : PoolL) (S : PoolS) (hp : PoolAt w L S) (ht : Blk w tb [ptr L.pb] 187) (h key k v : Int) (hx : S.shape h 0 (K32 - 1) = some (.leaf k v)) :
    Calls Tryz.prog 197 #[ptr tb, .pointer none, .int .i64 h, .int .i64 key] w fun e w' => e = .returned (.tuple #[.slice none 0 0, .agg #[.int .i64 h, (Shape.leaf k v).val], .int .i64 0]) ∧ Below w.heap.size w w' := by
  have hr := root_any _ tb L S (hp.only ((Only.refl [] w).alloc (.cells #[.int .i64 0, .nilIface] 303)) (by simp)) (ht.only ((Only.refl [] w).alloc (.cells #[.int .i64 0, .nilIface] 303)) (by simp)) h _ hx
  unfold Shape.val ptr at *
  clear hp ht hx
  have hta := assertLeaf k v
  go_enter Tryz.func197, Tryz.ntmps197
  go_wp2_with (go_at_call 220; refine hr.mono ?_; rintro e w1 ⟨rfl, hb⟩; have hn : Blk w1 w.heap.size [.int .i64 0, .nilIface] 303 := (Blk.new w [.int .i64 0, .nilIface] 303).only (Only.of_below (X := []) hb) (by simp); have hf := hn.frozen; have d0 := hn.cell (i := 0) rfl; have d1 := hn.cell (i := 1) rfl; have HB := Lib.hid hb; clear hb hn hr)
  refine wp_loop_rounds 1 ?_
  rw [rounds_succ]
  go_wp2_with fail
  have hsz : w.heap.size ≠ w1.heap.size := fun e => by have := HB.out.size; simp at this; omega
  have hlt : w.heap.size < w1.heap.size := by have := HB.out.size; simp at this; omega
  go_region
  all_goals (try go_wp2_with fail)
  all_goals
    refine bodyPost_ret (v := .tuple #[.slice none 0 0, .agg #[.int .i64 h, .iface 307 (.agg #[.int .i64 k, .int .i64 v])], .int .i64 0]) (by simp [results, Tryz.results197, go_sem, d0, d1, hlt]) rfl ⟨rfl, ?_⟩
    have h1 := ((Below.refl _ w).alloc (Nat.le_refl _) (.cells #[.int .i64 0, .nilIface] 303)).trans (HB.out.mono (by simp))
    exact ((((((Only.of_below (X := []) h1).setCell (.inr (Nat.le_refl _)) _).setCell (.inr (Nat.le_refl _)) _).alloc _).alloc _).drew').below
end Go.Proofs.YteeefedoffplmaaGreat

/- A tree's count of a leaf; upwards over an empty way. No condition on the node's place. -/
namespace Go.Proofs.YteeefedoffplmaaGreat
open Go.RowKit

set_option maxRecDepth 100000 in
theorem countLeaf_any (w : World) (h k v : Int) :
    Calls Tryz.prog 232 #[.agg #[.int .i64 h, (Shape.leaf k v).val]] w fun e w' => e = .returned (.int .i64 1) ∧ Only [] w w' := by
  have hta := assertLeaf k v
  unfold Shape.val
  go_enter Tryz.func232, Tryz.ntmps232
  go_wp2_with fail
  go_ret
  exact ⟨rfl, (Only.refl _ _).alloc _⟩
set_option maxRecDepth 100000 in
theorem upwardsNone_any (w : World) (mb : Nat) (more : Int) :
    Calls Tryz.prog 207 #[ptr mb, .slice none 0 0, .int .i64 more] w fun e w' => e = .returned (.int .i64 0) ∧ w' = w := by
  unfold ptr
  go_enter Tryz.func207, Tryz.ntmps207
  go_wp2_with fail
  refine wp_loop_rounds 1 ?_
  rw [rounds_succ]
  go_wp2_with fail
  go_ret
  exact ⟨rfl, rfl⟩
end Go.Proofs.YteeefedoffplmaaGreat
