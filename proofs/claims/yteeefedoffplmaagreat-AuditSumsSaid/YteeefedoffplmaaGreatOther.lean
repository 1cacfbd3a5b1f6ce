/- A tree's Put where the root is a leaf of the same key and another value. Conditions: pool and tree lie in memory; the plain leaf answers. -/
import Derived.Test.YteeefedoffplmaaGreatLeaf
namespace Go.Proofs.YteeefedoffplmaaGreat
open Go.RowKit

/-- an edit under way, with its old value told. -/
def oldEdit (v h : Int) : EditS := { EditS.zero with old := v, had := true, gone := [h] }
set_option maxRecDepth 100000 in
set_option maxHeartbeats 3200000 in
theorem putOther_any (w : World) (tb : Nat) (L : PoolL) (S : PoolS) (hp : PoolAt w L S) (ht : Blk w tb [ptr L.pb] 187) (hx2 : tb ∉ L.blocks) (h k v v' : Int) (h0 : h ≠ 0) (hvv : v' ≠ v) (hk : keyB k = true) (hv : In64 v) (hx : S.shape h 0 (K32 - 1) = some (.leaf k v'))
    (m' : EditS) (S' : PoolS) (hS : mkLeaf k v (oldEdit v' h, S) = some (m', S')) :
    Calls Tryz.prog 165 #[ptr tb, .pointer none, .int .i64 h, .int .i64 k, .int .i64 v] w (Putted L m' S' w) := by
  have hkey := fun W => key_any k W
  rw [hk] at hkey
  have hk64 : In64 k := by unfold keyB K32 at hk; simp at hk; unfold In64; omega
  have hd := fun W (ho : Only [] w W) => downLeaf_any W tb L S (hp.only ho (by simp)) (ht.only ho (by simp)) h k k v' hx
  have hta := assertLeaf2 k v'
  have hq : (h == 0) = false := by simp [h0]
  have hq2 : (v' == v) = false := by simp [hvv]
  have ho0 : Only [] w ((w.alloc (.cells #[.int .i64 0, .int .i64 0, .bool false, .slice none 0 0, .slice none 0 0] 264)).alloc (.cells #[.pointer (some ⟨tb, 0, none⟩), .pointer none, .int .i64 0, .int .i64 0, .bool false, .slice none 0 0, .slice none 0 0] 320)) := ((Only.refl _ _).alloc _).alloc _
  have hlt := hp.lt
  have htl := ht.lt
  have HK := Lib.hid hkey; have HD := Lib.hid hd; have HO0 := Lib.hid ho0; have HP := Lib.hid hp; have HT := Lib.hid ht; have HX := Lib.hid hx2; have HS := Lib.hid hS; have HV := Lib.hid hv; have HK64 := Lib.hid hk64; have HLT := Lib.hid hlt; have HTL := Lib.hid htl
  unfold Shape.val ptr at *
  clear hp ht hx hd hkey hk ho0 hS hv hk64 hlt htl h0 hvv
  go_enter Tryz.func165, Tryz.ntmps165
  go_wp2_with (first | (go_at_call 195; refine (HK.out _).mono ?_; rintro e w' ⟨rfl, rfl⟩) | (go_at_call 197; refine (HD.out _ HO0.out).mono ?_; rintro e w1 ⟨rfl, hb⟩; have hn : Blk w1 w.heap.size [.int .i64 0, .int .i64 0, .bool false, .slice none 0 0, .slice none 0 0] 264 := ((Blk.new w [.int .i64 0, .int .i64 0, .bool false, .slice none 0 0, .slice none 0 0] 264).alloc _).only (Only.of_below (X := []) hb) (by simp); have hbm : Blk w1 (w.heap.size + 1) [.pointer (some ⟨tb, 0, none⟩), .pointer none, .int .i64 0, .int .i64 0, .bool false, .slice none 0 0, .slice none 0 0] 320 := (show Blk _ (w.heap.size + 1) _ 320 from by have := Blk.new (w.alloc (.cells #[.int .i64 0, .int .i64 0, .bool false, .slice none 0 0, .slice none 0 0] 264)) [.pointer (some ⟨tb, 0, none⟩), .pointer none, .int .i64 0, .int .i64 0, .bool false, .slice none 0 0, .slice none 0 0] 320; rw [World.size_alloc] at this; exact this).only (Only.of_below (X := []) hb) (by simp); have HBM := Lib.hid hbm; have HN := Lib.hid hn; have HB := Lib.hid hb; clear hb hn hbm))
  have hlt1 : w.heap.size < w1.heap.size := HN.out.lt
  have hlt2 : w.heap.size + 1 < w1.heap.size := HBM.out.lt
  have hf1 := HBM.out.frozen
  have m3 := HBM.out.cell (i := 3) rfl
  have m4 := HBM.out.cell (i := 4) rfl
  have m5 := HBM.out.cell (i := 5) rfl
  go_region
  obtain ⟨W0, hW0⟩ : ∃ W0 : World, ((((w1.setCell ⟨w.heap.size + 1, 3, none⟩ (.int .i64 v')).setCell ⟨w.heap.size + 1, 4, none⟩ (.bool true)).setCell ⟨w.heap.size + 1, 5, none⟩ (.slice (some ⟨w1.heap.size + 1 + 1, 0, none⟩) 1 1)).alloc (.cells #[.int .i64 h, .iface 307 (.agg #[.int .i64 k, .int .i64 v'])] 303)).alloc (.cells #[.int .i64 k, .int .i64 v'] 307) = W0 := ⟨_, rfl⟩
  rw [hW0]
  have hsz2 : W0.heap.size = w1.heap.size + 1 + 1 := by rw [← hW0]; simp
  obtain ⟨W2, hW2⟩ : ∃ W2 : World, (W0.alloc (.cells #[.int .i64 h] 3)).drew = W2 := ⟨_, rfl⟩
  rw [hW2]
  have ho1 : Only [] w w1 := HO0.out.trans (Only.of_below HB.out)
  have ho2 : Only [] w W2 := by
    rw [← hW2, ← hW0]
    exact ((((((ho1.setCell (.inr (by simp)) _).setCell (.inr (by simp)) _).setCell (.inr (by simp)) _).alloc _).alloc _).alloc _).drew'
  have hmb2 : Blk W2 (w.heap.size + 1) [.pointer (some ⟨tb, 0, none⟩), .pointer none, .int .i64 0, .int .i64 v', .bool true, .slice (some ⟨w1.heap.size + 1 + 1, 0, none⟩) 1 1, .slice none 0 0] 320 := by
    rw [← hW2, ← hW0]
    exact (((((HBM.out.set 3 (.int .i64 v')).set 4 (.bool true)).set 5 (.slice (some ⟨w1.heap.size + 1 + 1, 0, none⟩) 1 1)).alloc _).alloc _).alloc _
  have hbr2 : Blk W2 w.heap.size [.int .i64 0, .int .i64 0, .bool false, .slice none 0 0, .slice none 0 0] 264 := by
    rw [← hW2, ← hW0]
    exact (((((HN.out.other (by omega) _ _).other (by omega) _ _).other (by omega) _ _).alloc _).alloc _).alloc _
  have hgo0 := World.ownsRow_lit (base := w.heap.size + 2) (e := 3) (size := 1) W0 #[.int .i64 h] 1 (by omega) (by decide) rfl
  rw [hsz2] at hgo0
  have hgo : W2.ownsRow (w.heap.size + 2) 3 1 (.slice (some ⟨w1.heap.size + 1 + 1, 0, none⟩) 1 1) 1 (ints [h]) := by
    rw [← hW2]
    exact hgo0
  have hroom : w.heap.size + 2 ≤ W2.heap.size := by have := (hgo.lt (w1.heap.size + 1 + 1) rfl).2; omega
  have hed : EditAt W2 (w.heap.size + 2) (w.heap.size + 1) tb (oldEdit v' h) (.slice (some ⟨w1.heap.size + 1 + 1, 0, none⟩) 1 1) (.slice none 0 0) := ⟨hmb2, hgo, World.ownsRow_nil _ _ 3 1, by omega, (fun g hg => by simp [Value.ownBlock]), hroom⟩
  have hleaf := leaf_any W2 _ _ tb L S (oldEdit v' h) _ _ (HP.out.only ho2 (by simp)) (HT.out.only ho2 (by simp)) hed (fun e => by have := HLT.out _ e; omega) HX.out (by have := HTL.out; omega) (fun k hk => by have := HLT.out k hk; omega) (by have := HTL.out; omega) (by simp [oldEdit, EditS.zero]) k v HK64.out HV.out m' S' HS.out
  have hup := fun W => upwardsNone_any W (w.heap.size + 1) 0
  have HO2 := Lib.hid ho2; have HBR := Lib.hid hbr2; have HUP := Lib.hid hup; have HW2 := Lib.hid hW2
  unfold ptr at hleaf HUP
  clear hgo0 hW0 hW2 hsz2 ho1 ho2 hmb2 hbr2 hgo hroom hed hup hf1 m3 m4 m5 hlt1 hlt2
  go_wp2_with (first | (go_at_call 205; refine hleaf.mono ?_; rintro e w3 he; obtain ⟨gv, mv, D, rfl, h1, h2, h3, h4⟩ := he; obtain ⟨gA, gc, rfl, _, _⟩ := row_of_own h2.gone; obtain ⟨mA, mc, rfl, _, _⟩ := row_of_own h2.made; have hbr3 : Blk w3 w.heap.size [.int .i64 0, .int .i64 0, .bool false, .slice none 0 0, .slice none 0 0] 264 := HBR.out.only h3 (low_not HLT.out h4); have d2 : w3.cell? ⟨w.heap.size + 1, 2, none⟩ = some (.int .i64 m'.root) := h2.blk.cell rfl; have d3 : w3.cell? ⟨w.heap.size + 1, 3, none⟩ = some (.int .i64 m'.old) := h2.blk.cell rfl; have d4 : w3.cell? ⟨w.heap.size + 1, 4, none⟩ = some (.bool m'.had) := h2.blk.cell rfl; have d5 : w3.cell? ⟨w.heap.size + 1, 5, none⟩ = some (.slice gA m'.gone.length gc) := h2.blk.cell rfl; have d6 : w3.cell? ⟨w.heap.size + 1, 6, none⟩ = some (.slice mA m'.made.length mc) := h2.blk.cell rfl; have f := hbr3.frozen; have e0 := hbr3.cell (i := 0) rfl; have e1 := hbr3.cell (i := 1) rfl; have e2 := hbr3.cell (i := 2) rfl; have e3 := hbr3.cell (i := 3) rfl; have e4 := hbr3.cell (i := 4) rfl; have H1 := Lib.hid h1; have H2 := Lib.hid h2; have H3 := Lib.hid h3; have H4 := Lib.hid h4; clear h1 h2 h3 h4 hbr3 hleaf) | (go_at_call 207; refine (HUP.out _).mono ?_; rintro e w4 ⟨rfl, rfl⟩))
  have g : Only [w.heap.size] w4 (((((w4.setCell ⟨w.heap.size, 0, none⟩ (.int .i64 m'.root)).setCell ⟨w.heap.size, 1, none⟩ (.int .i64 m'.old)).setCell ⟨w.heap.size, 2, none⟩ (.bool m'.had)).setCell ⟨w.heap.size, 3, none⟩ (.slice gA m'.gone.length gc)).setCell ⟨w.heap.size, 4, none⟩ (.slice mA m'.made.length mc)) := ((((((Only.refl _ _).setCell (.inl (by simp)) _).setCell (.inl (by simp)) _).setCell (.inl (by simp)) _).setCell (.inl (by simp)) _).setCell (.inl (by simp)) _)
  have hall : Only L.blocks w (((((w4.setCell ⟨w.heap.size, 0, none⟩ (.int .i64 m'.root)).setCell ⟨w.heap.size, 1, none⟩ (.int .i64 m'.old)).setCell ⟨w.heap.size, 2, none⟩ (.bool m'.had)).setCell ⟨w.heap.size, 3, none⟩ (.slice gA m'.gone.length gc)).setCell ⟨w.heap.size, 4, none⟩ (.slice mA m'.made.length mc)) := by
    have h1 := (HO2.out.mono (Y := w.heap.size :: (w.heap.size + 1) :: L.blocks ++ D) (by simp)).trans ((H3.out.mono (by intro k hk; simp at hk ⊢; rcases hk with h | h | h <;> simp [h])).trans (g.mono (by intro k hk; simp at hk ⊢; simp [hk])))
    refine h1.fresh (fun k hk hlt => ?_)
    have h4 := H4.out k
    simp at hk
    rcases hk with h | h | h | h
    · omega
    · omega
    · exact h
    · have := h4 h
      omega
  refine bodyPost_ret (v := Edit2 m' (.slice gA m'.gone.length gc) (.slice mA m'.made.length mc)) (by simp [results, Tryz.results165, go_sem, e0, e1, e2, e3, e4, Edit2]) rfl ⟨_, _, rfl, H1.out.only g (fun k hk e => ?_), ?_, ?_, H2.out.apart, hall⟩
  · have := HLT.out k hk
    simp at e
    omega
  · exact own_base (own_only H2.out.gone g (fun k hk e => by have := (H2.out.gone.lt k hk).1; simp at e; omega)) (by omega)
  · exact own_base (own_only H2.out.made g (fun k hk e => by have := (H2.out.made.lt k hk).1; simp at e; omega)) (by omega)
end Go.Proofs.YteeefedoffplmaaGreat
