/- A part's puts and its closure, where the tree is a leaf of that key with another value. Conditions: pool, part and tree lie in memory; the plain leaf answers. -/
import Derived.Test.YteeefedoffplmaaGreatWait
set_option linter.unusedSimpArgs false
set_option linter.unusedVariables false
namespace Go.Proofs.YteeefedoffplmaaGreat
open Go.RowKit

/-- the change that a Put makes of a root. -/
def ChangeOf (L : PoolL) (m : EditS) (root : Int) (S' : PoolS) (w : World) (e : Ending) (w' : World) : Prop :=
  ∃ gv mv, e = .returned (.tuple #[.agg #[.int .i64 m.root, gv, mv, .int .i64 m.old, .bool m.had, .int .i64 0, .bool (decide (m.root ≠ root)), .int .i64 0], .int .i64 0]) ∧ PoolAt w' L S' ∧ w'.ownsRow w.heap.size 3 1 gv m.gone.length (ints m.gone) ∧ w'.ownsRow w.heap.size 3 1 mv m.made.length (ints m.made) ∧ Only L.blocks w w'
set_option maxRecDepth 100000 in
set_option maxHeartbeats 1600000 in
theorem puts_any (w : World) (L : PoolL) (S : PoolS) (pt pg : Nat) (x0 x1 x2 x5 x6 : Value) (hp : PoolAt w L S) (ht : Blk w pg [ptr L.pb] 187) (hpt : Blk w pt [x0, x1, x2, ptr L.pb, ptr pg, x5, x6] 152) (hx2 : pg ∉ L.blocks)
    (root k v v' : Int) (h0 : root ≠ 0) (hvv : v' ≠ v) (hk : keyB k = true) (hv : In64 v) (hx : S.shape root 0 (K32 - 1) = some (.leaf k v')) (m' : EditS) (S' : PoolS) (hS : mkLeaf k v (oldEdit v' root, S) = some (m', S')) :
    Calls Tryz.prog 116 #[ptr pt, .pointer none, .int .i64 root, .int .i64 k, .int .i64 v] w (ChangeOf L m' root S' w) := by
  have ho0 : Only [] w (w.alloc (.cells #[.int .i64 0, .slice none 0 0, .slice none 0 0, .int .i64 0, .bool false, .int .i64 0, .bool false, .int .i64 0] 209)) := (Only.refl _ _).alloc _
  have hput := putOther_any _ pg L S (hp.only ho0 (by simp)) (ht.only ho0 (by simp)) hx2 root k v v' h0 hvv hk hv hx m' S' hS
  have c4 := (hpt.only ho0 (by simp)).cell (i := 4) rfl
  have hch := fun W gv mv gA gn gc mA mn mc h1 h2 => changed_any W root m'.root m'.old m'.had gv mv gA mA gn gc mn mc h1 h2
  have hrn : w.heap.size ∉ L.blocks := fun m => by have := hp.lt _ (blocks_all m); omega
  have HRN := Lib.hid hrn; have HO0 := Lib.hid ho0; have HCH := Lib.hid hch; have HLT := Lib.hid hp.lt
  unfold Putted Edit2 at hput
  unfold ptr at *
  clear hp ht hpt hx2 h0 hvv hk hv hx hS ho0 hch hrn
  go_enter Tryz.func116, Tryz.ntmps116
  go_wp2_with (first | (go_at_call 165; refine hput.mono ?_; rintro e w1 ⟨gv, mv, rfl, h1, h2, h3, h4, ho1⟩; obtain ⟨gA, gc, rfl, _, _⟩ := row_of_own h2; obtain ⟨mA, mc, rfl, _, _⟩ := row_of_own h3; have hbr := (Blk.new w [.int .i64 0, .slice none 0 0, .slice none 0 0, .int .i64 0, .bool false, .int .i64 0, .bool false, .int .i64 0] 209).only ho1 HRN.out; have HBR := Lib.hid hbr; have H1 := Lib.hid h1; have H2 := Lib.hid h2; have H3 := Lib.hid h3; have HO1 := Lib.hid ho1; clear h1 h2 h3 h4 ho1 hbr) | (go_at_call 182; refine (HCH.out _ _ _ _ _ _ _ _ _ rfl rfl).mono ?_; rintro e w2 ⟨rfl, ho2⟩; have hbr2 := (HBR.out.alloc (.cells #[.int .i64 m'.root, .int .i64 m'.old, .bool m'.had, .slice gA m'.gone.length gc, .slice mA m'.made.length mc] 264)).only ho2 (by simp); have hlt2 := hbr2.lt; have f0 := hbr2.frozen; have e0 := hbr2.cell (i := 0) rfl; have e1 := hbr2.cell (i := 1) rfl; have e2 := hbr2.cell (i := 2) rfl; have e3 := hbr2.cell (i := 3) rfl; have e4 := hbr2.cell (i := 4) rfl; have e5 := hbr2.cell (i := 5) rfl; have e6 := hbr2.cell (i := 6) rfl; have e7 := hbr2.cell (i := 7) rfl; have HO2 := Lib.hid ho2; clear ho2 hbr2))
  have hfin : ∀ W, Only [w.heap.size] w2 W → ChangeOf L m' root S' w (.returned (.tuple #[.agg #[.int .i64 m'.root, .slice gA m'.gone.length gc, .slice mA m'.made.length mc, .int .i64 m'.old, .bool m'.had, .int .i64 0, .bool (decide (m'.root ≠ root)), .int .i64 0], .int .i64 0])) W := fun W g => by
    have g1 : Only [w.heap.size] w1 W := (((Only.refl [] w1).alloc _).trans HO2.out).mono (by simp) |>.trans g
    refine ⟨_, _, rfl, H1.out.only g1 (fun k hk e => by have := HLT.out k hk; simp at e; omega), ?_, ?_, ?_⟩
    · exact own_base (own_only H2.out g1 (fun k hk e => by have := (H2.out.lt k hk).1; simp at e this; omega)) (by simp)
    · exact own_base (own_only H3.out g1 (fun k hk e => by have := (H3.out.lt k hk).1; simp at e this; omega)) (by simp)
    · exact ((HO0.out.mono (Y := w.heap.size :: L.blocks) (by simp)).trans ((HO1.out.mono (by intro k hk; simp [hk])).trans (g1.mono (by intro k hk; simp at hk; simp [hk])))).fresh (fun k hk hl => by
        rcases List.mem_cons.1 hk with rfl | hk
        · omega
        · exact hk)
  refine bodyPost_ret (v := .tuple #[.agg #[.int .i64 m'.root, .slice gA m'.gone.length gc, .slice mA m'.made.length mc, .int .i64 m'.old, .bool m'.had, .int .i64 0, .bool (decide (m'.root ≠ root)), .int .i64 0], .int .i64 0]) (by simp [results, Tryz.results116, go_sem, e0, e1, e2, e3, e4, e5, e6, e7, hlt2]) rfl (hfin _ ?_)
  exact (((((((((Only.refl [w.heap.size] w2).setCell (.inl (by simp)) _).setCell (.inl (by simp)) _).setCell (.inl (by simp)) _).setCell (.inl (by simp)) _).setCell (.inl (by simp)) _).setCell (.inl (by simp)) _).setCell (.inl (by simp)) _).setCell (.inl (by simp)) _)
set_option maxRecDepth 100000 in
set_option maxHeartbeats 1600000 in
theorem putClosure_any (w : World) (L : PoolL) (S : PoolS) (pt pg : Nat) (x0 x1 x2 x5 x6 : Value) (hp : PoolAt w L S) (ht : Blk w pg [ptr L.pb] 187) (hpt : Blk w pt [x0, x1, x2, ptr L.pb, ptr pg, x5, x6] 152) (hx2 : pg ∉ L.blocks) (b4 b6 b7 : Nat)
    (root k v v' : Int) (h4 : w.cell? ⟨b4, 0, none⟩ = some (ptr pt)) (h6 : w.cell? ⟨b6, 0, none⟩ = some (.int .i64 k)) (h7 : w.cell? ⟨b7, 0, none⟩ = some (.int .i64 v)) (h0 : root ≠ 0) (hvv : v' ≠ v) (hk : keyB k = true) (hv : In64 v) (hx : S.shape root 0 (K32 - 1) = some (.leaf k v')) (m' : EditS) (S' : PoolS) (hS : mkLeaf k v (oldEdit v' root, S) = some (m', S')) :
    Calls Tryz.prog 115 #[.pointer none, .int .i64 root, ptr b4, ptr b6, ptr b7] w (ChangeOf L m' root S' w) := by
  have ho0 : Only [] w (w.alloc (.cells #[.int .i64 0, .slice none 0 0, .slice none 0 0, .int .i64 0, .bool false, .int .i64 0, .bool false, .int .i64 0] 209)) := (Only.refl _ _).alloc _
  have hput := puts_any _ L S pt pg x0 x1 x2 x5 x6 (hp.only ho0 (by simp)) (ht.only ho0 (by simp)) (hpt.only ho0 (by simp)) hx2 root k v v' h0 hvv hk hv hx m' S' hS
  have c4 := cell_only ho0 h4 (by simp)
  have c6 := cell_only ho0 h6 (by simp)
  have c7 := cell_only ho0 h7 (by simp)
  have hrn : w.heap.size ∉ L.blocks := fun m => by have := hp.lt _ (blocks_all m); omega
  have HRN := Lib.hid hrn; have HO0 := Lib.hid ho0; have HLT := Lib.hid hp.lt
  unfold ChangeOf at hput
  unfold ptr at *
  clear hp ht hpt hx2 h0 hvv hk hv hx hS ho0 hrn h4 h6 h7
  go_enter Tryz.func115, Tryz.ntmps115
  go_wp2_with (go_at_call 116; refine hput.mono ?_; rintro e w2 ⟨gv, mv, rfl, h1, h2, h3, ho1⟩; obtain ⟨gA, gc, rfl, _, _⟩ := row_of_own h2; obtain ⟨mA, mc, rfl, _, _⟩ := row_of_own h3; have hbr2 := (Blk.new w [.int .i64 0, .slice none 0 0, .slice none 0 0, .int .i64 0, .bool false, .int .i64 0, .bool false, .int .i64 0] 209).only ho1 HRN.out; have hlt2 := hbr2.lt; have f0 := hbr2.frozen; have e0 := hbr2.cell (i := 0) rfl; have e1 := hbr2.cell (i := 1) rfl; have e2 := hbr2.cell (i := 2) rfl; have e3 := hbr2.cell (i := 3) rfl; have e4 := hbr2.cell (i := 4) rfl; have e5 := hbr2.cell (i := 5) rfl; have e6 := hbr2.cell (i := 6) rfl; have e7 := hbr2.cell (i := 7) rfl; have H1 := Lib.hid h1; have H2 := Lib.hid h2; have H3 := Lib.hid h3; have HO1 := Lib.hid ho1; clear h1 h2 h3 ho1 hbr2)
  have hfin : ∀ W, Only [w.heap.size] w2 W → ChangeOf L m' root S' w (.returned (.tuple #[.agg #[.int .i64 m'.root, .slice gA m'.gone.length gc, .slice mA m'.made.length mc, .int .i64 m'.old, .bool m'.had, .int .i64 0, .bool (decide (m'.root ≠ root)), .int .i64 0], .int .i64 0])) W := fun W g1 => by
    refine ⟨_, _, rfl, H1.out.only g1 (fun k hk e => by have := HLT.out k hk; simp at e; omega), ?_, ?_, ?_⟩
    · exact own_base (own_only H2.out g1 (fun k hk e => by have := (H2.out.lt k hk).1; simp at e this; omega)) (by simp)
    · exact own_base (own_only H3.out g1 (fun k hk e => by have := (H3.out.lt k hk).1; simp at e this; omega)) (by simp)
    · exact ((HO0.out.mono (Y := w.heap.size :: L.blocks) (by simp)).trans ((HO1.out.mono (by intro k hk; simp [hk])).trans (g1.mono (by intro k hk; simp at hk; simp [hk])))).fresh (fun k hk hl => by
        rcases List.mem_cons.1 hk with rfl | hk
        · omega
        · exact hk)
  refine bodyPost_ret (v := .tuple #[.agg #[.int .i64 m'.root, .slice gA m'.gone.length gc, .slice mA m'.made.length mc, .int .i64 m'.old, .bool m'.had, .int .i64 0, .bool (decide (m'.root ≠ root)), .int .i64 0], .int .i64 0]) (by simp [results, Tryz.results115, go_sem, e0, e1, e2, e3, e4, e5, e6, e7, hlt2]) rfl (hfin _ ?_)
  exact (((((((((Only.refl [w.heap.size] w2).setCell (.inl (by simp)) _).setCell (.inl (by simp)) _).setCell (.inl (by simp)) _).setCell (.inl (by simp)) _).setCell (.inl (by simp)) _).setCell (.inl (by simp)) _).setCell (.inl (by simp)) _).setCell (.inl (by simp)) _)
end Go.Proofs.YteeefedoffplmaaGreat

/- A part's newest version; puts of a key whose value differs, where the tree is a leaf of that key. Conditions: the store lies in memory; the plain functions answer. -/
namespace Go.Proofs.YteeefedoffplmaaGreat
open Go.RowKit

theorem settle_len {now h v : Int} {S S' : PoolS} (hs : settle now S h = some (v, S')) : S'.slots.length = S.slots.length := by
  simp only [settle, bind, Option.bind_eq_some_iff] at hs
  obtain ⟨s, _, hs⟩ := hs
  split at hs
  · simp only [Option.some.injEq, Prod.mk.injEq] at hs
    rw [hs.2]
  · simp only [Option.bind_eq_some_iff, Option.some.injEq, Prod.mk.injEq] at hs
    obtain ⟨S2, h2, _, rfl⟩ := hs
    exact setMark_len h2
theorem top_len {C : ChainS} {now h v : Int} {S S' : PoolS} (hs : C.top now S = some (h, v, S')) : S'.slots.length = S.slots.length := by
  unfold ChainS.top at hs
  split at hs
  · cases hs
  · simp only [bind, Option.bind_eq_some_iff, Option.some.injEq, Prod.mk.injEq] at hs
    obtain ⟨⟨v', S2⟩, h2, _, _, rfl⟩ := hs
    exact settle_len h2
set_option maxRecDepth 100000 in
set_option maxHeartbeats 1600000 in
theorem newest_any (w : World) (Y : StoreL) (ed : Option Nat) (D : Nat → List Nat) (X : StoreS) (h : StoreIn w Y ed D X) (i : Nat) (C : ChainS) (hC : X.chains[i]? = some C) (hd v : Int) (S' : PoolS) (ht : C.top X.clock.now X.pool = some (hd, v, S')) (n : NodeS) (hn : S'.read hd = some n) :
    Calls Tryz.prog 144 #[ptr (Y.pt i), .pointer none] w fun e w' => e = .returned (.tuple #[.int .i64 hd, n.val, .int .i64 0]) ∧ StoreIn w' Y ed D { X with pool := S' } ∧ Moves Y (Dyn Y ed D) (Dyn Y ed D) w w' := by
  have hi : i < Y.n := by rw [← h.chains]; exact (List.getElem?_eq_some_iff.1 hC).1
  have hs0 := h.new (w' := w.alloc (.cells #[.int .i64 0, .int .i64 0, .int .i64 0, .int .i64 0] 218)) ((Only.refl [] w).alloc _)
  have c0 := (hs0.fixed.pt i hi).cell (i := 0) rfl
  have htop := top_any _ (Y.chain i) Y.pool X.pool Y.clock X.clock Y.base (D i) C hs0.pool hs0.clock (hs0.chain i C hC) hd v S' ht
  have hread := fun W (hp : PoolAt W Y.pool S') => read_any W Y.pool S' hp hd n hn
  have hlen := top_len ht
  have H := Lib.hid h; have H0 := Lib.hid hs0; have HR := Lib.hid hread; have HI := Lib.hid hi; have HL := Lib.hid hlen
  have hrn : w.heap.size ∉ Y.pool.blocks := fun m => by have := (h.ok.pool _ (blocks_all m)).1; have := h.room; omega
  have HRN := Lib.hid hrn
  unfold Settled I3 at htop
  unfold NodeS.val at HR ⊢
  unfold ptr at *
  clear h hC ht hn hs0 hread hi hlen hrn
  obtain ⟨na, nb, nc, nd⟩ := n
  go_enter Tryz.func144, Tryz.ntmps144
  go_wp2_with (first | (go_at_call 186; refine htop.mono ?_; rintro e w1 ⟨rfl, hp1, ho1⟩; have hs1 := H0.out.poolStep ho1 hp1 HL.out; have c3 := (hs1.fixed.pt i HI.out).cell (i := 3) rfl; have hbr := (Blk.new w [.int .i64 0, .int .i64 0, .int .i64 0, .int .i64 0] 218).only ho1 HRN.out; have HP1 := Lib.hid hp1; have HS1 := Lib.hid hs1; have HO1 := Lib.hid ho1; have HBR := Lib.hid hbr; clear hp1 ho1 hs1 hbr) | (go_at_call 159; refine (HR.out _ HS1.out.pool).mono ?_; rintro e w2 ⟨rfl, hb2⟩; have hbr2 := HBR.out.only (Only.of_below (X := []) hb2) (by simp); have hlt2 := hbr2.lt; have f0 := hbr2.frozen; have e0 := hbr2.cell (i := 0) rfl; have e1 := hbr2.cell (i := 1) rfl; have e2 := hbr2.cell (i := 2) rfl; have e3 := hbr2.cell (i := 3) rfl; have HB2 := Lib.hid hb2; clear hb2 hbr2))
  go_region
  all_goals (try go_wp2_with fail)
  all_goals
    refine bodyPost_ret (v := .tuple #[.int .i64 hd, .agg #[.int .i64 na, .int .i64 nb, .int .i64 nc, .int .i64 nd], .int .i64 0]) (by simp [results, Tryz.results144, go_sem, e0, e1, e2, e3, hlt2]) rfl ⟨rfl, ?_⟩
    rw [and_comm]
    have hm : ∀ W, Only [w.heap.size] w2 W → StoreIn W Y ed D { X with pool := S' } ∧ Moves Y (Dyn Y ed D) (Dyn Y ed D) w W := fun W g => by
      have ho : Only Y.pool.blocks w W := ((((Only.refl [] w).alloc _).mono (Y := w.heap.size :: Y.pool.blocks) (by simp)).trans ((HO1.out.mono (by intro k hk; simp [hk])).trans (((Only.of_below (X := []) HB2.out).mono (by simp)).trans (g.mono (by intro k hk; simp at hk; simp [hk]))))).fresh (fun k hk hl => by
        rcases List.mem_cons.1 hk with rfl | hk
        · omega
        · exact hk)
      have hp2 : PoolAt W Y.pool S' := (HP1.out.below HB2.out).only g (fun k hk e => by
        have := (H.out.ok.pool k hk).1
        have := H.out.room
        simp at e
        omega)
      exact ⟨H.out.poolStep ho hp2 HL.out, H.out.poolMoves ho⟩
    rw [and_comm]
    exact hm _ ((((((((Only.refl [w.heap.size] w2).setCell (.inl (by simp)) _).setCell (.inl (by simp)) _).setCell (.inl (by simp)) _).setCell (.inl (by simp)) _).alloc _).drew'))
end Go.Proofs.YteeefedoffplmaaGreat
