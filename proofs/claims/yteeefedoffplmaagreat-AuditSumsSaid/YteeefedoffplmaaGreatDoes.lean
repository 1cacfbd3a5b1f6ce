/- A part's write under way (does$2): the newest version, the change, the push. Conditions: the store lies in memory; the tree is a leaf of that key with another value; the plain functions answer. -/
import Derived.Test.YteeefedoffplmaaGreatNewest
import Derived.Test.YteeefedoffplmaaGreatPush
set_option linter.unusedSimpArgs false
set_option linter.unusedVariables false
namespace Go.Proofs.YteeefedoffplmaaGreat
open Go.RowKit

/-- what a write of another value asks of the plain side. -/
structure Writes (X : StoreS) (i : Nat) (k v : Int) (hd : Int) (m' : EditS) (nb : Int) (C' : ChainS) (S3 : PoolS) : Prop where
  key : keyB k = true
  val : In64 v
  ex : ∃ C s S1 n v' S2 h2, X.chains[i]? = some C ∧ C.top X.clock.now X.pool = some (hd, s, S1) ∧ S1.read hd = some n ∧ n.b = nb ∧ n.a ≠ 0 ∧ v' ≠ v ∧ S1.shape n.a 0 (K32 - 1) = some (.leaf k v') ∧ mkLeaf k v (oldEdit v' n.a, S1) = some (m', S2) ∧
    m'.root ≠ n.a ∧ C.push X.clock.now S2 hd ⟨m'.root, n.b + 1, 0, 0⟩ m'.gone = some (h2, C', S3)
  hd : In64 hd
  root : In64 m'.root
  nb : 0 ≤ nb ∧ nb < 1000000000
  gone : m'.gone.length ≤ 100000
def toldOf (m' : EditS) (nb : Int) : ToldS := ⟨m'.old, m'.had, nb + 1, true, 0⟩
/-- where a write's closure lies: boxes of the callers'. -/
structure WriteIn (w : World) (Y : StoreL) (i : Nat) (k v : Int) (b0 b1 b2 b4 b6 b7 : Nat) : Prop where
  c0 : w.cell? ⟨b0, 0, none⟩ = some (ptr (Y.pt i))
  c1 : w.cell? ⟨b1, 0, none⟩ = some (.pointer none)
  c2 : w.cell? ⟨b2, 1, none⟩ = some (.func (.func 115) #[] #[ptr b4, ptr b6, ptr b7])
  c4 : w.cell? ⟨b4, 0, none⟩ = some (ptr (Y.pt i))
  c6 : w.cell? ⟨b6, 0, none⟩ = some (.int .i64 k)
  c7 : w.cell? ⟨b7, 0, none⟩ = some (.int .i64 v)
  ge : ∀ b ∈ [b0, b1, b2, b4, b6, b7], Y.base ≤ b
theorem Moves.cell {Y : StoreL} {dy dy' : Nat → Prop} {w w' : World} (hm : Moves Y dy dy' w w') {b i : Nat} {v : Value} (h : w.cell? ⟨b, i, none⟩ = some v) (h1 : Y.base ≤ b) (h2 : ¬ dy b) : w'.cell? ⟨b, i, none⟩ = some v := by
  have := hm.block b (cell_lt h) (fun e => by omega) h2
  simp only [World.cell?] at h ⊢
  rw [this]
  exact h
theorem WriteIn.moves {w w' : World} {Y : StoreL} {i : Nat} {k v : Int} {b0 b1 b2 b4 b6 b7 : Nat} (h : WriteIn w Y i k v b0 b1 b2 b4 b6 b7) {dy dy' : Nat → Prop} (hm : Moves Y dy dy' w w') (hd : ∀ b ∈ [b0, b1, b2, b4, b6, b7], ¬ dy b) : WriteIn w' Y i k v b0 b1 b2 b4 b6 b7 :=
  ⟨hm.cell h.c0 (h.ge _ (by simp)) (hd _ (by simp)), hm.cell h.c1 (h.ge _ (by simp)) (hd _ (by simp)), hm.cell h.c2 (h.ge _ (by simp)) (hd _ (by simp)), hm.cell h.c4 (h.ge _ (by simp)) (hd _ (by simp)), hm.cell h.c6 (h.ge _ (by simp)) (hd _ (by simp)), hm.cell h.c7 (h.ge _ (by simp)) (hd _ (by simp)), h.ge⟩
theorem StoreIn.far_chX {w : World} {Y : StoreL} {ed : Option Nat} {D : Nat → List Nat} {X : StoreS} (h : StoreIn w Y ed D X) {i : Nat} (hi : i < Y.n) {b : Nat} (hb : Y.base ≤ b) : b ∉ chX (Y.chain i) Y.pool := fun m => by
  simp only [chX, List.mem_cons] at m
  rcases m with m | m | m
  · have := (h.ok.xb i hi).1; omega
  · have := (h.ok.sets i hi).1; omega
  · have := (h.ok.pool _ (blocks_all m)).1; omega
theorem StoreIn.far_pool {w : World} {Y : StoreL} {ed : Option Nat} {D : Nat → List Nat} {X : StoreS} (h : StoreIn w Y ed D X) {b : Nat} (hb : Y.base ≤ b) : b ∉ Y.pool.blocks := fun m => by
  have := (h.ok.pool _ (blocks_all m)).1; omega
theorem mkLeaf_len {k v : Int} {S S' : PoolS} {m m' : EditS} (h : mkLeaf k v (m, S) = some (m', S')) : S'.slots.length = S.slots.length := by
  simp only [mkLeaf, makes, bind, Option.bind_eq_some_iff] at h
  obtain ⟨⟨hd, S1⟩, ht, h⟩ := h
  simp only [Option.some.injEq, Prod.mk.injEq] at h
  obtain ⟨rfl, rfl⟩ := h
  exact take_len ht
theorem push_len {C C' : ChainS} {now old h : Int} {S S' : PoolS} {x : NodeS} {l : List Int} (hs : C.push now S old x l = some (h, C', S')) : S'.slots.length = S.slots.length ∧ C'.sets.length = C.sets.length := by
  simp only [ChainS.push, bind, Option.bind_eq_some_iff] at hs
  obtain ⟨⟨h1, S1⟩, ht, hs⟩ := hs
  split at hs
  · simp only [Option.bind_eq_some_iff, Option.some.injEq, Prod.mk.injEq] at hs
    obtain ⟨⟨_, S2⟩, hse, rfl, rfl, rfl⟩ := hs
    exact ⟨(settle_len hse).trans (take_len ht), by simp⟩
  · cases hs
/-- a step in blocks that are new. -/
theorem Moves.fresh {Y : StoreL} {dy dy' : Nat → Prop} {w w' w'' : World} {Z : List Nat} (h : Moves Y dy dy' w w') (ho : Only Z w' w'') (hz : ∀ k ∈ Z, w.heap.size ≤ k) : Moves Y dy dy' w w'' :=
  ⟨ho.os.trans h.os, ho.tape.trans h.tape, ho.output.trans h.output, Nat.le_trans h.size ho.size, fun k h1 h2 h3 => (ho.block k (Nat.lt_of_lt_of_le h1 h.size) (fun m => by have := hz k m; omega)).trans (h.block k h1 h2 h3), h.dyn⟩
set_option maxRecDepth 100000 in
set_option maxHeartbeats 3200000 in
theorem does2_any (w : World) (Y : StoreL) (ed : Option Nat) (D : Nat → List Nat) (X : StoreS) (h : StoreIn w Y ed D X) (i : Nat) (k v hd : Int) (m' : EditS) (nb : Int) (C' : ChainS) (S3 : PoolS) (hw : Writes X i k v hd m' nb C' S3) (b0 b1 b2 b4 b6 b7 : Nat) (hb : WriteIn w Y i k v b0 b1 b2 b4 b6 b7) (hbd : ∀ b ∈ [b0, b1, b2, b4, b6, b7], ¬ Dyn Y ed D b) :
    Calls Tryz.prog 179 #[ptr b0, ptr b1, ptr b2] w fun e w' => ∃ D', e = .returned (.tuple #[(toldOf m' nb).val, .int .i64 0]) ∧ StoreIn w' Y ed D' (fillX X i C' S3) ∧ Moves Y (Dyn Y ed D) (Dyn Y ed D') w w' := by
  obtain ⟨hk, hv, ⟨C, s, S1, n, v', S2, h2, hC, ht, hn, rfl, hn0, hvv, hx, hS, hne, hpu⟩, hhd, hroot, hnb, hgone⟩ := hw
  have hi : i < Y.n := by rw [← h.chains]; exact (List.getElem?_eq_some_iff.1 hC).1
  have hr0 : ¬ Dyn Y ed D w.heap.size := fun e => by have := (h.dyn_lt e).2; omega
  have hm0 : Moves Y (Dyn Y ed D) (Dyn Y ed D) w (w.alloc (.cells #[.int .i64 0, .bool false, .int .i64 0, .bool false, .int .i64 0] 57)) := .of_new ((Only.refl [] w).alloc _)
  have hs0 := h.new (w' := w.alloc (.cells #[.int .i64 0, .bool false, .int .i64 0, .bool false, .int .i64 0] 57)) ((Only.refl [] w).alloc _)
  have hw0 := hb.moves hm0 hbd
  have a0 := hw0.c0
  have a1 := hw0.c1
  have hnew := newest_any _ Y ed D X hs0 i C hC hd s S1 ht n hn
  have hbr0 := Blk.new w [.int .i64 0, .bool false, .int .i64 0, .bool false, .int .i64 0] 57
  have H := Lib.hid h; have H0 := Lib.hid hs0; have HW0 := Lib.hid hw0; have HI := Lib.hid hi; have HB0 := Lib.hid hbr0; have HR0 := Lib.hid hr0; have HBD := Lib.hid hbd; have HM0 := Lib.hid hm0
  have hrb : Y.base ≤ w.heap.size := h.room
  have HRB := Lib.hid hrb
  have HPG := Lib.hid (show Y.pg i ∉ Y.pool.blocks from fun m => is_ne (h.ok.pg i hi) (h.ok.pool _ (blocks_all m)) (by decide) rfl)
  unfold NodeS.val ptr at hnew
  unfold ptr at *
  clear h hs0 hb hw0 hi hbr0 hr0 hbd hm0 hrb
  obtain ⟨na, nb, nc, nd⟩ := n
  simp only at *
  have HN0 := Lib.hid hn0; have HVV := Lib.hid hvv; have HK := Lib.hid hk; have HV := Lib.hid hv; have HX := Lib.hid hx; have HS := Lib.hid hS; have HNB := Lib.hid hnb; have HGN := Lib.hid hgone; have HHD := Lib.hid hhd; have HRT := Lib.hid hroot; have HC := Lib.hid hC; have HTT := Lib.hid ht
  have hnq : decide (m'.root ≠ na) = true := by simp [hne]
  have hwn : wrap64 (nb + 1) = nb + 1 := IntWalk.wrap64_in _ (by omega)
  have HWN := Lib.hid hwn
  have hwn2 : IntKind.i64.wrap (nb + 1) = nb + 1 := IntWalk.i64_in _ (by omega)
  have HWN2 := Lib.hid hwn2
  rw [← hwn2] at hpu
  clear hwn2
  clear hwn
  have HPU := Lib.hid hpu
  clear hn0 hvv hk hv hx hS hpu hnb hgone hhd hroot hC ht hn
  go_enter Tryz.func179, Tryz.ntmps179
  go_wp2_with fail
  refine wp_loop_rounds 1 ?_
  rw [rounds_succ]
  go_wp2_with (first | (go_at_call 144; refine hnew.mono ?_; rintro e w1 ⟨rfl, hs1, hm1⟩; have hma : Moves Y (Dyn Y ed D) (Dyn Y ed D) w1 (w1.alloc (.cells #[.int .i64 na, .int .i64 nb, .int .i64 nc, .int .i64 nd] 218)) := .of_new ((Only.refl [] w1).alloc _); have hw1 := (HW0.out.moves hm1 HBD.out).moves hma HBD.out; have b24 := hw1.c2; have b11 := hw1.c1; have hs1a := hs1.new (w' := (w1.alloc (.cells #[.int .i64 na, .int .i64 nb, .int .i64 nc, .int .i64 nd] 218))) ((Only.refl [] w1).alloc _); have hpc := putClosure_any _ Y.pool S1 (Y.pt i) (Y.pg i) _ _ _ _ _ hs1a.pool (hs1a.fixed.pg i HI.out) (hs1a.fixed.pt i HI.out) HPG.out b4 b6 b7 na k v v' hw1.c4 hw1.c6 hw1.c7 HN0.out HVV.out HK.out HV.out HX.out m' S2 HS.out; have hbr1 := (hm1.trans hma).blk HB0.out (fun e => by have := HRB.out; omega) HR0.out; have HBR1 := Lib.hid hbr1; unfold ptr ChangeOf at hpc; unfold ptr at b24; have HS1 := Lib.hid hs1a; have HM1 := Lib.hid (hm1.trans hma); have HW1 := Lib.hid hw1; clear hs1 hm1 hw1 hs1a hma hbr1) | (go_at_call 115; refine hpc.mono ?_; rintro e w2 ⟨gv, mv, rfl, h1, h2, h3, ho2⟩; rw [hnq]; obtain ⟨gA, gc, rfl, hgr, hgn⟩ := row_of_own h2; obtain ⟨mA, mc, rfl, _, _⟩ := row_of_own h3; have hs2 := HS1.out.poolStep ho2 h1 (mkLeaf_len HS.out); have hm2 := HS1.out.poolMoves ho2; have hw2 := HW1.out.moves hm2 HBD.out; have hnb2 : Blk w2 w1.heap.size [.int .i64 na, .int .i64 nb, .int .i64 nc, .int .i64 nd] 218 := (Blk.new w1 [.int .i64 na, .int .i64 nb, .int .i64 nc, .int .i64 nd] 218).only ho2 (HS1.out.far_pool (Nat.le_trans HRB.out (Nat.le_trans (by have := HM1.out.size; simp at this; omega) (Nat.le_refl _)))); have n1 := hnb2.cell (i := 1) rfl; have hltn := hnb2.lt; have HNBK := Lib.hid hnb2; have HS2 := Lib.hid hs2; have HM2 := Lib.hid hm2; have HW2 := Lib.hid hw2; have HG2 := Lib.hid h2; have HGR := Lib.hid hgr; have HGN2 := Lib.hid hgn; have HO2 := Lib.hid ho2; clear h1 h2 h3 hgr hgn hs2 hm2 hw2 ho2))
  obtain ⟨W3, hW3⟩ : ∃ W3, w2.alloc (.cells #[.int .i64 m'.root, .slice gA m'.gone.length gc, .slice mA m'.made.length mc, .int .i64 m'.old, .bool m'.had, .int .i64 nb, .bool true, .int .i64 0] 209) = W3 := ⟨_, rfl⟩
  rw [hW3]
  have hma3 : Only [] w2 W3 := by rw [← hW3]; exact (Only.refl [] w2).alloc _
  have hs3 := HS2.out.new hma3
  have hm3 : Moves Y (Dyn Y ed D) (Dyn Y ed D) w2 W3 := .of_new hma3
  have hw3 := HW2.out.moves hm3 HBD.out
  have hcb : Blk W3 w2.heap.size [.int .i64 m'.root, .slice gA m'.gone.length gc, .slice mA m'.made.length mc, .int .i64 m'.old, .bool m'.had, .int .i64 nb, .bool true, .int .i64 0] 209 := by rw [← hW3]; exact Blk.new w2 _ 209
  have hnk := HNBK.out.only hma3 (by simp)
  have hrk := (HBR1.out.only HO2.out (H.out.far_pool HRB.out)).only hma3 (by simp)
  have hgk := own_only HG2.out hma3 (by simp)
  have hsz2 : w.heap.size < w2.heap.size := by
    have := HM1.out.size
    have := HM2.out.size
    simp at *
    omega
  have hr3 : ¬ Dyn Y ed D w2.heap.size := fun e => by have := (HS2.out.dyn_lt e).2; omega
  obtain ⟨gA', gc', hge, hgrow, hgnil⟩ := row_of_own hgk
  simp only [Value.slice.injEq, true_and] at hge
  obtain ⟨rfl, rfl⟩ := hge
  have hpush := push_chain W3.drew (Y.chain i) Y.pool S2 Y.clock X.clock Y.base (D i) C hs3.pool.drew (hs3.clock.only (Only.drew [] _) (by simp) (by simp)) ((hs3.chain i C HC.out).below (Only.drew [] _)) (H.out.far HI.out)
    ⟨fun m => ?_, fun m => ?_⟩ hd HHD.out ⟨m'.root, IntKind.i64.wrap (nb + 1), 0, 0⟩ ⟨HRT.out, by show In64 (IntKind.i64.wrap (nb + 1)); rw [HWN2.out]; have := HNB.out; unfold In64; omega, by unfold In64; simp, by unfold In64; simp⟩ m'.gone gA gc (hgrow.drewN 1) HGN.out hgnil (fun b off e => ?_) h2 C' S3 HPU.out
  rotate_left
  · simp only [chX, List.mem_cons] at m
    rcases m with m | m | m
    · exact is_ne H.out.ok.cb (H.out.ok.xb i HI.out) (by omega) m
    · exact is_ne H.out.ok.cb (H.out.ok.sets i HI.out) (by omega) m
    · exact is_ne H.out.ok.cb (H.out.ok.pool _ (blocks_all m)) (by omega) rfl
  · simp only [chX, List.mem_cons] at m
    rcases m with m | m | m
    · exact is_ne H.out.ok.lb (H.out.ok.xb i HI.out) (by omega) m
    · exact is_ne H.out.ok.lb (H.out.ok.sets i HI.out) (by omega) m
    · exact is_ne H.out.ok.lb (H.out.ok.pool _ (blocks_all m)) (by omega) rfl
  · refine H.out.far_pool ?_
    have := (hgk.lt b (by rw [e]; rfl)).1
    have := HM1.out.size
    have := HRB.out
    simp at *
    omega
  have p0 := (hs3.fixed.pt i HI.out).cell (i := 0) rfl
  have z0 := hw3.c0
  have z1 := hw3.c1
  have k0 := hcb.cell (i := 0) rfl
  have k1 := hcb.cell (i := 1) rfl
  have k5 := hcb.cell (i := 5) rfl
  have u1 := hnk.cell (i := 1) rfl
  have HS3 := Lib.hid hs3; have HM3 := Lib.hid ((HM1.out.trans HM2.out).trans hm3); have HCB := Lib.hid hcb; have HRK := Lib.hid hrk; have HR3 := Lib.hid hr3; have HSZ := Lib.hid hsz2
  have hx1 : w2.heap.size ∉ chX (Y.chain i) Y.pool := H.out.far_chX HI.out (by have := HRB.out; omega)
  have hx2 : w.heap.size ∉ chX (Y.chain i) Y.pool := H.out.far_chX HI.out HRB.out
  have hx3 : Y.pt i ∉ chX (Y.chain i) Y.pool := fun m => by
    simp only [chX, List.mem_cons] at m
    rcases m with m | m | m
    · exact is_ne (H.out.ok.pt i HI.out) (H.out.ok.xb i HI.out) (by omega) m
    · exact is_ne (H.out.ok.pt i HI.out) (H.out.ok.sets i HI.out) (by omega) m
    · exact is_ne (H.out.ok.pt i HI.out) (H.out.ok.pool _ (blocks_all m)) (by omega) rfl
  have hx4 : b0 ∉ chX (Y.chain i) Y.pool := H.out.far_chX HI.out (hw3.ge _ (by simp))
  have hx5 : b1 ∉ chX (Y.chain i) Y.pool := H.out.far_chX HI.out (hw3.ge _ (by simp))
  have hx6 : w1.heap.size ∉ chX (Y.chain i) Y.pool := H.out.far_chX HI.out (by have := HM1.out.size; have := HRB.out; simp at *; omega)
  have HX1 := Lib.hid hx1; have HX2 := Lib.hid hx2; have HX3 := Lib.hid hx3; have HX4 := Lib.hid hx4; have HX5 := Lib.hid hx5; have HX6 := Lib.hid hx6
  unfold Pushed NodeS.val IBI ptr at hpush
  dsimp only at hpush
  unfold ptr at p0 z0 z1
  clear hma3 hs3 hm3 hw3 hcb hnk hrk hgk hsz2 hr3 hgrow hgnil hx1 hx2 hx3 hx4 hx5 hx6 hW3 a0 a1 b24 b11 n1 hltn
  go_region_held3 (fun W => W.cell? ⟨b0, 0, none⟩ = some (.pointer (some ⟨Y.pt i, 0, none⟩)) ∧ W.cell? ⟨b1, 0, none⟩ = some (.pointer none) ∧ W.cell? ⟨Y.pt i, 0, none⟩ = some (.pointer (some ⟨(Y.chain i).xb, 0, none⟩)) ∧ W.cell? ⟨w2.heap.size, 0, none⟩ = some (.int .i64 m'.root) ∧ W.cell? ⟨w2.heap.size, 1, none⟩ = some (.slice gA m'.gone.length gc) ∧ W.cell? ⟨w1.heap.size, 1, none⟩ = some (.int .i64 nb))
    (first | with_reducible exact ⟨cell_only ho4 z0 HX4.out, cell_only ho4 z1 HX5.out, cell_only ho4 p0 HX3.out, cell_only ho4 k0 HX1.out, cell_only ho4 k1 HX1.out, cell_only ho4 u1 HX6.out⟩ | (go_keep; done))
    (first | (go_simp; go_at_call 180; refine hpush.mono ?_; rintro e w4 ⟨Di, rfl, hp4, hc4, ho4', hd4⟩; have HP4 := Lib.hid hp4; have HC4 := Lib.hid hc4; have HD4 := Lib.hid hd4; have ho4 : Only (chX (Y.chain i) Y.pool) W3 w4 := ⟨ho4'.os, ho4'.tape, ho4'.output, ho4'.size, ho4'.block⟩; have HO4 := Lib.hid ho4; clear hp4 hc4 hd4 ho4'))
  have hcb4 := HCB.out.only HO4.out HX1.out
  have hrk4 := HRK.out.only HO4.out HX2.out
  have cf := hcb4.frozen
  have rf := hrk4.frozen
  have g3 := hcb4.cell (i := 3) rfl
  have g4 := hcb4.cell (i := 4) rfl
  have g5 := hcb4.cell (i := 5) rfl
  have g6 := hcb4.cell (i := 6) rfl
  have g7 := hcb4.cell (i := 7) rfl
  have r0 := hrk4.cell (i := 0) rfl
  have r1 := hrk4.cell (i := 1) rfl
  have r2 := hrk4.cell (i := 2) rfl
  have r3 := hrk4.cell (i := 3) rfl
  have r4 := hrk4.cell (i := 4) rfl
  have hne24 : w2.heap.size ≠ w.heap.size := by have := HSZ.out; omega
  have hlt4 := hrk4.lt
  clear hcb4 hrk4 p0 z0 z1 k0 k1 k5 u1
  go_wp2_with fail
  have hfin : ∀ W, Only [w2.heap.size, w.heap.size] w4 W → StoreIn W Y ed (fun j => if j = i then Di else D j) (fillX X i C' S3) ∧ Moves Y (Dyn Y ed D) (Dyn Y ed (fun j => if j = i then Di else D j)) w W := fun W g => by
    have hl := push_len HPU.out
    have hs4 := HS3.out.chainStep HI.out HO4.out HP4.out HC4.out HD4.out hl.1 (hl.2.trans (HS3.out.sets C (List.mem_of_getElem? HC.out)))
    have hm4 := HS3.out.chainMoves HI.out HO4.out HD4.out
    have hz := HSZ.out
    have hd : ∀ k, k < W3.heap.size → ¬ Dyn Y ed D k → ¬ Dyn Y ed (fun j => if j = i then Di else D j) k := fun k h1 h2 e => by
      rcases hm4.dyn k e with e | e
      · exact h2 e
      · omega
    refine ⟨hs4.only g (fun k hk => ?_), ((HM0.out.trans HM3.out).trans hm4).fresh g (fun k hk => ?_)⟩
    · simp at hk
      rcases hk with rfl | rfl
      · exact ⟨by have := HRB.out; omega, hd _ HCB.out.lt HR3.out⟩
      · exact ⟨HRB.out, hd _ HRK.out.lt HR0.out⟩
    · simp at hk
      rcases hk with rfl | rfl <;> omega
  have hw2 := HWN.out
  refine bodyPost_ret (v := .tuple #[.agg #[.int .i64 m'.old, .bool m'.had, .int .i64 (wrap64 (nb + 1)), .bool true, .int .i64 0], .int .i64 0]) (by simp [results, Tryz.results179, go_sem, r0, r1, r2, r3, r4]) rfl ⟨_, by rw [hw2]; rfl, hfin _ ?_⟩
  exact (((((((Only.refl [w2.heap.size, w.heap.size] w4).setCell (.inl (by simp)) _).setCell (.inl (by simp)) _).setCell (.inl (by simp)) _).setCell (.inl (by simp)) _).setCell (.inl (by simp)) _).setCell (.inl (by simp)) _)
end Go.Proofs.YteeefedoffplmaaGreat
