/- A store's Put of a key's other value in a part nobody has loaded: Part.Put, Put$1, keyed, of, Put. Conditions: the store lies in memory; worker 0 is not within; the plain functions answer. -/
import Derived.Test.YteeefedoffplmaaGreatPartPut
set_option linter.unusedSimpArgs false
set_option linter.unusedVariables false
namespace Go.Proofs.YteeefedoffplmaaGreat
open Go.RowKit

theorem only5 (w : World) (b : Nat) (x0 x1 x2 x3 x4 : Value) : Only [b] w (((((w.setCell ⟨b, 0, none⟩ x0).setCell ⟨b, 1, none⟩ x1).setCell ⟨b, 2, none⟩ x2).setCell ⟨b, 3, none⟩ x3).setCell ⟨b, 4, none⟩ x4) :=
  ((((((Only.refl [b] w).setCell (.inl (by simp)) _).setCell (.inl (by simp)) _).setCell (.inl (by simp)) _).setCell (.inl (by simp)) _).setCell (.inl (by simp)) _)
/-- what a write leaves and tells. -/
def Wrote (Y : StoreL) (ed : Option Nat) (D : Nat → List Nat) (told : ToldS) (X' : StoreS) (w : World) (e : Ending) (w' : World) : Prop :=
  ∃ D', e = .returned (.tuple #[told.val, .int .i64 0]) ∧ StoreIn w' Y ed D' X' ∧ Moves Y (Dyn Y ed D) (Dyn Y ed D') w w'
theorem wrote_fin {Y : StoreL} {ed : Option Nat} {D D' : Nat → List Nat} {X X' : StoreS} {w wA w2 : World} {b : Nat} (h : StoreIn w Y ed D X) (hs : StoreIn w2 Y ed D' X') (m1 : Only [] w wA) (m2 : Moves Y (Dyn Y ed D) (Dyn Y ed D') wA w2) (hb1 : w.heap.size ≤ b) (hb2 : b < wA.heap.size) :
    ∀ W, Only [b] w2 W → StoreIn W Y ed D' X' ∧ Moves Y (Dyn Y ed D) (Dyn Y ed D') w W := fun W g => by
  refine ⟨hs.only g (fun k hk => ?_), ((Moves.of_new m1).trans m2).fresh g (fun k hk => by simp at hk; omega)⟩
  simp at hk
  subst hk
  refine ⟨Nat.le_trans h.room hb1, fun e => ?_⟩
  rcases m2.dyn _ e with e | e
  · have := (h.dyn_lt e).2
    omega
  · omega
/-- a caller's block behind a write. -/
theorem wrote_blk {Y : StoreL} {ed : Option Nat} {D D' : Nat → List Nat} {X : StoreS} {w wA w2 : World} {b : Nat} {cs : List Value} {t : TypeId} (h : StoreIn w Y ed D X) (m2 : Moves Y (Dyn Y ed D) (Dyn Y ed D') wA w2) (hb1 : w.heap.size ≤ b) (hb : Blk wA b cs t) : Blk w2 b cs t :=
  m2.blk hb (fun e => by have := h.room; omega) (fun e => by have := (h.dyn_lt e).2; omega)
/-- all that a first Put of a key's other value asks of the plain side. -/
structure Puts1 (Y : StoreL) (X X2 : StoreS) (i : Nat) (k v : Int) (told : ToldS) : Prop where
  key : keyB k = true
  part : partOf k Y.n = (i : Int)
  deep : X.epoch.deep = 0
  ex : ∃ a C1 C2 S1 hd m' nb C' S3, Loads Y X i a C1 C2 S1 ∧ a.state = 0 ∧ Writes (waitX X i a C2 S1) i k v hd m' nb C' S3 ∧ told = toldOf m' nb ∧ X2 = wroteX (waitX X i a C2 S1) i C' S3
theorem Puts1.lt {w : World} {Y : StoreL} {ed : Option Nat} {D : Nat → List Nat} {X X2 : StoreS} {i : Nat} {k v : Int} {told : ToldS} (h : StoreIn w Y ed D X) (hp : Puts1 Y X X2 i k v told) : i < Y.n := by
  obtain ⟨a, _, _, _, _, _, _, _, _, hl, _⟩ := hp.ex
  rw [← h.loads]
  exact (List.getElem?_eq_some_iff.1 hl.ha).1
set_option maxRecDepth 100000 in
set_option maxHeartbeats 1600000 in
theorem partPut_any (w : World) (Y : StoreL) (ed : Option Nat) (D : Nat → List Nat) (X X2 : StoreS) (h : StoreIn w Y ed D X) (i : Nat) (k v : Int) (told : ToldS) (hp : Puts1 Y X X2 i k v told) :
    Calls Tryz.prog 54 #[ptr (Y.pt i), .pointer none, .int .i64 k, .int .i64 v] w (Wrote Y ed D told X2 w) := by
  obtain ⟨hk, hpk, hdp, a, C1, C2, S1, hd, m', nb, C', S3, hl, hst, hw, rfl, rfl⟩ := hp
  have hmf : ∀ (fn : Fn) (first cap : Array Value) (w : World), (Instr.makeFunc fn first cap).run Tryz.prog w = .ok (.func fn first cap) w := fun _ _ _ _ => rfl
  obtain ⟨w0, hw0⟩ : ∃ w0, ((((w.alloc (.cells #[ptr (Y.pt i)] 107)).alloc (.cells #[.int .i64 k] 3)).alloc (.cells #[.int .i64 v] 3)).alloc (.cells #[.int .i64 0, .bool false, .int .i64 0, .bool false, .int .i64 0] 57)).alloc (.cells #[.int .i64 k] 3) = w0 := ⟨_, rfl⟩
  have ho0 : Only [] w w0 := by rw [← hw0]; exact (((((Only.refl _ _).alloc _).alloc _).alloc _).alloc _).alloc _
  have hb4 : Blk w0 w.heap.size [ptr (Y.pt i)] 107 := by rw [← hw0]; exact ((((Blk.new w [ptr (Y.pt i)] 107).alloc _).alloc _).alloc _).alloc _
  have hb6 : Blk w0 (w.heap.size + 1) [.int .i64 k] 3 := by
    have := Blk.new (w.alloc (.cells #[ptr (Y.pt i)] 107)) [.int .i64 k] 3
    rw [World.size_alloc] at this
    rw [← hw0]
    exact ((this.alloc _).alloc _).alloc _
  have hb7 : Blk w0 (w.heap.size + 1 + 1) [.int .i64 v] 3 := by
    have := Blk.new ((w.alloc (.cells #[ptr (Y.pt i)] 107)).alloc (.cells #[.int .i64 k] 3)) [.int .i64 v] 3
    rw [World.size_alloc, World.size_alloc] at this
    rw [← hw0]
    exact (this.alloc _).alloc _
  have hb8 : Blk w0 (w.heap.size + 1 + 1 + 1) [.int .i64 0, .bool false, .int .i64 0, .bool false, .int .i64 0] 57 := by
    have := Blk.new (((w.alloc (.cells #[ptr (Y.pt i)] 107)).alloc (.cells #[.int .i64 k] 3)).alloc (.cells #[.int .i64 v] 3)) [.int .i64 0, .bool false, .int .i64 0, .bool false, .int .i64 0] 57
    rw [World.size_alloc, World.size_alloc, World.size_alloc] at this
    rw [← hw0]
    exact this.alloc _
  have hb9 : Blk w0 (w.heap.size + 1 + 1 + 1 + 1) [.int .i64 k] 3 := by
    have := Blk.new ((((w.alloc (.cells #[ptr (Y.pt i)] 107)).alloc (.cells #[.int .i64 k] 3)).alloc (.cells #[.int .i64 v] 3)).alloc (.cells #[.int .i64 0, .bool false, .int .i64 0, .bool false, .int .i64 0] 57)) [.int .i64 k] 3
    rw [World.size_alloc, World.size_alloc, World.size_alloc, World.size_alloc] at this
    rw [← hw0]
    exact this
  have hdo := does_any w0 Y ed D X (h.new ho0) i a C1 C2 S1 hl hst hdp k v hd m' nb C' S3 hw hpk (w.heap.size + 1 + 1 + 1 + 1) w.heap.size (w.heap.size + 1) (w.heap.size + 1 + 1) (hb9.cell rfl) (hb4.cell rfl) (hb6.cell rfl) (hb7.cell rfl) (fun b hb => by
    have hr := h.room
    simp only [List.mem_cons, List.not_mem_nil, or_false] at hb
    refine ⟨by omega, fun e => ?_⟩
    have := (h.dyn_lt e).2
    omega)
  have HB8 := Lib.hid hb8; have H := Lib.hid h; have HO0 := Lib.hid ho0
  generalize toldOf m' nb = tt at *
  generalize wroteX (waitX X i a C2 S1) i C' S3 = X3 at *
  obtain ⟨t0, t1, t2, t3, t4⟩ := tt
  unfold ToldS.val at hdo
  unfold Wrote ToldS.val
  unfold ptr at *
  dsimp only at hdo ⊢
  clear h hl hst hdp hw hpk hk hb4 hb6 hb7 hb8 hb9 ho0
  go_enter Tryz.func54, Tryz.ntmps54
  go_wp2_with (go_at_call 114; refine hdo.mono ?_; rintro e w2 ⟨D', rfl, hs2, hm2⟩; have hbr2 := wrote_blk H.out hm2 (by omega) HB8.out; have rf := hbr2.frozen; have r0 := hbr2.cell (i := 0) rfl; have r1 := hbr2.cell (i := 1) rfl; have r2 := hbr2.cell (i := 2) rfl; have r3 := hbr2.cell (i := 3) rfl; have r4 := hbr2.cell (i := 4) rfl; have HFIN := Lib.hid (wrote_fin H.out hs2 HO0.out hm2 (by omega) HB8.out.lt); clear hs2 hm2 hbr2)
  exact bodyPost_ret (v := .tuple #[.agg #[.int .i64 t0, .bool t1, .int .i64 t2, .bool t3, .int .i64 t4], .int .i64 0]) (by simp [results, Tryz.results54, go_sem, r0, r1, r2, r3, r4]) rfl ⟨D', rfl, HFIN.out _ (only5 _ _ _ _ _ _ _)⟩
set_option maxRecDepth 100000 in
set_option maxHeartbeats 1600000 in
theorem storePutC_any (w : World) (Y : StoreL) (ed : Option Nat) (D : Nat → List Nat) (X X2 : StoreS) (h : StoreIn w Y ed D X) (i : Nat) (k v : Int) (told : ToldS) (hp : Puts1 Y X X2 i k v told) (b5 b6 b7 : Nat) (h5 : w.cell? ⟨b5, 0, none⟩ = some (.pointer none)) (h6 : w.cell? ⟨b6, 0, none⟩ = some (.int .i64 k)) (h7 : w.cell? ⟨b7, 0, none⟩ = some (.int .i64 v)) :
    Calls Tryz.prog 53 #[ptr (Y.pt i), ptr b5, ptr b6, ptr b7] w (Wrote Y ed D told X2 w) := by
  obtain ⟨w0, hw0⟩ : ∃ w0, w.alloc (.cells #[.int .i64 0, .bool false, .int .i64 0, .bool false, .int .i64 0] 57) = w0 := ⟨_, rfl⟩
  have ho0 : Only [] w w0 := by rw [← hw0]; exact (Only.refl _ _).alloc _
  have hb8 : Blk w0 w.heap.size [.int .i64 0, .bool false, .int .i64 0, .bool false, .int .i64 0] 57 := by rw [← hw0]; exact Blk.new w _ 57
  have hdo := partPut_any w0 Y ed D X X2 (h.new ho0) i k v told hp
  have x5 := cell_only ho0 h5 (by simp)
  have x6 := cell_only ho0 h6 (by simp)
  have x7 := cell_only ho0 h7 (by simp)
  have HB8 := Lib.hid hb8; have H := Lib.hid h; have HO0 := Lib.hid ho0
  obtain ⟨t0, t1, t2, t3, t4⟩ := told
  unfold Wrote ToldS.val at hdo ⊢
  unfold ptr at *
  dsimp only at hdo ⊢
  clear h hp hb8 ho0 h5 h6 h7
  go_enter Tryz.func53, Tryz.ntmps53
  go_wp2_with (go_at_call 54; refine hdo.mono ?_; rintro e w2 ⟨D', rfl, hs2, hm2⟩; have hbr2 := wrote_blk H.out hm2 (by omega) HB8.out; have rf := hbr2.frozen; have r0 := hbr2.cell (i := 0) rfl; have r1 := hbr2.cell (i := 1) rfl; have r2 := hbr2.cell (i := 2) rfl; have r3 := hbr2.cell (i := 3) rfl; have r4 := hbr2.cell (i := 4) rfl; have HFIN := Lib.hid (wrote_fin H.out hs2 HO0.out hm2 (by omega) HB8.out.lt); clear hs2 hm2 hbr2)
  exact bodyPost_ret (v := .tuple #[.agg #[.int .i64 t0, .bool t1, .int .i64 t2, .bool t3, .int .i64 t4], .int .i64 0]) (by simp [results, Tryz.results53, go_sem, r0, r1, r2, r3, r4]) rfl ⟨D', rfl, HFIN.out _ (only5 _ _ _ _ _ _ _)⟩
theorem storeOf_any (w : World) (Y : StoreL) (hf : Fixed w Y) (hn : 1 ≤ Y.n ∧ Y.n ≤ 64) (k : Int) (hk : keyB k = true) :
    Calls Tryz.prog 78 #[ptr Y.sb, .int .i64 k] w fun e w' => e = .returned (.tuple #[.int .i64 (partOf k Y.n), .bool true]) ∧ Only [] w w' := by
  obtain ⟨A, c, hsb, _⟩ := hf.sb
  have c6 := hsb.cell (i := 6) rfl
  have hp := fun W => part_yes k Y.n W hk (by omega) (by omega)
  have HP := Lib.hid hp
  unfold ptr at *
  clear hf hsb hk hp
  generalize partOf k ↑Y.n = p at *
  generalize Y.n = n at *
  go_enter Tryz.func78, Tryz.ntmps78
  go_wp2_with (go_at_call 47; refine (HP.out _).mono ?_; rintro e w1 ⟨rfl, rfl⟩)
  try go_quiet (fail)
  try go_wp2_with fail
  go_ret2
  exact ⟨by simp, by first | exact Only.refl _ _ | exact (Only.refl _ _).drewN _ | exact (Only.refl _ _).drew'⟩
set_option maxRecDepth 100000 in
set_option maxHeartbeats 1600000 in
theorem keyed_any (w : World) (Y : StoreL) (ed : Option Nat) (D : Nat → List Nat) (X X2 : StoreS) (h : StoreIn w Y ed D X) (i : Nat) (k v : Int) (told : ToldS) (hp : Puts1 Y X X2 i k v told) (b5 b6 b7 : Nat) (h5 : w.cell? ⟨b5, 0, none⟩ = some (.pointer none)) (h6 : w.cell? ⟨b6, 0, none⟩ = some (.int .i64 k)) (h7 : w.cell? ⟨b7, 0, none⟩ = some (.int .i64 v)) :
    Calls Tryz.prog 52 #[ptr Y.sb, .pointer none, .int .i64 k, .func (.func 53) #[] #[ptr b5, ptr b6, ptr b7]] w (Wrote Y ed D told X2 w) := by
  have hi := hp.lt h
  obtain ⟨w0, hw0⟩ : ∃ w0, w.alloc (.cells #[.int .i64 0, .bool false, .int .i64 0, .bool false, .int .i64 0] 57) = w0 := ⟨_, rfl⟩
  have ho0 : Only [] w w0 := by rw [← hw0]; exact (Only.refl _ _).alloc _
  have hb8 : Blk w0 w.heap.size [.int .i64 0, .bool false, .int .i64 0, .bool false, .int .i64 0] 57 := by rw [← hw0]; exact Blk.new w _ 57
  have hof := storeOf_any w0 Y (h.new ho0).fixed (by have := h.ok.n; omega) k hp.key
  rw [hp.part] at hof
  have hdo := fun W (ho : Only [] w W) => storePutC_any W Y ed D X X2 (h.new ho) i k v told hp b5 b6 b7 (cell_only ho h5 (by simp)) (cell_only ho h6 (by simp)) (cell_only ho h7 (by simp))
  have hsb := fun W (ho : Only [] w W) => (h.new ho).fixed.sb
  have HB8 := Lib.hid hb8; have H := Lib.hid h; have HO0 := Lib.hid ho0; have HDO := Lib.hid hdo; have HSB := Lib.hid hsb
  obtain ⟨t0, t1, t2, t3, t4⟩ := told
  unfold Wrote ToldS.val at HDO ⊢
  unfold ptr at *
  dsimp only at HDO ⊢
  have h0i : (0 : Int) ≤ (i : Int) := by omega
  have hin : (i : Int) < (Y.n : Int) := by omega
  clear h hp hb8 ho0 h5 h6 h7 hdo hsb
  go_enter Tryz.func52, Tryz.ntmps52
  go_wp2_with (first | (go_at_call 78; refine hof.mono ?_; rintro e w1 ⟨rfl, ho1⟩; have HO1 := Lib.hid (HO0.out.trans ho1); have HB1 := Lib.hid (HB8.out.only ho1 (by simp)); obtain ⟨A, c, hsb, hrow⟩ := HSB.out w1 HO1.out; have c6 := hsb.cell (i := 6) rfl; obtain ⟨pb, rfl, _, hc⟩ := hrow i (.pointer (some ⟨Y.pt i, 0, none⟩)) (by simp [hi]); clear ho1 hsb hrow) | (go_at_call 53; refine (HDO.out _ HO1.out).mono ?_; rintro e w2 ⟨D', rfl, hs2, hm2⟩; have hbr2 := wrote_blk H.out hm2 (by omega) HB1.out; have rf := hbr2.frozen; have r0 := hbr2.cell (i := 0) rfl; have r1 := hbr2.cell (i := 1) rfl; have r2 := hbr2.cell (i := 2) rfl; have r3 := hbr2.cell (i := 3) rfl; have r4 := hbr2.cell (i := 4) rfl; have HFIN := Lib.hid (wrote_fin H.out hs2 HO1.out hm2 (by omega) HB1.out.lt); clear hs2 hm2 hbr2))
  exact bodyPost_ret (v := .tuple #[.agg #[.int .i64 t0, .bool t1, .int .i64 t2, .bool t3, .int .i64 t4], .int .i64 0]) (by simp [results, Tryz.results52, go_sem, r0, r1, r2, r3, r4]) rfl ⟨D', rfl, HFIN.out _ (only5 _ _ _ _ _ _ _)⟩
set_option maxRecDepth 100000 in
set_option maxHeartbeats 1600000 in
theorem storePut_any (w : World) (Y : StoreL) (ed : Option Nat) (D : Nat → List Nat) (X X2 : StoreS) (h : StoreIn w Y ed D X) (i : Nat) (k v : Int) (told : ToldS) (hp : Puts1 Y X X2 i k v told) :
    Calls Tryz.prog 18 #[ptr Y.sb, .pointer none, .int .i64 k, .int .i64 v] w (Wrote Y ed D told X2 w) := by
  have hmf : ∀ (fn : Fn) (first cap : Array Value) (w : World), (Instr.makeFunc fn first cap).run Tryz.prog w = .ok (.func fn first cap) w := fun _ _ _ _ => rfl
  obtain ⟨w0, hw0⟩ : ∃ w0, (((w.alloc (.cells #[.pointer none] 126)).alloc (.cells #[.int .i64 k] 3)).alloc (.cells #[.int .i64 v] 3)).alloc (.cells #[.int .i64 0, .bool false, .int .i64 0, .bool false, .int .i64 0] 57) = w0 := ⟨_, rfl⟩
  have ho0 : Only [] w w0 := by rw [← hw0]; exact ((((Only.refl _ _).alloc _).alloc _).alloc _).alloc _
  have hb5 : Blk w0 w.heap.size [.pointer none] 126 := by rw [← hw0]; exact (((Blk.new w [.pointer none] 126).alloc _).alloc _).alloc _
  have hb6 : Blk w0 (w.heap.size + 1) [.int .i64 k] 3 := by
    have := Blk.new (w.alloc (.cells #[.pointer none] 126)) [.int .i64 k] 3
    rw [World.size_alloc] at this
    rw [← hw0]
    exact (this.alloc _).alloc _
  have hb7 : Blk w0 (w.heap.size + 1 + 1) [.int .i64 v] 3 := by
    have := Blk.new ((w.alloc (.cells #[.pointer none] 126)).alloc (.cells #[.int .i64 k] 3)) [.int .i64 v] 3
    rw [World.size_alloc, World.size_alloc] at this
    rw [← hw0]
    exact this.alloc _
  have hb8 : Blk w0 (w.heap.size + 1 + 1 + 1) [.int .i64 0, .bool false, .int .i64 0, .bool false, .int .i64 0] 57 := by
    have := Blk.new (((w.alloc (.cells #[.pointer none] 126)).alloc (.cells #[.int .i64 k] 3)).alloc (.cells #[.int .i64 v] 3)) [.int .i64 0, .bool false, .int .i64 0, .bool false, .int .i64 0] 57
    rw [World.size_alloc, World.size_alloc, World.size_alloc] at this
    rw [← hw0]
    exact this
  have hdo := keyed_any w0 Y ed D X X2 (h.new ho0) i k v told hp w.heap.size (w.heap.size + 1) (w.heap.size + 1 + 1) (hb5.cell rfl) (hb6.cell rfl) (hb7.cell rfl)
  have p5 := hb5.cell (i := 0) rfl
  have p6 := hb6.cell (i := 0) rfl
  have HB8 := Lib.hid hb8; have H := Lib.hid h; have HO0 := Lib.hid ho0
  obtain ⟨t0, t1, t2, t3, t4⟩ := told
  unfold Wrote ToldS.val at hdo ⊢
  unfold ptr at *
  dsimp only at hdo ⊢
  clear h hp hb5 hb6 hb7 hb8 ho0
  go_enter Tryz.func18, Tryz.ntmps18
  go_wp2_with (go_at_call 52; refine hdo.mono ?_; rintro e w2 ⟨D', rfl, hs2, hm2⟩; have hbr2 := wrote_blk H.out hm2 (by omega) HB8.out; have rf := hbr2.frozen; have r0 := hbr2.cell (i := 0) rfl; have r1 := hbr2.cell (i := 1) rfl; have r2 := hbr2.cell (i := 2) rfl; have r3 := hbr2.cell (i := 3) rfl; have r4 := hbr2.cell (i := 4) rfl; have HFIN := Lib.hid (wrote_fin H.out hs2 HO0.out hm2 (by omega) HB8.out.lt); clear hs2 hm2 hbr2)
  exact bodyPost_ret (v := .tuple #[.agg #[.int .i64 t0, .bool t1, .int .i64 t2, .bool t3, .int .i64 t4], .int .i64 0]) (by simp [results, Tryz.results18, go_sem, r0, r1, r2, r3, r4]) rfl ⟨D', rfl, HFIN.out _ (only5 _ _ _ _ _ _ _)⟩
end Go.Proofs.YteeefedoffplmaaGreat
