/- A part's does and Put: a key's other value in a part nobody has loaded. Conditions: the store lies in memory; worker 0 is not within; the plain functions answer. -/
import Derived.Test.YteeefedoffplmaaGreatWithin
set_option linter.unusedSimpArgs false
set_option linter.unusedVariables false
namespace Go.Proofs.YteeefedoffplmaaGreat
open Go.RowKit

/-- the store behind a part's loading. -/
def waitX (X : StoreS) (i : Nat) (a : LPartS) (C : ChainS) (S : PoolS) : StoreS := { fillX X i C S with loads := X.loads.set i { a with state := 2 } }
/-- the store behind a write. -/
def wroteX (X : StoreS) (i : Nat) (C : ChainS) (S : PoolS) : StoreS := { fillX X i C S with epoch := X.epoch.enter.leave }
set_option maxRecDepth 100000 in
set_option maxHeartbeats 3200000 in
theorem does_any (w : World) (Y : StoreL) (ed : Option Nat) (D : Nat → List Nat) (X : StoreS) (h : StoreIn w Y ed D X) (i : Nat) (a : LPartS) (C1 C2 : ChainS) (S1 : PoolS) (hl : Loads Y X i a C1 C2 S1) (hst : a.state = 0) (hdp : X.epoch.deep = 0)
    (k v hd : Int) (m' : EditS) (nb : Int) (C' : ChainS) (S3 : PoolS) (hw : Writes (waitX X i a C2 S1) i k v hd m' nb C' S3) (hpk : partOf k Y.n = (i : Int)) (ka q4 q6 q7 : Nat) (hka : w.cell? ⟨ka, 0, none⟩ = some (.int .i64 k))
    (h4 : w.cell? ⟨q4, 0, none⟩ = some (ptr (Y.pt i))) (h6 : w.cell? ⟨q6, 0, none⟩ = some (.int .i64 k)) (h7 : w.cell? ⟨q7, 0, none⟩ = some (.int .i64 v)) (hge : ∀ b ∈ [q4, q6, q7], Y.base ≤ b ∧ ¬ Dyn Y ed D b) :
    Calls Tryz.prog 114 #[ptr (Y.pt i), .pointer none, .agg #[.slice (some ⟨ka, 0, none⟩) 1 1, .func (.func 115) #[] #[ptr q4, ptr q6, ptr q7]]] w fun e w' => ∃ D', e = .returned (.tuple #[(toldOf m' nb).val, .int .i64 0]) ∧ StoreIn w' Y ed D' (wroteX (waitX X i a C2 S1) i C' S3) ∧ Moves Y (Dyn Y ed D) (Dyn Y ed D') w w' := by
  have hi : i < Y.n := by rw [← h.loads]; exact (List.getElem?_eq_some_iff.1 hl.ha).1
  have hmf : ∀ (fn : Fn) (first cap : Array Value) (w : World), (Instr.makeFunc fn first cap).run Tryz.prog w = .ok (.func fn first cap) w := fun _ _ _ _ => rfl
  obtain ⟨w0, hw0⟩ : ∃ w0, (((w.alloc (.cells #[ptr (Y.pt i)] 107)).alloc (.cells #[.pointer none] 126)).alloc (.cells #[.slice (some ⟨ka, 0, none⟩) 1 1, .func (.func 115) #[] #[ptr q4, ptr q6, ptr q7]] 214)).alloc (.cells #[.int .i64 0, .bool false, .int .i64 0, .bool false, .int .i64 0] 57) = w0 := ⟨_, rfl⟩
  have ho0 : Only [] w w0 := by rw [← hw0]; exact ((((Only.refl _ _).alloc _).alloc _).alloc _).alloc _
  have hb3 : Blk w0 w.heap.size [ptr (Y.pt i)] 107 := by rw [← hw0]; exact (((Blk.new w [ptr (Y.pt i)] 107).alloc _).alloc _).alloc _
  have hb4 : Blk w0 (w.heap.size + 1) [.pointer none] 126 := by
    have := Blk.new (w.alloc (.cells #[ptr (Y.pt i)] 107)) [.pointer none] 126
    rw [World.size_alloc] at this
    rw [← hw0]
    exact (this.alloc _).alloc _
  have hb5 : Blk w0 (w.heap.size + 1 + 1) [.slice (some ⟨ka, 0, none⟩) 1 1, .func (.func 115) #[] #[ptr q4, ptr q6, ptr q7]] 214 := by
    have := Blk.new ((w.alloc (.cells #[ptr (Y.pt i)] 107)).alloc (.cells #[.pointer none] 126)) [.slice (some ⟨ka, 0, none⟩) 1 1, .func (.func 115) #[] #[ptr q4, ptr q6, ptr q7]] 214
    rw [World.size_alloc, World.size_alloc] at this
    rw [← hw0]
    exact this.alloc _
  have hb6 : Blk w0 (w.heap.size + 1 + 1 + 1) [.int .i64 0, .bool false, .int .i64 0, .bool false, .int .i64 0] 57 := by
    have := Blk.new (((w.alloc (.cells #[ptr (Y.pt i)] 107)).alloc (.cells #[.pointer none] 126)).alloc (.cells #[.slice (some ⟨ka, 0, none⟩) 1 1, .func (.func 115) #[] #[ptr q4, ptr q6, ptr q7]] 214)) [.int .i64 0, .bool false, .int .i64 0, .bool false, .int .i64 0] 57
    rw [World.size_alloc, World.size_alloc, World.size_alloc] at this
    rw [← hw0]
    exact this
  have hs0 := h.new ho0
  have hm0 : Moves Y (Dyn Y ed D) (Dyn Y ed D) w w0 := .of_new ho0
  have hnd : ∀ b, w.heap.size ≤ b → Y.base ≤ b ∧ ¬ Dyn Y ed D b := fun b hb => ⟨Nat.le_trans h.room hb, fun e => by have := (h.dyn_lt e).2; omega⟩
  have hct := contains1 w0 k ka w.heap.size 1 (cell_only ho0 hka (by simp)) (has1 w0 Y h.ok hs0.fixed i hi k hw.key hpk w.heap.size (hb3.cell rfl))
  have hwt := wait_any w0.drew Y ed D X (hs0.new (Only.drew [] _)) i a C1 C2 S1 hl hst
  have hwi : WriteIn w0 Y i k v w.heap.size (w.heap.size + 1) (w.heap.size + 1 + 1) q4 q6 q7 := ⟨hb3.cell rfl, hb4.cell rfl, hb5.cell rfl, cell_only ho0 h4 (by simp), cell_only ho0 h6 (by simp), cell_only ho0 h7 (by simp), fun b hb => by
    simp only [List.mem_cons, List.not_mem_nil, or_false] at hb
    rcases hb with rfl | rfl | rfl | rfl | rfl | rfl
    · exact (hnd _ (by omega)).1
    · exact (hnd _ (by omega)).1
    · exact (hnd _ (by omega)).1
    · exact (hge _ (by simp)).1
    · exact (hge _ (by simp)).1
    · exact (hge _ (by simp)).1⟩
  have hwd : ∀ b ∈ [w.heap.size, w.heap.size + 1, w.heap.size + 1 + 1, q4, q6, q7], ¬ Dyn Y ed D b := fun b hb => by
    simp only [List.mem_cons, List.not_mem_nil, or_false] at hb
    rcases hb with rfl | rfl | rfl | rfl | rfl | rfl
    · exact (hnd _ (by omega)).2
    · exact (hnd _ (by omega)).2
    · exact (hnd _ (by omega)).2
    · exact (hge _ (by simp)).2
    · exact (hge _ (by simp)).2
    · exact (hge _ (by simp)).2
  have hin : ∀ w1, StoreIn w1 Y ed D (waitX X i a C2 S1) → Moves Y (Dyn Y ed D) (Dyn Y ed D) w0.drew w1 → Calls Tryz.prog 142 #[ptr (Y.pt i), .pointer none, .func (.func 179) #[] #[ptr w.heap.size, ptr (w.heap.size + 1), ptr (w.heap.size + 1 + 1)]] w1 _ := fun w1 hs1 hm1 =>
    within_any w1 Y ed D (waitX X i a C2 S1) (fillX { waitX X i a C2 S1 with epoch := (waitX X i a C2 S1).epoch.enter } i C' S3) hs1 i hi hdp (toldOf m' nb) _ _ _ (fun W hsW hmW => does2_any W Y ed D _ hsW i k v hd m' nb C' S3 ⟨hw.key, hw.val, hw.ex, hw.hd, hw.root, hw.nb, hw.gone⟩ _ _ _ _ _ _ (((hwi.moves (.of_new (Only.drew [] w0)) hwd).moves hm1 hwd).moves hmW hwd) hwd) rfl
  have p0 := hb3.cell (i := 0) rfl
  have p1 := hb4.cell (i := 0) rfl
  have p2 := hb5.cell (i := 0) rfl
  have u6 := (hs0.fixed.pt i hi).cell (i := 6) rfl
  have u1 := (hs0.fixed.pt i hi).cell (i := 1) rfl
  have HIN := Lib.hid hin; have HWT := Lib.hid hwt; have HB6 := Lib.hid hb6; have HWI := Lib.hid hwi; have HWD := Lib.hid hwd; have HM0 := Lib.hid hm0; have H := Lib.hid h; have HND := Lib.hid hnd; have HO0 := Lib.hid ho0
  unfold ToldS.val ptr at HIN
  unfold ToldS.val
  unfold ptr at *
  generalize hTT : toldOf m' nb = tt at *
  obtain ⟨t0, t1, t2, t3, t4⟩ := tt
  dsimp only at HIN ⊢
  clear h hl hst hdp hw hpk hka h4 h6 h7 hge hb3 hb4 hb5 hb6 hs0 hm0 hnd hwt hwi hwd hin ho0 hTT
  go_enter Tryz.func114, Tryz.ntmps114
  go_wp2_with (go_at_call 68; refine hct.mono ?_; rintro e w0 ⟨rfl, rfl⟩)
  clear hw0
  go_region_held3 (fun W => W.cell? ⟨w.heap.size, 0, none⟩ = some (.pointer (some ⟨Y.pt i, 0, none⟩)) ∧ W.cell? ⟨w.heap.size + 1, 0, none⟩ = some (.pointer none) ∧ W.cell? ⟨Y.pt i, 6, none⟩ = some (.pointer (some ⟨Y.ld, 0, none⟩)) ∧ W.cell? ⟨Y.pt i, 1, none⟩ = some (.int .i64 (i : Int)))
    (first | with_reducible exact ⟨a3, a4, a6, a1⟩ | (go_keep; done))
    (first | (go_simp; go_at_call 178; refine HWT.out.mono ?_; rintro e w1 ⟨rfl, hs1, hm1⟩; have hwi1 := (HWI.out.moves (.of_new (Only.drew [] _)) HWD.out).moves hm1 HWD.out; have a3 := hwi1.c0; have a4 := hwi1.c1; have a6 := (hs1.fixed.pt i hi).cell (i := 6) rfl; have a1 := (hs1.fixed.pt i hi).cell (i := 1) rfl; have hb6 := hm1.blk HB6.out.drew (fun e => by have := (HND.out (w.heap.size + 1 + 1 + 1) (by omega)).1; omega) (HND.out _ (by omega)).2; unfold ptr at a3 a6; have HB61 := Lib.hid hb6; have HS1 := Lib.hid hs1; have HM1 := Lib.hid hm1; clear hs1 hm1 hwi1 hb6))
  clear p0 p1 p2 u6 u1 hct
  go_wp2_with (go_at_call 142; refine (HIN.out _ HS1.out HM1.out).mono ?_; rintro e w2 ⟨D', rfl, hs2, hm2⟩; have hbr2 := hm2.blk HB61.out (fun e => by have := (HND.out (w.heap.size + 1 + 1 + 1) (by omega)).1; omega) (HND.out _ (by omega)).2; have hlt2 := hbr2.lt; have rf := hbr2.frozen; have r0 := hbr2.cell (i := 0) rfl; have r1 := hbr2.cell (i := 1) rfl; have r2 := hbr2.cell (i := 2) rfl; have r3 := hbr2.cell (i := 3) rfl; have r4 := hbr2.cell (i := 4) rfl; have HS2 := Lib.hid hs2; have HM2 := Lib.hid hm2; clear hs2 hm2 hbr2)
  have hlow : w.heap.size + 1 + 1 + 1 < w1.heap.size := HB61.out.lt
  have hfin : ∀ W, Only [w.heap.size + 1 + 1 + 1] w2 W → StoreIn W Y ed D' (wroteX (waitX X i a C2 S1) i C' S3) ∧ Moves Y (Dyn Y ed D) (Dyn Y ed D') w W := fun W g => by
    have hm0 : Moves Y (Dyn Y ed D) (Dyn Y ed D) w w0.drew := HM0.out.trans (.of_new (Only.drew [] _))
    refine ⟨HS2.out.only g (fun k hk => by
      simp at hk
      subst hk
      refine ⟨(HND.out _ (by omega)).1, fun e => ?_⟩
      rcases HM2.out.dyn _ e with e | e
      · exact (HND.out _ (by omega)).2 e
      · omega), ((hm0.trans HM1.out).trans HM2.out).fresh g (fun k hk => by simp at hk; omega)⟩
  refine bodyPost_ret (v := .tuple #[.agg #[.int .i64 t0, .bool t1, .int .i64 t2, .bool t3, .int .i64 t4], .int .i64 0]) (by simp [results, Tryz.results114, go_sem, r0, r1, r2, r3, r4]) rfl ⟨D', rfl, hfin _ ?_⟩
  exact ((((((Only.refl [w.heap.size + 1 + 1 + 1] w2).setCell (.inl (by simp)) _).setCell (.inl (by simp)) _).setCell (.inl (by simp)) _).setCell (.inl (by simp)) _).setCell (.inl (by simp)) _)
end Go.Proofs.YteeefedoffplmaaGreat
