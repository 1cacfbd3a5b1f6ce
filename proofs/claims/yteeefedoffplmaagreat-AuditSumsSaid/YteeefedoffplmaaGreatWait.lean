/- A part's loading, all of it: load, comes, Wait, where its source is one pair. Conditions: the store lies in memory; nobody has loaded the part; the plain loading answers. -/
import Derived.Test.YteeefedoffplmaaGreatLoad
namespace Go.Proofs.YteeefedoffplmaaGreat
open Go.RowKit

theorem loadEnd_any (w : World) (b4 b5 lp : Nat) (s s0 e : Int) (h4 : w.cell? ⟨b4, 0, none⟩ = some (.pointer none)) (h5 : w.cell? ⟨b5, 0, none⟩ = some (ptr lp)) (hc : w.cell? ⟨lp, 0, none⟩ = some (.int .i64 s0)) (hf : w.frozen? ⟨lp, 0, none⟩ = false) :
    Calls Tryz.prog 237 #[.int .i64 s, .int .i64 e, ptr b4, ptr b5] w fun r w' => r = .returned (.int .i64 e) ∧ w' = w.setCell ⟨lp, 0, none⟩ (.int .i64 s) := by
  have hst := atomStore lp 0 s0 w s hc hf
  unfold ptr at *
  clear hf
  go_enter Tryz.func237, Tryz.ntmps237
  go_wp2_with (first | (go_at_call 71; refine (step_nil _).mono ?_; rintro e w' ⟨rfl, rfl⟩) | (go_at_call 100; refine hst.mono ?_; rintro e w' ⟨rfl, rfl⟩))
  go_ret
  exact ⟨rfl, rfl⟩
/-- all that a loading of one pair asks of the plain side. -/
structure Loads (Y : StoreL) (X : StoreS) (i : Nat) (a : LPartS) (C C' : ChainS) (S2 : PoolS) : Prop where
  ha : X.loads[i]? = some a
  hC : X.chains[i]? = some C
  fails : a.fails ≤ 0
  ex : ∃ k v m' S1 hd, a.pairs = [(k, v)] ∧ keyB k = true ∧ In64 v ∧ mkLeaf k v (.zero, X.pool) = some (m', S1) ∧ C.first S1 ⟨m'.root, 1, 0, 0⟩ = some (hd, C', S2) ∧ In64 m'.root
theorem Moves.of_chain {w w' : World} {Y : StoreL} {ed : Option Nat} {D : Nat → List Nat} (hk : Y.Ok) {i lg : Nat} (hi : i < Y.n) (ho : Only (lg :: chX (Y.chain i) Y.pool) w w') (hl : w.heap.size ≤ lg) : Moves Y (Dyn Y ed D) (Dyn Y ed D) w w' := by
  have ho' := ho.fresh (Y := chX (Y.chain i) Y.pool) (fun k m hlt => by
    rcases List.mem_cons.1 m with rfl | m
    · omega
    · exact m)
  refine .of_only ho' (fun k m => ?_) (fun _ h => .inl h)
  simp only [chX, List.mem_cons] at m
  rcases m with rfl | rfl | m
  · exact .inl ⟨(hk.xb i hi).1, by rw [(hk.xb i hi).2]; omega⟩
  · exact .inl ⟨(hk.sets i hi).1, by rw [(hk.sets i hi).2]; omega⟩
  · have := hk.pool k (blocks_all m)
    exact .inl ⟨this.1, by rw [this.2]; decide⟩
set_option maxRecDepth 100000 in
set_option maxHeartbeats 3200000 in
theorem load_any (w : World) (Y : StoreL) (ed : Option Nat) (D : Nat → List Nat) (X : StoreS) (h : StoreIn w Y ed D X) (i : Nat) (a : LPartS) (C C' : ChainS) (S2 : PoolS) (hl : Loads Y X i a C C' S2) :
    Calls Tryz.prog 219 #[ptr Y.ld, .pointer none, ptr (Y.lp i)] w fun e w' => e = .returned (.int .i64 0) ∧ StoreIn w' Y ed D { fillX X i C' S2 with loads := X.loads.set i { a with state := 2 } } ∧ Moves Y (Dyn Y ed D) (Dyn Y ed D) w w' := by
  obtain ⟨ha, hC, hfa, k, v, m', S1, hd, hpr, hk, hv, hm, hf, hr⟩ := hl
  have hi : i < Y.n := by rw [← h.loads]; exact (List.getElem?_eq_some_iff.1 ha).1
  obtain ⟨A, c, hlp, _⟩ := h.load i a ha
  have hmf : ∀ (fn : Fn) (first cap : Array Value) (w : World), (Instr.makeFunc fn first cap).run Tryz.prog w = .ok (.func fn first cap) w := fun _ _ _ _ => rfl
  have hoA : Only [] w (((w.alloc (.cells #[ptr Y.ld] 87)).alloc (.cells #[.pointer none] 126)).alloc (.cells #[ptr (Y.lp i)] 195)) := (((Only.refl _ _).alloc _).alloc _).alloc _
  have c3 := (hlp.only hoA (by simp)).cell (i := 3) rfl
  have hb4 : Blk (((w.alloc (.cells #[ptr Y.ld] 87)).alloc (.cells #[.pointer none] 126)).alloc (.cells #[ptr (Y.lp i)] 195)) (w.heap.size + 1) [.pointer none] 126 := by
    have := Blk.new (w.alloc (.cells #[ptr Y.ld] 87)) [.pointer none] 126
    rw [World.size_alloc] at this
    exact this.alloc _
  have hb5 : Blk (((w.alloc (.cells #[ptr Y.ld] 87)).alloc (.cells #[.pointer none] 126)).alloc (.cells #[ptr (Y.lp i)] 195)) (w.heap.size + 1 + 1) [ptr (Y.lp i)] 195 := by
    have := Blk.new ((w.alloc (.cells #[ptr Y.ld] 87)).alloc (.cells #[.pointer none] 126)) [ptr (Y.lp i)] 195
    rw [World.size_alloc, World.size_alloc] at this
    exact this
  have hb3 : Blk (((w.alloc (.cells #[ptr Y.ld] 87)).alloc (.cells #[.pointer none] 126)).alloc (.cells #[ptr (Y.lp i)] 195)) w.heap.size [ptr Y.ld] 87 := ((Blk.new w [ptr Y.ld] 87).alloc _).alloc _
  have hoB := hoA.alloc (.cells #[.int .i64 0, .slice none 0 0, ptr Y.ld, .pointer none] 355)
  have hlg : Blk ((((w.alloc (.cells #[ptr Y.ld] 87)).alloc (.cells #[.pointer none] 126)).alloc (.cells #[ptr (Y.lp i)] 195)).alloc (.cells #[.int .i64 0, .slice none 0 0, ptr Y.ld, .pointer none] 355)) (w.heap.size + 1 + 1 + 1) [.int .i64 0, .slice none 0 0, ptr Y.ld, .pointer none] 355 := by
    have := Blk.new (((w.alloc (.cells #[ptr Y.ld] 87)).alloc (.cells #[.pointer none] 126)).alloc (.cells #[ptr (Y.lp i)] 195)) [.int .i64 0, .slice none 0 0, ptr Y.ld, .pointer none] 355
    rw [World.size_alloc, World.size_alloc, World.size_alloc] at this
    exact this
  have hfill := fill_any _ Y ed D X (h.new hoB) _ hlg (by have := h.room; omega) (fun e => by have := (h.dyn_lt e).2; omega) i a C ha hC k v hpr hk hv m' S1 hm hd C' S2 hf hr
  have x3 := hb3.cell (i := 0) rfl
  have x4 := hb4.cell (i := 0) rfl
  have x5 := hb5.cell (i := 0) rfl
  have H := Lib.hid h; have HB4 := Lib.hid (hb4.alloc (.cells #[.int .i64 0, .slice none 0 0, ptr Y.ld, .pointer none] 355)); have HB5 := Lib.hid (hb5.alloc (.cells #[.int .i64 0, .slice none 0 0, ptr Y.ld, .pointer none] 355)); have HI := Lib.hid hi; have HA := Lib.hid ha; have HOB := Lib.hid hoB
  have hgt : ¬ (a.fails > 0) := by omega
  obtain ⟨fl, hfl⟩ : ∃ fl, a.fails = fl := ⟨_, rfl⟩
  rw [hfl] at c3 hgt
  unfold ptr at *
  clear h hoA hoB hb4 hb5 hb3 hlg hlp ha hC hpr hk hv hm hf hr hi hfa hfl
  go_enter Tryz.func219, Tryz.ntmps219
  go_wp2_with (first | (go_at_call 238; refine hfill.mono ?_; rintro e w1 ⟨rfl, hs1, ho1⟩; have HS1 := Lib.hid hs1; have HO1 := Lib.hid ho1; clear hs1 ho1))
  all_goals (try (exfalso; exact hgt (by assumption)))
  have hx : ∀ b, w.heap.size ≤ b → b ≠ w.heap.size + 1 + 1 + 1 → b ∉ (w.heap.size + 1 + 1 + 1) :: chX (Y.chain i) Y.pool := fun b hb hne m => by
    have hr := H.out.room
    simp only [chX, List.mem_cons] at m
    rcases m with m | m | m | m
    · exact hne m
    · have := (H.out.ok.xb i HI.out).1; omega
    · have := (H.out.ok.sets i HI.out).1; omega
    · have := (H.out.ok.pool _ (blocks_all m)).1; omega
  have y4 := (HB4.out.only HO1.out (hx _ (by omega) (by omega))).cell (i := 0) rfl
  have y5 := (HB5.out.only HO1.out (hx _ (by omega) (by omega))).cell (i := 0) rfl
  obtain ⟨A1, c1, hlp1, _⟩ := HS1.out.load i a HA.out
  have hend := loadEnd_any w1 (w.heap.size + 1) (w.heap.size + 1 + 1) (Y.lp i) 2 a.state 0 y4 y5 (hlp1.cell rfl) (hlp1.frozen 0)
  obtain ⟨hs2, hm2⟩ := HS1.out.loadStep HA.out 2
  have HS2 := Lib.hid hs2; have HM2 := Lib.hid hm2
  unfold ptr at hend
  clear hs2 hm2 hlp1 y4 y5 hx
  refine hend.mono ?_
  rintro e w2 ⟨rfl, rfl⟩
  go_wp2_with fail
  go_ret
  exact ⟨rfl, HS2.out, (Moves.of_chain H.out.ok HI.out ((HOB.out.mono (by simp)).trans HO1.out) (by omega)).trans HM2.out⟩
set_option maxRecDepth 100000 in
set_option maxHeartbeats 1600000 in
theorem comes_any (w : World) (Y : StoreL) (ed : Option Nat) (D : Nat → List Nat) (X : StoreS) (h : StoreIn w Y ed D X) (i : Nat) (a : LPartS) (C C' : ChainS) (S2 : PoolS) (hl : Loads Y X i a C C' S2) (h0 : a.state = 0) (b : Bool) :
    Calls Tryz.prog 194 #[ptr Y.ld, .pointer none, .int .i64 (i : Int), .bool b] w fun e w' => e = .returned (.int .i64 0) ∧ StoreIn w' Y ed D { fillX X i C' S2 with loads := X.loads.set i { a with state := 2 } } ∧ Moves Y (Dyn Y ed D) (Dyn Y ed D) w w' := by
  have hi : i < Y.n := by rw [← h.loads]; exact (List.getElem?_eq_some_iff.1 hl.ha).1
  have hil := (List.getElem?_eq_some_iff.1 hl.ha).1
  have hof := loadOf_any w Y h.fixed i hi
  obtain ⟨A, c, hlp, _⟩ := h.load i a hl.ha
  rw [h0] at hlp
  have hld := atomLoad (Y.lp i) 0 0 w (hlp.cell rfl)
  have hcas := atomCas (Y.lp i) 0 0 w 1 (hlp.cell rfl) (hlp.frozen 0)
  obtain ⟨hs1, hm1⟩ := h.loadStep hl.ha 1
  have hl1 : Loads Y { X with loads := X.loads.set i { a with state := 1 } } i { a with state := 1 } C C' S2 := ⟨by simp [hil], hl.hC, hl.fails, hl.ex⟩
  have hload := load_any _ Y ed D _ hs1 i _ C C' S2 hl1
  have HM := Lib.hid hm1
  simp only [fillX, List.set_set] at hload ⊢
  unfold ptr at *
  clear h hl hi hlp hs1 hm1 hl1 h0
  go_enter Tryz.func194, Tryz.ntmps194
  go_wp2_with (go_at_call 218; refine hof.mono ?_; rintro e w' ⟨rfl, rfl⟩)
  refine wp_loop_rounds 1 ?_
  rw [rounds_succ]
  go_wp2_with (first | (go_at_call 71; refine (step_nil _).mono ?_; rintro e w' ⟨rfl, rfl⟩) | (go_at_call 51; refine hld.mono ?_; rintro e w' ⟨rfl, rfl⟩) | (go_at_call 135; refine hcas.mono ?_; rintro e w' ⟨rfl, rfl⟩) | (go_at_call 219; refine hload.mono ?_; rintro e w2 ⟨rfl, hs2, hm2⟩; have HS2 := Lib.hid hs2; have HM2 := Lib.hid hm2; clear hs2 hm2))
  go_ret
  exact ⟨rfl, HS2.out, HM.out.trans HM2.out⟩
theorem wait_any (w : World) (Y : StoreL) (ed : Option Nat) (D : Nat → List Nat) (X : StoreS) (h : StoreIn w Y ed D X) (i : Nat) (a : LPartS) (C C' : ChainS) (S2 : PoolS) (hl : Loads Y X i a C C' S2) (h0 : a.state = 0) :
    Calls Tryz.prog 178 #[ptr Y.ld, .pointer none, .int .i64 (i : Int)] w fun e w' => e = .returned (.int .i64 0) ∧ StoreIn w' Y ed D { fillX X i C' S2 with loads := X.loads.set i { a with state := 2 } } ∧ Moves Y (Dyn Y ed D) (Dyn Y ed D) w w' := by
  have hc := comes_any w Y ed D X h i a C C' S2 hl h0 true
  unfold ptr at *
  clear h hl h0
  go_enter Tryz.func178, Tryz.ntmps178
  go_wp2_with (go_at_call 194; refine hc.mono ?_; rintro e w' ⟨rfl, hs2, hm2⟩; have HS2 := Lib.hid hs2; have HM2 := Lib.hid hm2; clear hs2 hm2)
  go_ret
  exact ⟨rfl, HS2.out, HM2.out⟩
end Go.Proofs.YteeefedoffplmaaGreat
