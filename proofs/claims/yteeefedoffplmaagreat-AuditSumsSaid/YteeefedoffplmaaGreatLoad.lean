/- A part's loading (fill, load, comes, Wait) where its source is one pair. Conditions: the store lies in memory; nobody has loaded the part; the plain loading answers. -/
import Derived.Test.YteeefedoffplmaaGreatLoadPut
import Derived.Test.YteeefedoffplmaaGreatHas
import Derived.StillTailTactics
namespace Go.Proofs.YteeefedoffplmaaGreat
open Go.RowKit

theorem take_len {S S' : PoolS} {x : NodeS} {l h : Int} (ht : S.take x l = some (h, S')) : S'.slots.length = S.slots.length := by
  unfold PoolS.take at ht
  simp only [bind, Option.bind_eq_some_iff] at ht
  obtain ⟨n, _, s, _, ht⟩ := ht
  split at ht
  · simp only [Option.some.injEq, Prod.mk.injEq] at ht
    obtain ⟨_, rfl⟩ := ht
    simp
  · cases ht
theorem setMark_len {S S' : PoolS} {h v : Int} (ht : S.setMark h v = some S') : S'.slots.length = S.slots.length := by
  unfold PoolS.setMark at ht
  simp only [bind, Option.bind_eq_some_iff, Option.some.injEq] at ht
  obtain ⟨s, _, rfl⟩ := ht
  simp [PoolS.put]
theorem first_len {C C' : ChainS} {S S' : PoolS} {x : NodeS} {h : Int} (hf : C.first S x = some (h, C', S')) : S'.slots.length = S.slots.length ∧ C'.sets.length = C.sets.length := by
  simp only [ChainS.first, bind, Option.bind_eq_some_iff] at hf
  obtain ⟨⟨h1, S1⟩, ht, S2, hm, hf⟩ := hf
  simp only at hm hf
  split at hf
  · simp only [Option.some.injEq, Prod.mk.injEq] at hf
    obtain ⟨rfl, rfl, rfl⟩ := hf
    exact ⟨(setMark_len hm).trans (take_len ht), by simp⟩
  · cases hf
theorem mkLeaf_zero {k v : Int} {S S' : PoolS} {m' : EditS} (h : mkLeaf k v (.zero, S) = some (m', S')) : m'.gone = [] ∧ m'.made.length = 1 ∧ S'.slots.length = S.slots.length := by
  simp only [mkLeaf, makes, bind, Option.bind_eq_some_iff] at h
  obtain ⟨⟨hd, S1⟩, ht, h⟩ := h
  simp only [Option.some.injEq, Prod.mk.injEq] at h
  obtain ⟨rfl, rfl⟩ := h
  exact ⟨rfl, rfl, take_len ht⟩
theorem StoreIn.lgStep {w w' : World} {Y : StoreL} {ed : Option Nat} {D : Nat → List Nat} {X : StoreS} {lg : Nat} {S' : PoolS} (h : StoreIn w Y ed D X) (hg1 : Y.base ≤ lg) (hg2 : ¬ Dyn Y ed D lg) (ho : Only (lg :: Y.pool.blocks) w w') (hp : PoolAt w' Y.pool S') (hs : S'.slots.length = X.pool.slots.length) : StoreIn w' Y ed D { X with pool := S' } := by
  have hk := h.ok
  have hb : ∀ k c, Y.is k c → c ≠ 1 → k ∉ lg :: Y.pool.blocks := fun k c e hc m => by
    simp only [List.mem_cons] at m
    rcases m with rfl | m
    · have := e.1
      omega
    · exact is_ne e (hk.pool k (blocks_all m)) hc rfl
  have hn : ∀ k ∈ lg :: Y.pool.blocks, ¬ Y.is k 0 := fun k m e => hb k 0 e (by decide) m
  have hd : ∀ k, Y.base ≤ k → k ≠ lg → k ∉ lg :: Y.pool.blocks := fun k e hne m => by
    simp only [List.mem_cons] at m
    rcases m with m | m
    · exact hne m
    · have := (hk.pool k (blocks_all m)).1
      omega
  refine ⟨hk, h.fixed.only ho hk hn, hp, h.clock.only ho (hb _ _ hk.cb (by decide)) (hb _ _ hk.lb (by decide)), h.epoch.only ho (hb _ _ hk.eb (by decide)) (fun k e => hd k (ed_ge h.epoch k e) (fun e2 => hg2 (.inl (e2 ▸ e)))), fun i C hC => ?_, fun i a ha => ?_, h.chains, h.loads, fun C hC => (h.sets C hC).trans hs.symm, by simpa [hs] using h.slots, h.apart, h.edD, fun k e => Nat.lt_of_lt_of_le (h.edlt k e) ho.size, Nat.le_trans h.room ho.size⟩
  · have hi : i < Y.n := by rw [← h.chains]; exact (List.getElem?_eq_some_iff.1 hC).1
    exact (h.chain i C hC).only ho (hb _ _ (hk.xb i hi) (by omega)) (hb _ _ (hk.sets i hi) (by omega)) (fun k e => hd k ((h.chain i C hC).dlt k e).1 (fun e2 => hg2 (.inr ⟨i, hi, e2 ▸ e⟩)))
  · have hi : i < Y.n := by rw [← h.loads]; exact (List.getElem?_eq_some_iff.1 ha).1
    exact (h.load i a ha).only ho (hb _ _ (hk.lp i hi) (by omega)) hn
theorem StoreIn.chainSame {w w' : World} {Y : StoreL} {ed : Option Nat} {D : Nat → List Nat} {X : StoreS} (h : StoreIn w Y ed D X) {i : Nat} {C' : ChainS} {S' : PoolS} (hi : i < Y.n) (ho : Only (chX (Y.chain i) Y.pool) w w') (hp : PoolAt w' Y.pool S') (hc : ChainAt w' (Y.chain i) Y.pool.pb Y.clock.cb Y.base (D i) C')
    (hs : S'.slots.length = X.pool.slots.length) (hsl : C'.sets.length = X.pool.slots.length) : StoreIn w' Y ed D { X with pool := S', chains := X.chains.set i C' } := by
  have h1 := h.chainStep hi ho hp hc (fun k hk => .inl hk) hs hsl
  have e : (fun j => if j = i then D i else D j) = D := by
    funext j
    by_cases h : j = i
    · rw [if_pos h, h]
    · rw [if_neg h]
  rwa [e] at h1
/-- what a part's loading makes of a store: the one pair's leaf, the first version. -/
def fillX (X : StoreS) (i : Nat) (C' : ChainS) (S2 : PoolS) : StoreS := { X with pool := S2, chains := X.chains.set i C' }
set_option maxRecDepth 100000 in
set_option maxHeartbeats 3200000 in
theorem fill_any (w : World) (Y : StoreL) (ed : Option Nat) (D : Nat → List Nat) (X : StoreS) (h : StoreIn w Y ed D X) (lg : Nat) (hlg : Blk w lg [.int .i64 0, .slice none 0 0, ptr Y.ld, .pointer none] 355) (hg1 : Y.base ≤ lg) (hg2 : ¬ Dyn Y ed D lg)
    (i : Nat) (a : LPartS) (C : ChainS) (ha : X.loads[i]? = some a) (hC : X.chains[i]? = some C) (k v : Int) (hpr : a.pairs = [(k, v)]) (hk : keyB k = true) (hv : In64 v) (m' : EditS) (S1 : PoolS) (hm : mkLeaf k v (.zero, X.pool) = some (m', S1)) (hd : Int) (C' : ChainS) (S2 : PoolS) (hf : C.first S1 ⟨m'.root, 1, 0, 0⟩ = some (hd, C', S2)) (hr : In64 m'.root) :
    Calls Tryz.prog 238 #[ptr lg, ptr (Y.lp i)] w fun e w' => e = .returned (.int .i64 0) ∧ StoreIn w' Y ed D (fillX X i C' S2) ∧ Only (lg :: chX (Y.chain i) Y.pool) w w' := by
  have hi : i < Y.n := by rw [← h.loads]; exact (List.getElem?_eq_some_iff.1 ha).1
  obtain ⟨A, c, hlp, hrow⟩ := h.load i a ha
  rw [hpr] at hlp hrow
  obtain ⟨pb, rfl, hpb, hk0⟩ := hrow 0 (.int .i64 k) rfl
  obtain ⟨pb', e, _, hk1⟩ := hrow 1 (.int .i64 v) rfl
  injection e with e
  injection e with e
  subst e
  obtain ⟨lA, lc, hldb, _⟩ := h.fixed.ld
  have hgl : lg ∉ Y.pool.all := fun e => by have := (h.ok.pool _ e).1; omega
  have hnb : ∀ k c, Y.is k c → c ≠ 1 → k ∉ Y.pool.blocks := fun k c e hc m => is_ne e (h.ok.pool k (blocks_all m)) hc rfl
  obtain ⟨g1, g2, g3⟩ := mkLeaf_zero hm
  have hput : ∀ W, Only [] w W → Calls Tryz.prog 244 #[ptr lg, .agg #[.int .i64 k, .int .i64 v]] W _ := fun W ho => loadPut_any W Y.pool X.pool lg Y.ld Y.lt _ (h.pool.only ho (by simp)) ⟨hlg.only ho (by simp), hldb.only ho (by simp), h.fixed.lt.only ho (by simp), hgl, hnb _ _ h.ok.ld (by decide), hnb _ _ h.ok.lt (by decide)⟩ k v hk hv m' S1 hm g1 (by omega)
  have hfirst : ∀ W, StoreIn W Y ed D { X with pool := S1 } → Calls Tryz.prog 245 #[ptr (Y.chain i).xb, .pointer none, (NodeS.mk m'.root 1 0 0).val] W _ := fun W hs => first_any W (Y.chain i) Y.pool S1 Y.clock.cb Y.base (D i) C hs.pool (hs.chain i C hC) (hs.far hi) ⟨m'.root, 1, 0, 0⟩ ⟨hr, by unfold In64; simp, by unfold In64; simp, by unfold In64; simp⟩ hd C' S2 hf
  have c0 := hk0
  have c1 := hk1
  have l1 := hlp.cell (i := 1) rfl
  have l2 := hlp.cell (i := 2) rfl
  have hlpn : Y.lp i ∉ lg :: Y.pool.blocks := fun m => by
    simp only [List.mem_cons] at m
    rcases m with m | m
    · have := (h.ok.lp i hi).1; omega
    · exact hnb _ _ (h.ok.lp i hi) (by omega) m
  have H := Lib.hid h; have HPUT := Lib.hid hput; have HF := Lib.hid hfirst; have HG1 := Lib.hid hg1; have HG2 := Lib.hid hg2; have HLP := Lib.hid hlp; have G3 := Lib.hid g3; have HFF := Lib.hid hf; have HLPN := Lib.hid hlpn; have HI := Lib.hid hi; have HCC := Lib.hid hC
  unfold NodeS.val I2 Chained ptr at HF
  unfold ptr at *
  clear h hput hfirst hg1 hg2 hlp g1 g2 g3 hf hlpn hi hC hrow hpr hk hv hm hnb hgl hlg hldb hpb ha hr
  simp only [List.length_singleton] at l2
  go_enter Tryz.func238, Tryz.ntmps238
  go_wp2_with fail
  refine wp_loop_rounds 2 ?_
  rw [rounds_succ]
  go_wp2_with (go_at_call 244; refine (HPUT.out _ ((Only.refl [] w).alloc _)).mono ?_; rintro e w1 ⟨rfl, hp1, ⟨nv, hl1⟩, ho1⟩; have HP1 := Lib.hid hp1; have HL1 := Lib.hid hl1; have HO1 := Lib.hid ho1; clear hp1 hl1 ho1)
  rw [rounds_succ]
  go_wp2_with fail
  have ho01 : Only (lg :: Y.pool.blocks) w w1 := (((Only.refl [] w).alloc _).mono (by simp)).trans HO1.out
  have hs1 := H.out.lgStep HG1.out HG2.out ho01 HP1.out G3.out
  have q1 := (HLP.out.only ho01 HLPN.out).cell (i := 1) rfl
  have q0 := HL1.out.cell (i := 0) rfl
  have q3 := HL1.out.cell (i := 3) rfl
  have hlx : Y.lp i ∉ chX (Y.chain i) Y.pool := fun m => by
    simp only [chX, List.mem_cons] at m
    rcases m with m | m | m
    · exact is_ne (H.out.ok.lp i HI.out) (H.out.ok.xb i HI.out) (by omega) m
    · exact is_ne (H.out.ok.lp i HI.out) (H.out.ok.sets i HI.out) (by omega) m
    · exact HLPN.out (by simp [m])
  have hgx : lg ∉ chX (Y.chain i) Y.pool := fun m => by
    have hg := HG1.out
    simp only [chX, List.mem_cons] at m
    rcases m with m | m | m
    · have := (H.out.ok.xb i HI.out).1; omega
    · have := (H.out.ok.sets i HI.out).1; omega
    · have := (H.out.ok.pool _ (blocks_all m)).1; omega
  have HLX := Lib.hid hlx; have HGX := Lib.hid hgx
  have HS1 := Lib.hid hs1; have HO01 := Lib.hid ho01
  clear ho01 hs1 hlx hgx hk0 hk1 c0 c1 l1 l2
  go_region_held3 (fun W => W.cell? ⟨Y.lp i, 1, none⟩ = some (.pointer (some ⟨(Y.chain i).xb, 0, none⟩)) ∧ W.cell? ⟨lg, 0, none⟩ = some (.int .i64 m'.root) ∧ W.cell? ⟨lg, 3, none⟩ = some (.pointer none))
    (first | with_reducible exact ⟨cell_only ho2 q1 HLX.out, cell_only ho2 q0 HGX.out, cell_only ho2 q3 HGX.out⟩ | (go_keep; done))
    (first | (go_simp; go_at_call 245; refine (HF.out _ (HS1.out.new (Only.drew [] _))).mono ?_; rintro e w2 ⟨rfl, hp2, hc2, ho2'⟩; have HP2 := Lib.hid hp2; have HC2 := Lib.hid hc2; have ho2 : Only (chX (Y.chain i) Y.pool) w1 w2 := ⟨ho2'.os, ho2'.tape, ho2'.output, ho2'.size, ho2'.block⟩; have HO2 := Lib.hid ho2; clear hp2 hc2 ho2'))
  go_wp2_with fail
  go_ret
  have hl := first_len HFF.out
  have hsx := H.out.sets C (List.mem_of_getElem? HCC.out)
  have hs2 := HS1.out.chainSame HI.out HO2.out HP2.out HC2.out hl.1 (hl.2.trans (hsx.trans G3.out.symm))
  exact ⟨rfl, hs2, (HO01.out.mono (by intro k hk; simp only [List.mem_cons, chX] at hk ⊢; rcases hk with h | h <;> simp [h])).trans (HO2.out.mono (by intro k hk; simp [hk]))⟩
end Go.Proofs.YteeefedoffplmaaGreat
