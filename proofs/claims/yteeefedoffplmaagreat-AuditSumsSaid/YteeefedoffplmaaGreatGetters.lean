/- trim.Trim where two versions are there, the elder one's write having left one node behind. Conditions: the store lies in memory; worker 0 is not within; the plain functions answer. -/
import Derived.Test.YteeefedoffplmaaGreatWithin
import Derived.Test.YteeefedoffplmaaGreatCut
set_option linter.unusedSimpArgs false
set_option linter.unusedVariables false
namespace Go.Proofs.YteeefedoffplmaaGreat
open Go.RowKit

/-- what such a Trim asks of the plain side. -/
structure Trims1 (X X2 : StoreS) (i : Nat) : Prop where
  deep : X.epoch.deep = 0
  len : X.epoch.list.length ≤ 1000
  ex : ∃ C v S1 older g C2 S2 C3 S3, X.chains[i]? = some C ∧ C.atStamp X.clock.now X.pool X.clock.least = some (some v, S1) ∧ C.cut S1 v = some (older, [g], C2, S2) ∧ older ≠ 0 ∧ C2.cut S2 older = some (0, [], C3, S3) ∧ In64 g ∧ In64 older ∧
    S1.slots.length = X.pool.slots.length ∧ S2.slots.length = X.pool.slots.length ∧ S3.slots.length = X.pool.slots.length ∧ C2.sets.length = C.sets.length ∧ C3.sets.length = C.sets.length ∧
    X2 = { X with pool := S3, epoch := ((X.epoch.enter.retire g).retire older).leave, chains := X.chains.set i C3 }
theorem retiredStep {w : World} {Y : StoreL} {ed : Option Nat} {D : Nat → List Nat} {X : StoreS} {w' : World} {E' : EpochS} {ed' : Option Nat} (h : StoreIn w Y ed D X) (he : EpochAt w' Y.eb Y.pool.pb Y.base ed' E') (ho : Only (Y.eb :: ed.toList) w w') (hed : ed' = ed ∨ ∃ g, ed' = some g ∧ w.heap.size ≤ g) : StoreIn w' Y ed' D { X with epoch := E' } ∧ Moves Y (Dyn Y ed D) (Dyn Y ed' D) w w' := by
  obtain ⟨lv, hb, hown, hlv⟩ := he.ex
  exact ⟨h.epochStep ho he hed (fun k e => (hown.lt k (hlv.trans e)).2), h.epochMoves ho hed⟩
set_option maxRecDepth 100000 in
set_option maxHeartbeats 3200000 in
theorem trim_any (w : World) (Y : StoreL) (ed : Option Nat) (D : Nat → List Nat) (X X2 : StoreS) (h : StoreIn w Y ed D X) (i : Nat) (ht : Trims1 X X2 i) :
    Calls Tryz.prog 72 #[.pointer none, ptr (Y.chain i).xb, ptr Y.eb, ptr Y.clock.cb] w fun e w' => ∃ ed' D', e = .returned (.tuple #[.int .i64 2, .int .i64 0]) ∧ StoreIn w' Y ed' D' X2 ∧ Moves Y (Dyn Y ed D) (Dyn Y ed' D') w w' := by
  obtain ⟨h0, hlen, C, v, S1, older, g, C2, S2, C3, S3, hC, hat, hc1, hol, hc2, hg64, ho64, n1, n2, n3, m2, m3, rfl⟩ := ht
  have hi : i < Y.n := by rw [← h.chains]; exact (List.getElem?_eq_some_iff.1 hC).1
  have hil : i < X.chains.length := (List.getElem?_eq_some_iff.1 hC).1
  have hlst : X.epoch.enter.list.length ≤ 100000 := by simp only [EpochS.enter]; omega
  have hlst2 : (X.epoch.enter.retire g).list.length ≤ 100000 := by simp only [EpochS.retire, EpochS.enter, List.length_append, List.length_singleton]; omega
  have hd1 : ((X.epoch.enter.retire g).retire older).deep = 1 := by simp [EpochS.enter, EpochS.retire, h0]
  have hent := enter_any w Y.eb Y.pool.pb Y.base ed X.epoch h.epoch h0
  have hat' := fun W (hs : StoreIn W Y ed D { X with epoch := X.epoch.enter }) => at_chain W (Y.chain i) Y.pool X.pool Y.clock X.clock Y.base (D i) C hs.pool hs.clock (hs.chain i C hC) (hs.far hi) X.clock.least (some v) S1 hat
  have hls := fun W (hs : StoreIn W Y ed D { X with epoch := X.epoch.enter }) => clockLeast W Y.clock X.clock hs.clock
  have hq : (older == 0) = false := by simp [hol]
  have H := Lib.hid h; have HI := Lib.hid hi; have HC := Lib.hid hC; have HAT := Lib.hid hat'; have HLS := Lib.hid hls; have HC1 := Lib.hid hc1; have HC2 := Lib.hid hc2; have HG := Lib.hid hg64; have HOL := Lib.hid ho64; have N1 := Lib.hid n1; have N2 := Lib.hid n2; have N3 := Lib.hid n3; have M2 := Lib.hid m2; have M3 := Lib.hid m3; have HL1 := Lib.hid hlst; have HL2 := Lib.hid hlst2; have HD1 := Lib.hid hd1; have HIL := Lib.hid hil
  unfold Epoched at hent
  unfold Settled atAns I2 at HAT
  dsimp only at HAT HLS
  unfold ptr at *
  clear h h0 hlen hC hat hc1 hol hc2 hg64 ho64 n1 n2 n3 m2 m3 hi hlst hlst2 hd1 hat' hls hil
  go_enter_defers Tryz.func72, Tryz.ntmps72
  go_wp2_with (first | (go_at_call 85; refine hent.mono ?_; rintro e w1 ⟨rfl, he1, ho1⟩; obtain ⟨hs1, hm1⟩ := epochEd H.out he1 ho1; have HS1 := Lib.hid hs1; have HM1 := Lib.hid hm1; clear he1 ho1 hs1 hm1) | (go_at_call 129; refine (HLS.out _ HS1.out).mono ?_; rintro e w' ⟨rfl, rfl⟩) | (go_at_call 128; refine (HAT.out _ HS1.out).mono ?_; rintro e w2 ⟨rfl, hp2, ho2⟩; have hs2 := HS1.out.poolStep ho2 hp2 N1.out; have hm2 := HS1.out.poolMoves ho2; have HS2 := Lib.hid hs2; have HM2 := Lib.hid (HM1.out.trans hm2); clear hp2 ho2 hs2 hm2))
  have HMX := Lib.hid (show 1 + 1 ≤ maxLen from by unfold maxLen; omega)
  have HMY := Lib.hid (show (1 + 1) * 8 ≤ 140737488355328 from by omega)
  refine wp_loop_rounds 2 ?_
  rw [rounds_succ]
  have hcut1 := cut_any w2 (Y.chain i) Y.pool S1 Y.clock.cb Y.base (D i) C HS2.out.pool (HS2.out.chain i C HC.out) (HS2.out.far HI.out) v older [g] C2 S2 HC1.out
  unfold CutPost at hcut1
  unfold ptr at hcut1
  go_wp2_with (first | (go_at_call 130; refine hcut1.mono ?_; rintro e w3 ⟨sv, D3, rfl, hown3, _, hsv, hDs, hp3, hc3, ho3⟩; obtain ⟨sA, sc, rfl, _, _⟩ := row_of_own hown3; have hs3 := HS2.out.chainStep HI.out ho3 hp3 hc3 (fun k hk => .inl (hDs k hk)) (N2.out.trans N1.out.symm) (M2.out.trans ((HS2.out.sets C (List.mem_of_getElem? HC.out)))); have HS3 := Lib.hid hs3; have HOWN3 := Lib.hid (show w3.ownsRow Y.base 3 1 (.slice sA 1 sc) 1 (ints [g]) from hown3); have HSV := Lib.hid hsv; have HDS := Lib.hid hDs; have HO3 := Lib.hid ho3; clear hown3 hsv hDs hp3 hc3 ho3 hs3; have HRN := Lib.hid (row_new w3 [.int .i64 older] 3); have HBS := Lib.hid (show Y.base ≤ (w3.alloc (.cells #[.int .i64 older] 3)).heap.size from by have := HS3.out.room; simp; omega)) | (at_builtin; refine wpList_append_is rfl (.tmp 49) (.tmp 51) rfl elemInt rfl (HOWN3.out.alloc (.cells #[.int .i64 older] 3)) _ 1 _ [.int .i64 older] rfl HRN.out rfl (by simp [Value.oneCell']) HMX.out HMY.out HBS.out (fun e => by cases e) ?_; intro v2 w5 hown5 hg5 hat5; obtain ⟨A5, c5, rfl, hr5, _⟩ := row_of_own hown5; obtain ⟨rb, ro, rfl, q0⟩ := hr5 0 _ rfl; have q1 := (hr5 1 _ rfl); have HOWN5 := Lib.hid hown5; have HG5 := Lib.hid (show (w3.alloc (.cells #[.int .i64 older] 3)).grownBy w5 (Value.slice sA 1 sc).ownBlock from hg5); have HAT5 := Lib.hid (show some rb = (Value.slice sA 1 sc).ownBlock ∨ some rb = some (w3.alloc (.cells #[.int .i64 older] 3)).heap.size from hat5); clear hown5 hg5 hat5))
  obtain ⟨b', o', e', q1⟩ := q1
  injection e' with e'
  injection e' with e1 e2
  subst e1 e2
  rw [Nat.add_zero] at q0
  have hzr : ∀ k, (Value.slice sA 1 sc).ownBlock = some k → Y.base ≤ k ∧ k < w3.heap.size ∧ k ∈ D i ∧ ¬ Dyn Y ed (fun j => if j = i then D3 else D j) k := fun k hk => by
    obtain ⟨d1, d2⟩ := HSV.out k hk
    obtain ⟨l1, l2⟩ := HOWN3.out.lt k hk
    refine ⟨l1, l2, d1, fun e => ?_⟩
    rcases e with e | ⟨j, hj, e⟩
    · exact HS2.out.edD i HI.out k d1 e
    · replace e : k ∈ (if j = i then D3 else D j) := e
      by_cases hji : j = i
      · rw [if_pos hji] at e
        exact d2 e
      · rw [if_neg hji] at e
        exact HS2.out.apart i j HI.out hj (fun x => hji x.symm) k d1 e
  have ho35 : Only (Value.slice sA 1 sc).ownBlock.toList w3 w5 := (((Only.refl [] w3).alloc (.cells #[.int .i64 older] 3)).mono (by simp)).grown HG5.out (fun k hk => .inr (by rw [hk]; simp))
  have hs5 := HS3.out.only ho35 (fun k hk => by have := hzr k (by simpa using hk); exact ⟨this.1, this.2.2.2⟩)
  have hm5 : Moves Y (Dyn Y ed D) (Dyn Y ed (fun j => if j = i then D3 else D j)) w2 w5 := by
    have ho25 : Only (chX (Y.chain i) Y.pool ++ (Value.slice sA 1 sc).ownBlock.toList) w2 w5 := (HO3.out.mono (by intro k hk; simp [hk])).trans (ho35.mono (by intro k hk; simp at hk; simp [hk]))
    have hmc := HS2.out.chainMoves HI.out HO3.out (fun k hk => .inl (HDS.out k hk))
    refine ⟨ho25.os, ho25.tape, ho25.output, ho25.size, fun k h1 h2 h3 => ho25.block k h1 (fun e => ?_), hmc.dyn⟩
    rcases List.mem_append.1 e with e | e
    · simp only [chX, List.mem_cons] at e
      rcases e with rfl | rfl | e
      · exact h2 ⟨(H.out.ok.xb i HI.out).1, by rw [(H.out.ok.xb i HI.out).2]; omega⟩
      · exact h2 ⟨(H.out.ok.sets i HI.out).1, by rw [(H.out.ok.sets i HI.out).2]; omega⟩
      · have := H.out.ok.pool k (blocks_all e)
        exact h2 ⟨this.1, by rw [this.2]; decide⟩
    · exact h3 (.inr ⟨i, HI.out, (hzr k (by simpa using e)).2.2.1⟩)
  have hrb : Y.base ≤ rb ∧ ¬ Dyn Y ed (fun j => if j = i then D3 else D j) rb := by
    rcases HAT5.out with e | e
    · have := hzr rb e.symm
      exact ⟨this.1, this.2.2.2⟩
    · injection e with e
      have h1 := HS3.out.room
      have h2 : rb = w3.heap.size + 1 := by simpa using e
      exact ⟨by omega, fun e => by have := (HS3.out.dyn_lt e).2; omega⟩
  have hrl : rb < w5.heap.size := (HOWN5.out.lt rb rfl).2
  have hret1 := retire_any w5 Y.eb Y.pool.pb Y.base ed X.epoch.enter hs5.epoch g HG.out HL1.out
  have HS5 := Lib.hid hs5; have HM5 := Lib.hid (HM2.out.trans hm5); have HRB := Lib.hid hrb; have HRL := Lib.hid hrl; have HRET1 := Lib.hid hret1
  unfold Retired ptr at HRET1
  clear hzr ho35 hs5 hm5 hrb hrl hret1 hcut1 hr5 hent
  refine wp_loop_rounds 3 ?_
  rw [rounds_succ]
  go_wp2_with (go_at_call 131; refine HRET1.out.mono ?_; rintro e w6 ⟨ed6, rfl, he6, ho6, hd6⟩; obtain ⟨hs6, hm6⟩ := retiredStep HS5.out he6 ho6 hd6; have q1 := cell_only ho6 q1 (fun m => (List.mem_cons.1 m).elim (fun e => by have := HRB.out.1; have := H.out.ok.eb.1; omega) (fun e => HRB.out.2 (.inl (by simpa using e)))); have HS6 := Lib.hid hs6; have HM6 := Lib.hid (HM5.out.trans hm6); clear he6 ho6 hd6 hs6 hm6)
  rw [rounds_succ]
  have HRET2 := Lib.hid (retire_any w6 Y.eb Y.pool.pb Y.base ed6 (X.epoch.enter.retire g) HS6.out.epoch older HOL.out HL2.out)
  unfold Retired ptr at HRET2
  go_wp2_with (go_at_call 131; refine HRET2.out.mono ?_; rintro e w7 ⟨ed7, rfl, he7, ho7, hd7⟩; obtain ⟨hs7, hm7⟩ := retiredStep HS6.out he7 ho7 hd7; have HS7 := Lib.hid hs7; have HM7 := Lib.hid (HM6.out.trans hm7); clear he7 ho7 hd7 hs7 hm7)
  rw [rounds_succ]
  go_wp2_with fail
  rw [rounds_succ]
  have hc7 := HS7.out.chain i C2 (by simp [HIL.out])
  rw [if_pos rfl] at hc7
  have hcut2 := cut_any w7 (Y.chain i) Y.pool S2 Y.clock.cb Y.base D3 C2 HS7.out.pool hc7 (HS7.out.far HI.out) older 0 [] C3 S3 HC2.out
  unfold CutPost at hcut2
  unfold ptr at hcut2
  clear hc7
  go_wp2_with (go_at_call 130; refine hcut2.mono ?_; rintro e w8 ⟨sv8, D8, rfl, hown8, _, hsv8, hDs8, hp8, hc8, ho8⟩; obtain ⟨sA8, sc8, rfl, _, _⟩ := row_of_own hown8; have hd8 := (fun k hk => Or.inl (b := w7.heap.size ≤ k) (hDs8 k hk)); have hs8 := HS7.out.chainStep HI.out ho8 hp8 hc8 (by intro k hk; left; show k ∈ (if i = i then D3 else D i); rw [if_pos rfl]; exact hDs8 k hk) (N3.out.trans N2.out.symm) (M3.out.trans (((HS2.out.sets C (List.mem_of_getElem? HC.out)).trans N1.out).trans N2.out.symm)); have hm8 := HS7.out.chainMoves HI.out ho8 (D' := D8) (by intro k hk; left; show k ∈ (if i = i then D3 else D i); rw [if_pos rfl]; exact hDs8 k hk); have HS8 := Lib.hid hs8; have HM8 := Lib.hid (HM7.out.trans hm8); clear hown8 hsv8 hDs8 hp8 hc8 ho8 hd8 hs8 hm8)
  refine leaves_cons (f := 86) (args := #[.pointer (some ⟨Y.eb, 0, none⟩), .pointer none]) (by simp) (by simp [go_sem]) ?_
  refine (leave_d w8 Y.eb Y.pool.pb Y.base ed7 ((X.epoch.enter.retire g).retire older) HS8.out.epoch HD1.out .returning).mono ?_
  rintro e u' w9 ⟨rfl, rfl, he9, ho9⟩
  obtain ⟨hs9, hm9⟩ := epochEd HS8.out he9 ho9
  simp only [List.set_set] at hs9
  exact ⟨.tuple #[.int .i64 2, .int .i64 0], by simp [results, Tryz.results72, go_sem], ed7, _, rfl, hs9, HM8.out.trans hm9⟩
/-- what nobody writes. -/
theorem Moves.fix {Y : StoreL} {dy dy' : Nat → Prop} {w w' : World} (hm : Moves Y dy dy' w w') (hd : ∀ k, dy k → Y.base ≤ k) {b i : Nat} {v : Value} (h : w.cell? ⟨b, i, none⟩ = some v) (hb : Y.is b 0) : w'.cell? ⟨b, i, none⟩ = some v := by
  have := hm.block b (cell_lt h) (fun e => e.2 hb.2) (fun e => by have := hd b e; have := hb.1; omega)
  simp only [World.cell?] at h ⊢
  rw [this]
  exact h
set_option maxRecDepth 100000 in
set_option maxHeartbeats 1600000 in
theorem storeTrim_any (w : World) (Y : StoreL) (ed : Option Nat) (D : Nat → List Nat) (X X2 : StoreS) (h : StoreIn w Y ed D X) (i : Nat) (ht : Trims1 X X2 i) :
    Calls Tryz.prog 24 #[ptr Y.sb, .pointer none, .int .i64 (i : Int)] w fun e w' => ∃ ed' D', e = .returned (.tuple #[.int .i64 2, .int .i64 0]) ∧ StoreIn w' Y ed' D' X2 ∧ Moves Y (Dyn Y ed D) (Dyn Y ed' D') w w' := by
  have hi : i < Y.n := by
    obtain ⟨C, _, _, _, _, _, _, _, _, hC, _⟩ := ht.ex
    rw [← h.chains]
    exact (List.getElem?_eq_some_iff.1 hC).1
  obtain ⟨A, c, hsb, hrow⟩ := h.fixed.sb
  obtain ⟨pb, rfl, hpb, hc⟩ := hrow i (ptr (Y.pt i)) (by simp [hi])
  have s6 := hsb.cell (i := 6) rfl
  have s2 := hsb.cell (i := 2) rfl
  have s1 := hsb.cell (i := 1) rfl
  have p0 := (h.fixed.pt i hi).cell (i := 0) rfl
  have htr := trim_any w.drew Y ed D X X2 (h.new (Only.drew [] _)) i ht
  have HM := Lib.hid (Moves.of_new (Y := Y) (dy := Dyn Y ed D) (Only.drew [] w))
  have HDB := Lib.hid (fun k (e : Dyn Y ed D k) => (h.dyn_lt e).1)
  have HSB := Lib.hid h.ok.sb
  have HPT := Lib.hid (h.ok.pt i hi)
  have HPB := Lib.hid hpb
  have hn := h.ok.n
  have h1 : (0 : Int) ≤ (i : Int) := by omega
  have h2 : (i : Int) < (Y.n : Int) := by omega
  unfold ptr at *
  clear h hsb hrow ht hi
  generalize Y.n = n at *
  go_enter Tryz.func24, Tryz.ntmps24
  go_wp2_with fail
  all_goals (try (exfalso; omega))
  go_region_held3 (fun W => W.cell? ⟨Y.sb, 6, none⟩ = some (.slice (some ⟨pb, 0, none⟩) n c) ∧ W.cell? ⟨Y.sb, 2, none⟩ = some (.pointer (some ⟨Y.eb, 0, none⟩)) ∧ W.cell? ⟨Y.sb, 1, none⟩ = some (.pointer (some ⟨Y.clock.cb, 0, none⟩)) ∧ W.cell? ⟨pb, i, none⟩ = some (.pointer (some ⟨Y.pt i, 0, none⟩)) ∧ W.cell? ⟨Y.pt i, 0, none⟩ = some (.pointer (some ⟨(Y.chain i).xb, 0, none⟩)))
    (first | with_reducible exact ⟨hm.fix HDB.out s6 HSB.out, hm.fix HDB.out s2 HSB.out, hm.fix HDB.out s1 HSB.out, hm.fix HDB.out hc HPB.out, hm.fix HDB.out p0 HPT.out⟩ | (go_keep; done))
    (first | (go_simp; go_at_call 72; refine htr.mono ?_; rintro e w1 ⟨ed', D', rfl, hs, hm⟩; have HS := Lib.hid hs; have hm := HM.out.trans hm; have HMM := Lib.hid hm; clear hs))
  all_goals
    go_wp2_with fail
    go_ret2
    exact ⟨_, _, rfl, HS.out, HMM.out⟩
end Go.Proofs.YteeefedoffplmaaGreat

/- A store's Pool, Clock, Epoch, Parts, Chain; Advance, Collect. Conditions: the store lies in memory; nobody is within. -/
namespace Go.Proofs.YteeefedoffplmaaGreat
open Go.RowKit

theorem getPool (w : World) (Y : StoreL) (hf : Fixed w Y) : Calls Tryz.prog 16 #[ptr Y.sb] w fun e w' => e = .returned (ptr Y.pool.pb) ∧ w' = w := by
  obtain ⟨A, c, hsb, _⟩ := hf.sb
  have c0 := hsb.cell (i := 0) rfl
  unfold ptr at *
  clear hf hsb
  go_enter Tryz.func16, Tryz.ntmps16
  go_wp2_with fail
  go_ret
  exact ⟨rfl, rfl⟩
theorem getClock (w : World) (Y : StoreL) (hf : Fixed w Y) : Calls Tryz.prog 59 #[ptr Y.sb] w fun e w' => e = .returned (ptr Y.clock.cb) ∧ w' = w := by
  obtain ⟨A, c, hsb, _⟩ := hf.sb
  have c0 := hsb.cell (i := 1) rfl
  unfold ptr at *
  clear hf hsb
  go_enter Tryz.func59, Tryz.ntmps59
  go_wp2_with fail
  go_ret
  exact ⟨rfl, rfl⟩
theorem getEpoch (w : World) (Y : StoreL) (hf : Fixed w Y) : Calls Tryz.prog 65 #[ptr Y.sb] w fun e w' => e = .returned (ptr Y.eb) ∧ w' = w := by
  obtain ⟨A, c, hsb, _⟩ := hf.sb
  have c0 := hsb.cell (i := 2) rfl
  unfold ptr at *
  clear hf hsb
  go_enter Tryz.func65, Tryz.ntmps65
  go_wp2_with fail
  go_ret
  exact ⟨rfl, rfl⟩
theorem getParts (w : World) (Y : StoreL) (hf : Fixed w Y) : Calls Tryz.prog 12 #[ptr Y.sb] w fun e w' => e = .returned (.int .i64 (Y.n : Int)) ∧ w' = w := by
  obtain ⟨A, c, hsb, _⟩ := hf.sb
  have c0 := hsb.cell (i := 6) rfl
  unfold ptr at *
  clear hf hsb
  go_enter Tryz.func12, Tryz.ntmps12
  go_wp2_with fail
  go_ret
  exact ⟨rfl, rfl⟩
theorem getChain (w : World) (Y : StoreL) (hf : Fixed w Y) (i : Nat) (hi : i < Y.n) : Calls Tryz.prog 63 #[ptr Y.sb, .int .i64 (i : Int)] w fun e w' => e = .returned (ptr (Y.chain i).xb) ∧ w' = w := by
  obtain ⟨A, c, hsb, hrow⟩ := hf.sb
  have c0 := hsb.cell (i := 6) rfl
  obtain ⟨pb, rfl, _, hc⟩ := hrow i (ptr (Y.pt i)) (by simp [hi])
  have p0 := (hf.pt i hi).cell (i := 0) rfl
  have h1 : (0 : Int) ≤ (i : Int) := by omega
  have h2 : (i : Int) < (Y.n : Int) := by omega
  unfold ptr at *
  clear hf hsb hrow
  generalize Y.n = n at *
  go_enter Tryz.func63, Tryz.ntmps63
  go_wp2_with fail
  all_goals (try (exfalso; omega))
  go_ret
  exact ⟨rfl, rfl⟩
theorem storeAdvance_any (w : World) (Y : StoreL) (ed : Option Nat) (D : Nat → List Nat) (X : StoreS) (h : StoreIn w Y ed D X) (h0 : X.epoch.at0 = 0) (hn : X.epoch.now + 1 ≤ 1099511627776) :
    Calls Tryz.prog 25 #[ptr Y.sb, .pointer none] w fun e w' => e = .returned (.bool true) ∧ StoreIn w' Y ed D { X with epoch := { X.epoch with now := X.epoch.now + 1 } } ∧ Only [Y.eb] w w' := by
  obtain ⟨A, c, hsb, _⟩ := h.fixed.sb
  have c0 := hsb.cell (i := 2) rfl
  have ha := advance_any w Y.eb Y.pool.pb Y.base ed X.epoch h.epoch h0 hn
  have H := Lib.hid h
  unfold Epoched at ha
  unfold ptr at *
  clear h hsb h0 hn
  go_enter Tryz.func25, Tryz.ntmps25
  go_wp2_with (go_at_call 73; refine ha.mono ?_; rintro e w1 ⟨rfl, he1, ho1⟩; have HE1 := Lib.hid he1; have HO1 := Lib.hid ho1; clear he1 ho1)
  go_ret
  exact ⟨rfl, (epochEd H.out HE1.out HO1.out).1, HO1.out⟩
theorem storeCollect_any (w : World) (Y : StoreL) (ed : Option Nat) (D : Nat → List Nat) (X : StoreS) (h : StoreIn w Y ed D X) (r : Int × EpochS × PoolS) (hr : collect X.epoch X.pool = some r) (hm : X.epoch.list.length ≤ 100000) (hl : r.2.2.slots.length = X.pool.slots.length) :
    Calls Tryz.prog 26 #[ptr Y.sb, .pointer none] w fun e w' => e = .returned (I2 r.1) ∧ StoreIn w' Y ed D { X with epoch := r.2.1, pool := r.2.2 } ∧ Only (coX Y.eb ed Y.pool) w w' := by
  obtain ⟨A, c, hsb, _⟩ := h.fixed.sb
  have c0 := hsb.cell (i := 2) rfl
  have hco := collect_any w Y.eb Y.pool.pb Y.base ed Y.pool X.epoch X.pool h.epoch h.pool rfl (fun k hk => (h.ok.pool k hk).1) (fun e => is_ne h.ok.eb (h.ok.pool _ e) (by decide) rfl) r hr hm
  have H := Lib.hid h; have HL := Lib.hid hl
  unfold Collected I2 at hco
  unfold I2
  unfold ptr at *
  clear h hsb hr hm hl
  go_enter Tryz.func26, Tryz.ntmps26
  go_wp2_with (go_at_call 74; refine hco.mono ?_; rintro e w1 ⟨rfl, he1, hp1, ho1⟩; have HE1 := Lib.hid he1; have HP1 := Lib.hid hp1; have HO1 := Lib.hid ho1; clear he1 ho1 hp1)
  go_ret2
  refine ⟨rfl, ?_, HO1.out⟩
  have h := H.out
  have hk := h.ok
  have hm : ∀ k ∈ coX Y.eb ed Y.pool, Y.is k 1 ∨ Y.is k 3 ∨ ed = some k := fun k m => by
    simp only [coX, List.mem_cons, List.mem_append, Option.mem_toList] at m
    rcases m with rfl | m | m
    · exact .inr (.inl hk.eb)
    · exact .inr (.inr m)
    · exact .inl (hk.pool k (blocks_all m))
  have hb : ∀ k c, Y.is k c → c ≠ 1 → c ≠ 3 → k ∉ coX Y.eb ed Y.pool := fun k c e h1 h2 m => by
    rcases hm k m with e2 | e2 | e2
    · exact is_ne e e2 h1 rfl
    · exact is_ne e e2 h2 rfl
    · have := ed_ge h.epoch k e2
      have := e.1
      omega
  have hn : ∀ k ∈ coX Y.eb ed Y.pool, ¬ Y.is k 0 := fun k m e => hb k 0 e (by decide) (by decide) m
  have hd : ∀ k, Y.base ≤ k → ed ≠ some k → k ∉ coX Y.eb ed Y.pool := fun k e1 e2 m => by
    rcases hm k m with e3 | e3 | e3
    · have := e3.1; omega
    · have := e3.1; omega
    · exact e2 e3
  have ho := HO1.out
  refine ⟨hk, h.fixed.only ho hk hn, HP1.out, h.clock.only ho (hb _ _ hk.cb (by decide) (by decide)) (hb _ _ hk.lb (by decide) (by decide)), HE1.out, fun i C hC => ?_, fun i a ha => ?_, h.chains, h.loads, fun C hC => (h.sets C hC).trans HL.out.symm, by simpa [HL.out] using h.slots, h.apart, h.edD, fun k e => Nat.lt_of_lt_of_le (h.edlt k e) ho.size, Nat.le_trans h.room ho.size⟩
  · have hi : i < Y.n := by rw [← h.chains]; exact (List.getElem?_eq_some_iff.1 hC).1
    exact (h.chain i C hC).only ho (hb _ _ (hk.xb i hi) (by omega) (by omega)) (hb _ _ (hk.sets i hi) (by omega) (by omega)) (fun k e => hd k ((h.chain i C hC).dlt k e).1 (h.edD i hi k e))
  · have hi : i < Y.n := by rw [← h.loads]; exact (List.getElem?_eq_some_iff.1 ha).1
    exact (h.load i a ha).only ho (hb _ _ (hk.lp i hi) (by omega) (by omega)) hn
end Go.Proofs.YteeefedoffplmaaGreat
