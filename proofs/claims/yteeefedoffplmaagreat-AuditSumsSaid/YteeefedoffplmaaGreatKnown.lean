/- known(): the store that it builds is as it says. -/
import Derived.Test.YteeefedoffplmaaGreatKnownX
import Derived.Test.YteeefedoffplmaaGreatNewStore
set_option linter.unusedSimpArgs false
set_option linter.unusedVariables false
namespace Go.Proofs.YteeefedoffplmaaGreat
open Go.RowKit

theorem row_take {w : World} {A : Option Addr} {l : List UseS} (n : Nat) (h : Row w A (l.flatMap UseS.cells)) : Row w A ((l.take n).flatMap UseS.cells) := by
  intro j u hu
  refine h j u ?_
  rw [← List.take_append_drop n l, List.flatMap_append, List.getElem?_append_left (List.getElem?_eq_some_iff.1 hu).1]
  exact hu
theorem row_of_own_cap {w : World} {base e size n : Nat} {v : Value} {xs : List Value} (h : w.ownsRow base e size v n xs) : ∃ A c, v = .slice A n c ∧ Row w A xs ∧ n ≤ c := by
  obtain ⟨A, c, rfl, hr, _⟩ := row_of_own h
  refine ⟨A, c, rfl, hr, ?_⟩
  rcases h.2 with ⟨h1, h2⟩ | ⟨g, cap, cur, hv, _, hg, hnc, _⟩
  · omega
  · injection hv with _ _ hv
    omega
theorem usesX_any (w : World) (Y : StoreL) (ed : Option Nat) (D : Nat → List Nat) (X : StoreS) (h : StoreIn w Y ed D X) (ha : Audits X (pssOf X)) (hu : UsesOk X) :
    Calls Tryz.prog 19 #[ptr Y.sb] w fun e w' => ∃ A c, e = .returned (.slice A 20 c) ∧ Row w' A ((usesX X).flatMap UseS.cells) ∧ 20 ≤ c ∧ Only [] w w' ∧ w'.ownsRow w.heap.size 62 5 (.slice A 20 c) 20 ((usesX X).flatMap UseS.cells) := by
  obtain ⟨free, hf, hl, h64⟩ := hu.free
  have hx : usesX X = usesFrom free (claimsOf (allV (pssOf X) (pssOf X).length) X.epoch.list) (X.pool.slots.drop 1) := by unfold usesX; rw [hf]; rfl
  refine (uses_any w Y ed D X h (pssOf X) ha free hf hl h64 hu.zero).mono ?_
  rintro e w' ⟨v, rfl, hown, ho⟩
  rw [← hx, hu.len] at hown
  obtain ⟨A, c, rfl, hr, hc⟩ := row_of_own_cap hown
  exact ⟨A, c, rfl, hr, hc, ho, hown⟩
theorem restX_any (w : World) (Y : StoreL) (ed : Option Nat) (D : Nat → List Nat) (X : StoreS) (h : StoreIn w Y ed D X) (ha : Audits X (pssOf X)) (hu : UsesOk X) (hw : X.epoch.list = []) (hl2 : X.clock.leases = List.replicate 2 0) (b : Bool) (hb : restL (pssOf X) (usesX X) = b) :
    Calls Tryz.prog 23 #[ptr Y.sb] w fun e w' => e = .returned (.bool b) ∧ Only [] w w' := by
  obtain ⟨free, hf, hl, h64⟩ := hu.free
  have hx : usesX X = usesFrom free (claimsOf (allV (pssOf X) (pssOf X).length) X.epoch.list) (X.pool.slots.drop 1) := by unfold usesX; rw [hf]; rfl
  have := rest_any w Y ed D X h (pssOf X) ha hw 2 hl2 (by omega) free hf hl h64 hu.zero
  rw [← hx, hb] at this
  exact this
theorem sumsX_any (w : World) (l : List UseS) (A : Option Addr) (c : Nat) (hl : l.length = 20) (ha : Row w A (l.flatMap UseS.cells)) :
    Calls Tryz.prog 6 #[.slice A 20 c] w fun e w' => e = .returned (sumsV l) ∧ Only [] w w' := by
  have := sums_any w l A c (by omega) ha
  rw [hl] at this
  exact this
theorem sameX_any (w : World) (a b : List UseS) (n : Nat) (A B : Option Addr) (ac bc : Nat) (ha : a.length = n) (hb : b.length = n) (hn : n ≤ 4000000) (hra : Row w A (a.flatMap UseS.cells)) (hrb : Row w B (b.flatMap UseS.cells)) (he : a = b) :
    Calls Tryz.prog 8 #[.slice A n ac, .slice B n bc] w fun e w' => e = .returned (.bool true) ∧ Only [] w w' := by
  have := sameUses a b A B ac bc w (by omega) (by omega) hra hrb
  rw [ha, hb] at this
  refine this.mono ?_
  rintro e w' ⟨rfl, n, rfl⟩
  exact ⟨by simp [he], (Only.refl _ _).drewN n⟩
theorem trimsX_any (w : World) (Y : StoreL) (ed : Option Nat) (D : Nat → List Nat) (h : StoreIn w Y ed D kXA) :
    Calls Tryz.prog 21 #[ptr Y.sb] w fun e w' => ∃ A c, e = .returned (.slice A 2 c) ∧ Row w' A (ints [2, 0]) ∧ Only [] w w' := by
  refine (trims_any w Y ed D kXA h (pssOf kXA) kAuditA 2 kTrimsA).mono ?_
  rintro e w' ⟨v, rfl, hown, ho⟩
  rw [kTrimVals] at hown
  obtain ⟨A, c, rfl, hr, _⟩ := row_of_own hown
  exact ⟨A, c, rfl, hr, ho⟩
theorem eqlSums (a b c d e : Int) (w : World) : (binOp .eql 25 (.agg #[.int .i64 a, .int .i64 b, .int .i64 c, .int .i64 d, .int .i64 e]) (.agg #[.int .i64 a, .int .i64 b, .int .i64 c, .int .i64 d, .int .i64 e])).run Tryz.prog w = .ok (.bool true) w := by
  have h1 : Tryz.prog.stoodInHeld 25 = false := by kernel_rfl
  have hu := Tryz.underlying25
  go_simp
theorem guard25 : Tryz.prog.eqGuardType Tryz.prog.depth 25 = false := by kernel_rfl
theorem only_of_moves {w0 w1 W : World} {Y : StoreL} {dy : Nat → Prop} (h1 : Only [] w0 w1) (hm : Moves Y (Dyn Y none fun _ => []) dy w1 W) (hc : ∀ k, k < w0.heap.size → Y.col k = 0) : Only [] w0 W := by
  refine ⟨hm.os.trans h1.os, hm.tape.trans h1.tape, hm.output.trans h1.output, Nat.le_trans h1.size hm.size, fun k hk _ => ?_⟩
  rw [hm.block k (Nat.lt_of_lt_of_le hk h1.size) (fun e => e.2 (hc k hk)) (fun e => by
    rcases e with e | ⟨i, _, e⟩
    · cases e
    · simp at e)]
  exact h1.block k hk (by simp)
theorem Moves.co {w w' : World} {Y : StoreL} {ed : Option Nat} {D : Nat → List Nat} (hk : Y.Ok) (ho : Only (coX Y.eb ed Y.pool) w w') : Moves Y (Dyn Y ed D) (Dyn Y ed D) w w' :=
  .of_only ho (fun k m => by
    simp only [coX, List.mem_cons, List.mem_append] at m
    rcases m with rfl | m | m
    · exact .inl ⟨hk.eb.1, by rw [hk.eb.2]; decide⟩
    · exact .inr (.inl (by simpa using m))
    · have := hk.pool k (blocks_all m)
      exact .inl ⟨this.1, by rw [this.2]; decide⟩) (fun _ h => .inl h)
def kLit5 : List UseS := [⟨3, 0, 1, 1, 0⟩, ⟨2, 0, 1, 1, 0⟩, ⟨3, 0, 2, 2, 0⟩, ⟨2, 0, 2, 2, 0⟩, ⟨1, 0, 0, 0, 0⟩]
def kLit2 : List UseS := [⟨4, 0, 0, 0, 0⟩, ⟨4, 0, 0, 0, 0⟩]
theorem leastX_any (w : World) (Y : StoreL) (ed : Option Nat) (D : Nat → List Nat) (h : StoreIn w Y ed D kXA) : Calls Tryz.prog 22 #[ptr Y.sb] w fun e w' => e = .returned (.int .i64 2) ∧ Only [] w w' := by
  have := least_any w Y ed D kXA h (pssOf kXA) kAuditA
  rw [kLeast] at this
  exact this
theorem sameIX_any (w : World) (A B : Option Addr) (ac bc : Nat) (ha : Row w A (ints [2, 0])) (hb : Row w B (ints [2, 0])) : Calls Tryz.prog 20 #[.slice A 2 ac, .slice B 2 bc] w fun e w' => e = .returned (.bool true) ∧ Only [] w w' := by
  refine (sameInts [2, 0] [2, 0] A B ac bc w (by simp) (by simp) ha hb).mono ?_
  rintro e w' ⟨rfl, n, rfl⟩
  exact ⟨by simp, (Only.refl _ _).drewN n⟩
set_option maxRecDepth 100000 in
set_option maxHeartbeats 6400000 in
theorem known_walk (w : World) : Calls Tryz.prog 5 #[] w fun e w' => e = .returned (.bool true) ∧ Only [] w w' := by
  obtain ⟨w0, hw0⟩ : ∃ w0, w.alloc (.cells #[.int .i64 1, .int .i64 10] 36) = w0 := ⟨_, rfl⟩
  have ho0 : Only [] w w0 := by rw [← hw0]; exact (Only.refl _ _).alloc _
  have hb0 : Blk w0 w.heap.size [.int .i64 1, .int .i64 10] 36 := by rw [← hw0]; exact Blk.new w _ 36
  have hnw := storeNew_any w0 w.heap.size 1 1 10 (hb0.cell rfl) (hb0.cell rfl) (by decide +kernel) (by decide +kernel)
  have HNW := Lib.hid hnw; have HO0 := Lib.hid ho0
  unfold ptr at HNW
  clear ho0 hb0 hnw
  go_enter Tryz.func5, Tryz.ntmps5
  go_wp2_with (go_at_call 10; refine HNW.out.mono ?_; rintro e w1 ⟨Y, rfl, hs1, hbs, ho1, hcol⟩; have HS1 := Lib.hid hs1; have HBS := Lib.hid hbs; have HO1 := Lib.hid ho1; have HCOL := Lib.hid hcol; clear hs1 hbs ho1 hcol)
  have hpu := fun W (ho : Only [] w1 W) => storePut_any W Y none (fun _ => []) kX0 kXA (HS1.out.new ho) 0 1 11 kToldA (kPuts Y (by have := HS1.out.chains; exact this.symm))
  have HPU := Lib.hid hpu
  unfold Wrote ptr at HPU
  clear hpu
  go_wp2_with (go_at_call 18; refine (HPU.out _ (Only.refl [] w1)).mono ?_; rintro e w2 ⟨D2, rfl, hs2, hm2⟩; have HS2 := Lib.hid hs2; have HM2 := Lib.hid hm2; clear hs2 hm2)
  have hus := usesX_any w2 Y none D2 kXA HS2.out kAuditA kUsesA
  have HUS := Lib.hid hus
  unfold ptr at HUS
  clear hus
  go_wp2_with (go_at_call 19; refine HUS.out.mono ?_; rintro e w3 ⟨A, c, rfl, hr3, hc3, ho3, _⟩; have HR3 := Lib.hid hr3; have HO3 := Lib.hid ho3; have hc4 : ¬ (c : Int) < 5 := (by omega); have hc5 : ¬ c = 0 := (by omega); clear hr3 ho3)
  obtain ⟨W4, hW4⟩ : ∃ W4, w3.alloc (.cells (kLit5.flatMap UseS.cells).toArray 62) = W4 := ⟨_, rfl⟩
  have ho4 : Only [] w2 W4 := by rw [← hW4]; exact HO3.out.alloc _
  have hrl : Row W4 (some ⟨w3.heap.size, 0, none⟩) (kLit5.flatMap UseS.cells) := by rw [← hW4]; exact row_new w3 _ 62
  have hr4 : Row W4 A ((usesX kXA).flatMap UseS.cells) := by rw [← hW4]; exact HR3.out.alloc _
  have hsm := sameX_any W4 ((usesX kXA).take 5) kLit5 5 A (some ⟨w3.heap.size, 0, none⟩) c 5 (by rw [kUseVals.1]; rfl) rfl (by omega) (row_take 5 hr4) hrl kUseVals.1
  have htr := fun W (ho : Only [] W4 W) => trimsX_any W Y none D2 ((HS2.out.new ho4).new ho)
  have hle := fun W (ho : Only [] W4 W) => leastX_any W Y none D2 ((HS2.out.new ho4).new ho)
  have hre := fun W (ho : Only [] W4 W) => restX_any W Y none D2 kXA ((HS2.out.new ho4).new ho) kAuditA kUsesA kRest.1 kRest.2.1 false kRest.2.2.1
  have HSM := Lib.hid hsm; have HTR := Lib.hid htr; have HLE := Lib.hid hle; have HRE := Lib.hid hre; have HO4 := Lib.hid ho4
  have hWc : w3.alloc (.cells #[.int .i64 3, .int .i64 0, .int .i64 1, .int .i64 1, .int .i64 0, .int .i64 2, .int .i64 0, .int .i64 1, .int .i64 1, .int .i64 0, .int .i64 3, .int .i64 0, .int .i64 2, .int .i64 2, .int .i64 0, .int .i64 2, .int .i64 0, .int .i64 2, .int .i64 2, .int .i64 0, .int .i64 1, .int .i64 0, .int .i64 0, .int .i64 0, .int .i64 0] 62) = W4 := hW4
  unfold ptr at HTR HLE HRE
  rw [hWc]
  clear hW4 hWc ho4 hrl hr4 hsm htr hle hre
  go_wp2_with (first | (go_at_call 8; refine HSM.out.mono ?_; rintro e w5 ⟨rfl, ho5⟩; have HO5 := Lib.hid ho5; clear ho5) | (go_at_call 21; refine (HTR.out _ HO5.out).mono ?_; rintro e w6 ⟨A2, c2, rfl, hr6, ho6⟩; have HR6 := Lib.hid hr6; have ho6a := HO5.out.trans ho6; have HO6 := Lib.hid (ho6a.alloc (.cells #[.int .i64 2, .int .i64 0] 3)); have HSI := Lib.hid (sameIX_any (w6.alloc (.cells #[.int .i64 2, .int .i64 0] 3)) A2 (some ⟨w6.heap.size, 0, none⟩) c2 2 (hr6.alloc _) (row_new w6 [.int .i64 2, .int .i64 0] 3)); clear hr6 ho6 ho6a) | (go_at_call 20; refine HSI.out.mono ?_; rintro e w7 ⟨rfl, ho7⟩; have HO7 := Lib.hid (HO6.out.trans ho7); clear ho7) | (go_at_call 22; refine (HLE.out _ HO7.out).mono ?_; rintro e w8 ⟨rfl, ho8⟩; have HO8 := Lib.hid (HO7.out.trans ho8); clear ho8) | (go_at_call 23; refine (HRE.out _ HO8.out).mono ?_; rintro e w9 ⟨rfl, ho9⟩; have HO9 := Lib.hid (HO8.out.trans ho9); clear ho9))
  have hs9 : StoreIn w9 Y none D2 kXA := (HS2.out.new HO4.out).new HO9.out
  have hti := storeTrim_any w9 Y none D2 kXA kXB hs9 0 kTrims
  rw [show ((0 : Nat) : Int) = 0 from rfl] at hti
  have HTI := Lib.hid hti
  have HM9 := Lib.hid ((HM2.out.trans (.of_new HO4.out)).trans (.of_new HO9.out))
  unfold ptr at HTI
  clear hti hs9
  go_wp2_with (go_at_call 24; refine HTI.out.mono ?_; rintro e w10 ⟨ed, D3, rfl, hs10, hm10⟩; have HS10 := Lib.hid hs10; have HM10 := Lib.hid (HM9.out.trans hm10); clear hs10 hm10)
  have hus2 := usesX_any w10 Y ed D3 kXB HS10.out kAuditB kUsesB
  have HUS2 := Lib.hid hus2
  unfold ptr at HUS2
  clear hus2
  go_wp2_with (go_at_call 19; refine HUS2.out.mono ?_; rintro e w11 ⟨A3, c3, rfl, hr11, hc11, ho11, hown11⟩; have HO11 := Lib.hid ho11; have HOW := Lib.hid hown11; have hd3 : ¬ (c3 : Int) < 2 := (by omega); have hd4 : ¬ c3 = 0 := (by omega); clear hr11 ho11 hown11)
  have had := storeAdvance_any w11 Y ed D3 kXB (HS10.out.new HO11.out) kAdv.1 kAdv.2.1
  have HAD := Lib.hid had
  unfold ptr at HAD
  clear had
  go_wp2_with (go_at_call 25; refine HAD.out.mono ?_; rintro e w12 ⟨rfl, hs12, ho12⟩; have HS12 := Lib.hid (show StoreIn w12 Y ed D3 kXB1 from hs12); have HO12 := Lib.hid ho12; clear hs12 ho12)
  have had2 := storeAdvance_any w12 Y ed D3 kXB1 HS12.out kAdv.2.2.1 kAdv.2.2.2
  have HAD2 := Lib.hid had2
  unfold ptr at HAD2
  clear had2
  go_wp2_with (go_at_call 25; refine HAD2.out.mono ?_; rintro e w13 ⟨rfl, hs13, ho13⟩; have HS13 := Lib.hid (show StoreIn w13 Y ed D3 kXB2 from hs13); have HO13 := Lib.hid ho13; clear hs13 ho13)
  have hco := storeCollect_any w13 Y ed D3 kXB2 HS13.out kR kCollect.1 kCollect.2.2.1 kCollect.2.2.2
  rw [kCollect.2.1] at hco
  have HCO := Lib.hid hco
  unfold I2 ptr at HCO
  clear hco
  go_wp2_with (go_at_call 26; refine HCO.out.mono ?_; rintro e w14 ⟨rfl, hs14, ho14⟩; have HS14 := Lib.hid (show StoreIn w14 Y ed D3 kXC from hs14); have HO14 := Lib.hid ho14; clear hs14 ho14)
  have hrm := HS10.out.room
  have hebl := HS10.out.ok.eb.1
  have hz : ∀ k ∈ coX Y.eb ed Y.pool, k < w10.heap.size := fun k m => by
    simp only [coX, List.mem_cons, List.mem_append] at m
    rcases m with rfl | m | m
    · omega
    · exact HS10.out.edlt k (by simpa using m)
    · have := (HS10.out.ok.pool k (blocks_all m)).1
      omega
  have hz1 : ∀ k ∈ [Y.eb], k < w10.heap.size := fun k m => hz k (by simp at m; subst m; simp [coX])
  have hlow : ∀ (Z : List Nat), (∀ k ∈ Z, k < w10.heap.size) → ∀ (W : World), W.ownsRow w10.heap.size 62 5 (.slice A3 20 c3) 20 ((usesX kXB).flatMap UseS.cells) → ∀ k, (Value.slice A3 20 c3).ownBlock = some k → k ∉ Z := fun Z hZ W hW k hk m => by
    have := (hW.lt k hk).1
    have := hZ k m
    omega
  have o12 := own_only HOW.out HO12.out (hlow _ hz1 _ HOW.out)
  have o13 := own_only o12 HO13.out (hlow _ hz1 _ o12)
  have o14 := own_only o13 HO14.out (hlow _ hz _ o13)
  obtain ⟨A3', c3', hA3, hr14, _⟩ := row_of_own o14
  injection hA3 with hA3 _ hA3c
  subst hA3 hA3c
  have hok := HS10.out.ok
  have h1m : ∀ k ∈ [Y.eb], k ∈ coX Y.eb ed Y.pool := fun k m => by simp at m; subst m; simp [coX]
  have hm14 := (((HM10.out.trans (.of_new HO11.out)).trans (.co hok (HO12.out.mono h1m))).trans (.co hok (HO13.out.mono h1m))).trans (.co hok HO14.out)
  obtain ⟨W15, hW15⟩ : ∃ W15, w14.alloc (.cells (kLit2.flatMap UseS.cells).toArray 62) = W15 := ⟨_, rfl⟩
  have ho15 : Only [] w14 W15 := by rw [← hW15]; exact (Only.refl _ _).alloc _
  have hrl : Row W15 (some ⟨w14.heap.size, 0, none⟩) (kLit2.flatMap UseS.cells) := by rw [← hW15]; exact row_new w14 _ 62
  have hr15 : Row W15 A3 ((usesX kXB).flatMap UseS.cells) := by rw [← hW15]; exact hr14.alloc _
  have hsm := sameX_any W15 ((usesX kXB).take 2) kLit2 2 A3 (some ⟨w14.heap.size, 0, none⟩) c3 2 (by rw [kUseVals.2.1]; rfl) rfl (by omega) (row_take 2 hr15) hrl kUseVals.2.1
  have hre := fun W (ho : Only [] W15 W) => restX_any W Y ed D3 kXC ((HS14.out.new ho15).new ho) kAuditC kUsesC kRest.2.2.2.1 kRest.2.2.2.2.1 true kRest.2.2.2.2.2
  have hus := fun W (ho : Only [] W15 W) => usesX_any W Y ed D3 kXC ((HS14.out.new ho15).new ho) kAuditC kUsesC
  have heq := eqlSums 18 1 1 0 0
  have hg25 := guard25
  have HSM2 := Lib.hid hsm; have HRE2 := Lib.hid hre; have HUS3 := Lib.hid hus; have HO15 := Lib.hid ho15; have HM14 := Lib.hid hm14
  have hWc : w14.alloc (.cells #[.int .i64 4, .int .i64 0, .int .i64 0, .int .i64 0, .int .i64 0, .int .i64 4, .int .i64 0, .int .i64 0, .int .i64 0, .int .i64 0] 62) = W15 := hW15
  unfold ptr at HRE2 HUS3
  rw [hWc]
  clear hW15 hWc ho15 hrl hr15 hsm hre hus hm14 hok h1m hr14 o12 o13 o14 hlow hz1 hz hebl hrm
  go_wp2_with (first | (go_at_call 8; refine HSM2.out.mono ?_; rintro e w16 ⟨rfl, ho16⟩; have HO16 := Lib.hid ho16; clear ho16) | (go_at_call 23; refine (HRE2.out _ HO16.out).mono ?_; rintro e w17 ⟨rfl, ho17⟩; have HO17 := Lib.hid (HO16.out.trans ho17); clear ho17) | (go_at_call 19; refine (HUS3.out _ HO17.out).mono ?_; rintro e w18 ⟨A4, c4, rfl, hr18, _, ho18, _⟩; have HO18 := Lib.hid (HO17.out.trans ho18); have HSU := Lib.hid (sumsX_any w18 (usesX kXC) A4 c4 kUsesC.len hr18); unfold sumsV at HSU; rw [kUseVals.2.2.1, kUseVals.2.2.2.1, kUseVals.2.2.2.2.1, kUseVals.2.2.2.2.2.1, kUseVals.2.2.2.2.2.2] at HSU; clear hr18 ho18) | (go_at_call 6; refine HSU.out.mono ?_; rintro e w19 ⟨rfl, ho19⟩; have HO19 := Lib.hid (HO18.out.trans ho19); clear ho19))
  go_ret
  refine ⟨rfl, HO0.out.trans (only_of_moves HO1.out (HM14.out.trans (.of_new (HO15.out.trans HO19.out))) HCOL.out)⟩
end Go.Proofs.YteeefedoffplmaaGreat
