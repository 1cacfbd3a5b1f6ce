/- audit.Least and audit.Rest. Conditions: those of an audit; for Rest: nothing waits, no lease is taken. -/
import Derived.Test.YteeefedoffplmaaGreatUses
import Derived.Test.YteeefedoffplmaaGreatSums
set_option linter.unusedSimpArgs false
set_option linter.unusedVariables false
namespace Go.Proofs.YteeefedoffplmaaGreat
open Go.RowKit Go.Maps

def leastOf (l : List VersionS) : Int := match l with | [] => 0 | v :: _ => 1 + (v.nodes.length : Int)
def leastL (pss : List (List (Int × SlotS))) (n : Nat) : Int := ((List.range n).map fun i => leastOf (partV pss i)).sum
theorem leastL_succ (pss : List (List (Int × SlotS))) (n : Nat) : leastL pss (n + 1) = leastL pss n + leastOf (partV pss n) := by simp [leastL, List.range_succ]
theorem leastOf_le (pss : List (List (Int × SlotS))) (i : Nat) : 0 ≤ leastOf (partV pss i) ∧ leastOf (partV pss i) ≤ 2 := by
  cases h : partV pss i with
  | nil => simp [leastOf]
  | cons v l =>
    have hv : v ∈ partV pss i := by rw [h]; simp
    obtain ⟨p, _, rfl⟩ := List.mem_map.1 hv
    simp [leastOf, verOf]
theorem leastL_le (pss : List (List (Int × SlotS))) (n : Nat) : 0 ≤ leastL pss n ∧ leastL pss n ≤ 2 * n := by
  induction n with
  | zero => simp [leastL]
  | succ n ih =>
    have := leastOf_le pss n
    rw [leastL_succ]
    omega
theorem vrow_head {w : World} {base : Nat} {v : Value} {els : List VEl} {v0 : VersionS} {vl : List VersionS} (h : VRow w base v els) (he : els.map (·.1) = v0 :: vl) {a : Int} (ha : v0.nodes = [a]) :
    ∃ g cc b c, v = .slice (some ⟨g, 0, none⟩) els.length cc ∧ w.cell? ⟨g, 4, none⟩ = some (.slice (some ⟨b, 0, none⟩) 1 c) ∧ (0 : Int) < (els.length : Int) := by
  cases els with
  | nil => simp at he
  | cons x l =>
    simp at he
    obtain ⟨g, cc, hv, hgc⟩ := h.cells (j := 0) (x := x) rfl
    have d4 := hgc 4 _ rfl
    rw [Nat.zero_mul, Nat.zero_add, he.1, ha, List.length_singleton] at d4
    exact ⟨g, cc, _, _, hv, d4, by simp⟩
def LeastRel (pss : List (List (Int × SlotS))) (w : World) (k : Nat) (n i : Value) (wr : World) : Prop :=
  ∃ j : Nat, j ≤ pss.length ∧ i = .int .i64 (j : Int) ∧ k = pss.length - j ∧ n = .int .i64 (leastL pss j) ∧ Only [] w wr
set_option maxRecDepth 100000 in
set_option maxHeartbeats 3200000 in
theorem least_any (w : World) (Y : StoreL) (ed : Option Nat) (D : Nat → List Nat) (X : StoreS) (h : StoreIn w Y ed D X) (pss : List (List (Int × SlotS))) (ha : Audits X pss) :
    Calls Tryz.prog 22 #[ptr Y.sb] w fun e w' => e = .returned (.int .i64 (leastL pss pss.length)) ∧ Only [] w w' := by
  have hlo := looks_any w Y ed D X h ha.slots ha.gens
  have hn : Y.n = pss.length := by rw [ha.n, h.chains]
  have hpt := fun W (ho : Only [] w W) => getParts W Y (h.new ho).fixed
  rw [hn] at hpt
  have hno := h.ok.n
  rw [hn] at hno
  have hvers := ha.vers
  have H := Lib.hid h; have HV := Lib.hid hvers; have HPT := Lib.hid hpt; have HNO := Lib.hid hno
  unfold ptr at *
  clear h ha hn hpt hno hvers
  go_enter Tryz.func22, Tryz.ntmps22
  go_wp2_with (first | (go_at_call 55; refine hlo.mono ?_; rintro e w1 ⟨lk, b, c, rfl, hl1, hg1, hg2, ho1⟩; have HL1 := Lib.hid hl1; have HO1 := Lib.hid ho1; clear hl1 hg1 hg2 ho1) | (go_at_call 12; refine (HPT.out _ HO1.out).mono ?_; rintro e w1 ⟨rfl, rfl⟩))
  go_loopg [4, 11] pss.length (fun k n i wr => LeastRel pss w1 k n i wr)
  case atStart => exact ⟨0, by omega, rfl, by omega, rfl, Only.refl _ _⟩
  case round =>
    obtain ⟨j, hj, rfl, rfl, rfl, hor⟩ := hrel
    have HOR := Lib.hid hor
    obtain ⟨hno1, hno2⟩ := HNO.out
    have hlb := leastL_le pss j
    by_cases hjn : j < pss.length
    · obtain ⟨gk2, hgk⟩ : ∃ gk2, pss.length - j = gk2 + 1 := ⟨pss.length - j - 1, by omega⟩
      have hpj : pss[j]? = some pss[j] := List.getElem?_eq_getElem hjn
      have hpv : partV pss j = pss[j].map (verOf j) := by unfold partV; rw [hpj]; rfl
      generalize pss[j] = ps at hpj hpv
      obtain ⟨C, hC, hcv, hlf, hpl⟩ := HV.out j ps hpj
      have hvs := versionsOf_any wr Y ed D X (H.out.new (HO1.out.trans hor)) lk b c (HL1.out.only hor (by simp) (by simp)) j C hC ps hcv hlf hpl
      rw [← hpv] at hvs
      have hlsc := Lib.hid (leastL_succ pss j)
      have hj0 : (0 : Int) ≤ (j : Int) := by omega
      have hj1 : (j : Int) < (pss.length : Int) := by omega
      have HGK := Lib.hid hgk; have HJN := Lib.hid hjn
      unfold NewVers ptr at hvs
      cases hpe : partV pss j with
      | nil =>
        rw [hpe] at hvs hlsc
        clear hpj hcv hlf hpl hC hgk hjn hor hpv hpe
        go_wp2_with (go_at_call 62; refine hvs.mono ?_; rintro e w2 ⟨v2, els2, rfl, he2, hr2, ho2⟩; have hnil : els2 = [] := (by simpa using he2); subst hnil; obtain ⟨A2, cc2, rfl, _, _⟩ := row_of_own hr2.own; have HO2 := Lib.hid ho2; clear he2 hr2 ho2)
        go_roundg gk2
        case measure => have := HGK.out; omega
        case rel =>
          have hjl := HJN.out
          have hg := HGK.out
          exact ⟨j + 1, by omega, by first | (rw [IntWalk.wrap64_in ((j : Int) + 1) (by omega)]; rfl) | rfl, by omega, by rw [hlsc.out]; simp [leastOf], HOR.out.trans HO2.out⟩
      | cons v0 vl =>
        have hv0 : ∃ a, v0.nodes = [a] := by
          have hm : v0 ∈ partV pss j := by rw [hpe]; simp
          obtain ⟨p, _, rfl⟩ := List.mem_map.1 hm
          exact ⟨_, rfl⟩
        obtain ⟨a, hv0⟩ := hv0
        rw [hpe] at hvs hlsc
        clear hpj hcv hlf hpl hC hgk hjn hor hpv hpe
        go_wp2_with (go_at_call 62; refine hvs.mono ?_; rintro e w2 ⟨v2, els2, rfl, he2, hr2, ho2⟩; obtain ⟨g, cc, gb, gc, rfl, d4, hln⟩ := vrow_head hr2 he2 hv0; generalize els2.length = ln at hln; have HO2 := Lib.hid ho2; clear he2 hr2 ho2)
        go_roundg gk2
        case measure => have := HGK.out; omega
        case rel =>
          have hjl := HJN.out
          have hg := HGK.out
          exact ⟨j + 1, by omega, by first | (rw [IntWalk.wrap64_in ((j : Int) + 1) (by omega)]; rfl) | rfl, by omega, by rw [hlsc.out]; simp [leastOf, hv0], HOR.out.trans HO2.out⟩
    · have hje : j = pss.length := by omega
      subst hje
      clear hor
      go_wp2_with fail
      go_ret
      exact ⟨rfl, HO1.out.trans HOR.out⟩
theorem fieldOther (a b c d e : Int) (W : World) : (Instr.field 25 (.agg #[.int .i64 a, .int .i64 b, .int .i64 c, .int .i64 d, .int .i64 e]) 4).run Tryz.prog W = .ok (.int .i64 e) W := by kernel_rfl
theorem rest1_any (w : World) : Calls Tryz.prog 69 #[.int .i64 0] w fun e w' => e = .returned (.bool false) ∧ w' = w := by
  go_enter Tryz.func69, Tryz.ntmps69
  go_wp2_with fail
  go_ret
  exact ⟨rfl, rfl⟩
def IzRel (n : Nat) (w : World) (k : Nat) (i : Value) (wr : World) : Prop := ∃ j : Nat, j ≤ n ∧ i = .int .i64 (j : Int) ∧ k = n - j ∧ wr = w
set_option maxRecDepth 100000 in
theorem indexZeros (w : World) (n : Nat) (A : Option Addr) (c : Nat) (hr : Row w A (ints (List.replicate n 0))) (hn : n ≤ 1000) :
    Calls Tryz.prog 125 #[.slice A n c, .func (.func 69) #[] #[]] w fun e w' => e = .returned (.int .i64 (-1)) ∧ w' = w := by
  have HR := Lib.hid hr
  have h1 := fun W => rest1_any W
  have H1 := Lib.hid h1
  clear hr h1
  go_enter Tryz.func125, Tryz.ntmps125
  go_wp2_with fail
  go_loopg [8] n (fun k i wr => IzRel n w k i wr)
  case atStart => exact ⟨0, by omega, rfl, by omega, rfl⟩
  case round =>
    obtain ⟨j, hj, rfl, rfl, rfl⟩ := hrel
    by_cases hjn : j < n
    · obtain ⟨gk2, hgk⟩ : ∃ gk2, n - j = gk2 + 1 := ⟨n - j - 1, by omega⟩
      obtain ⟨b, off, hA, hc⟩ := HR.out j (.int .i64 0) (by simp [ints, hjn])
      subst hA
      have hj0 : (0 : Int) ≤ (j : Int) := by omega
      have hj1 : (j : Int) < (n : Int) := by omega
      have HGK := Lib.hid hgk; have HJN := Lib.hid hjn
      clear hgk hjn
      go_wp2_with (go_at_call 69; refine (H1.out _).mono ?_; rintro e w' ⟨rfl, rfl⟩)
      go_roundg gk2
      case measure => have := HGK.out; omega
      case rel =>
        have hjl := HJN.out
        have hg := HGK.out
        exact ⟨j + 1, by omega, by first | (rw [IntWalk.wrap64_in ((j : Int) + 1) (by omega)]; rfl) | rfl, by omega, rfl⟩
    · have hje : j = n := by omega
      subst hje
      go_wp2_with fail
      go_ret
      exact ⟨rfl, rfl⟩
theorem containsZeros (w : World) (n : Nat) (A : Option Addr) (c : Nat) (hr : Row w A (ints (List.replicate n 0))) (hn : n ≤ 1000) :
    Calls Tryz.prog 68 #[.slice A n c, .func (.func 69) #[] #[]] w fun e w' => e = .returned (.bool false) ∧ w' = w := by
  have hi := indexZeros w n A c hr hn
  clear hr
  go_enter Tryz.func68, Tryz.ntmps68
  go_wp2_with (go_at_call 125; refine hi.mono ?_; rintro e w' ⟨rfl, rfl⟩)
  go_ret
  exact ⟨by simp, rfl⟩
/-- what Rest tells, where nothing waits and no lease is taken. -/
def restL (pss : List (List (Int × SlotS))) (us : List UseS) : Bool := pss.all (fun ps => decide (ps.length ≤ 1)) && decide (cnt 5 us = 0)
def RsRel (pss : List (List (Int × SlotS))) (w : World) (k : Nat) (i : Value) (wr : World) : Prop :=
  ∃ j : Nat, j ≤ pss.length ∧ i = .int .i64 (j : Int) ∧ k = pss.length - j ∧ (pss.take j).all (fun ps => decide (ps.length ≤ 1)) = true ∧ Only [] w wr
set_option maxRecDepth 100000 in
set_option maxHeartbeats 3200000 in
theorem rest_any (w : World) (Y : StoreL) (ed : Option Nat) (D : Nat → List Nat) (X : StoreS) (h : StoreIn w Y ed D X) (pss : List (List (Int × SlotS))) (ha : Audits X pss) (hwt : X.epoch.list = []) (n : Nat) (hls : X.clock.leases = List.replicate n 0) (hn64 : n ≤ 64)
    (free : List Int) (hf : X.pool.places = some free) (hfl : free.length ≤ 5000) (hf64 : ∀ k ∈ free, In64 k) (hz : 0 ∉ (claimsOf (allV pss pss.length) X.epoch.list).map (·.1)) :
    Calls Tryz.prog 23 #[ptr Y.sb] w fun e w' => e = .returned (.bool (restL pss (usesFrom free (claimsOf (allV pss pss.length) X.epoch.list) (X.pool.slots.drop 1)))) ∧ Only [] w w' := by
  have hus := fun W (ho : Only [] w W) => uses_any W Y ed D X (h.new ho) pss ha free hf hfl hf64 hz
  have hul : (usesFrom free (claimsOf (allV pss pss.length) X.epoch.list) (X.pool.slots.drop 1)).length ≤ 4096 := by have := h.pool.most; simp [usesFrom]; omega
  have hn : Y.n = pss.length := by rw [ha.n, h.chains]
  have hep := fun W (ho : Only [] w W) => getEpoch W Y (h.new ho).fixed
  have hats := fun W (ho : Only [] w W) => at_all W Y.eb Y.pool.pb Y.base ed X.epoch (h.new ho).epoch ha.at0
  rw [ha.workers] at hats
  have hw0 := fun W (ho : Only [] w W) => waiting0 W Y.eb Y.pool.pb Y.base ed X.epoch (h.new ho).epoch (by rw [hwt]; simp)
  rw [hwt] at hw0
  have hw1 := fun W (ho : Only [] w W) => waitingK W Y.eb Y.pool.pb Y.base ed X.epoch (h.new ho).epoch 1 (by omega) (by rw [ha.workers]; omega)
  have hck := fun W (ho : Only [] w W) => getClock W Y (h.new ho).fixed
  have hlc := fun W (ho : Only [] w W) => clockLeases W Y.clock X.clock (h.new ho).clock
  rw [hls] at hlc
  have hpt := fun W (ho : Only [] w W) => getParts W Y (h.new ho).fixed
  rw [hn] at hpt
  have hno := h.ok.n
  rw [hn] at hno
  have hvs : ∀ W, Only [] w W → ∀ (j : Nat) ps, pss[j]? = some ps → Calls Tryz.prog 63 #[ptr Y.sb, .int .i64 (j : Int)] W (fun e w' => e = .returned (ptr (Y.chain j).xb) ∧ w' = W) ∧ Calls Tryz.prog 70 #[ptr (Y.chain j).xb] W (NewInts (ps.map (·.1)) W) := fun W ho j ps hps => by
    obtain ⟨C, hC, hcv, hlf, hpl⟩ := ha.vers j ps hps
    have hj : j < Y.n := by rw [hn]; exact (List.getElem?_eq_some_iff.1 hps).1
    refine ⟨getChain W Y (h.new ho).fixed j hj, ?_⟩
    rw [← hcv]
    exact versions_any W (Y.chain j) Y.pool X.pool Y.clock.cb Y.base (D j) C (h.new ho).pool ((h.new ho).chain j C hC) h.slots
  have hpl : ∀ (j : Nat) ps, pss[j]? = some ps → ps.length ≤ 4096 := fun j ps hps => by
    obtain ⟨C, hC, hcv, hlf, hpl⟩ := ha.vers j ps hps
    exact hpl
  generalize usesFrom free (claimsOf (allV pss pss.length) X.epoch.list) (X.pool.slots.drop 1) = us at *
  have HUS := Lib.hid hus; have HUL := Lib.hid hul; have HEP := Lib.hid hep; have HATS := Lib.hid hats; have HW0 := Lib.hid hw0; have HW1 := Lib.hid hw1; have HCK := Lib.hid hck; have HLC := Lib.hid hlc; have HPT := Lib.hid hpt; have HNO := Lib.hid hno; have HVS := Lib.hid hvs; have HPL := Lib.hid hpl
  unfold NewUses at HUS
  unfold NewInts at HATS HW0 HW1 HLC HVS
  unfold ptr at *
  clear h ha hwt hls hf hfl hf64 hz hus hul hn hep hats hw0 hw1 hck hlc hpt hno hvs hpl
  go_enter Tryz.func23, Tryz.ntmps23
  go_wp2_with (first | (go_at_call 65; refine (HEP.out w (Only.refl _ _)).mono ?_; rintro e w ⟨rfl, rfl⟩) | (go_at_call 66; refine (HATS.out w (Only.refl _ _)).mono ?_; rintro e w1 ⟨sv1, rfl, hown1, ho1⟩; obtain ⟨A1, c1, rfl, hr1, _⟩ := row_of_own hown1; rw [List.length_replicate]; obtain ⟨b1, o1, hA1, x0⟩ := hr1 0 (.int .i64 0) rfl; subst hA1; obtain ⟨b2, o2, hA2, x1⟩ := hr1 1 (.int .i64 0) rfl; injection hA2 with hA2; injection hA2 with hA2 hA3; subst hA2 hA3; rw [Nat.add_zero] at x0; have HO1 := Lib.hid ho1; clear ho1 hown1 hr1))
  refine wp_loop_rounds 3 ?_
  rw [rounds_succ]
  go_wp2_with (first | (go_at_call 65; refine (HEP.out w1 HO1.out).mono ?_; rintro e w1 ⟨rfl, rfl⟩) | (go_at_call 67; refine (HW0.out w1 HO1.out).mono ?_; rintro e w2 ⟨sv2, rfl, hown2, ho2⟩; obtain ⟨A2, c2, rfl, _, _⟩ := row_of_own hown2; rw [List.length_map]; have x1 := cell_only ho2 x1 (by simp); have HO2 := Lib.hid (HO1.out.trans ho2); clear ho2 hown2))
  rw [rounds_succ]
  go_wp2_with (first | (go_at_call 65; refine (HEP.out w2 HO2.out).mono ?_; rintro e w2 ⟨rfl, rfl⟩) | (go_at_call 67; refine (HW1.out w2 HO2.out).mono ?_; rintro e w3 ⟨sv3, rfl, hown3, ho3⟩; obtain ⟨A3, c3, rfl, _, _⟩ := row_of_own hown3; have HO3 := Lib.hid (HO2.out.trans ho3); clear ho3 hown3))
  rw [rounds_succ]
  go_wp2_with (first | (go_at_call 59; refine (HCK.out w3 HO3.out).mono ?_; rintro e w3 ⟨rfl, rfl⟩) | (go_at_call 61; refine (HLC.out w3 HO3.out).mono ?_; rintro e w4 ⟨sv4, rfl, hown4, ho4⟩; obtain ⟨A4, c4, rfl, hr4, _⟩ := row_of_own hown4; rw [List.length_replicate]; have HR4 := Lib.hid hr4; have HO4 := Lib.hid (HO3.out.trans ho4); clear ho4 hown4 hr4) | (go_at_call 68; refine (containsZeros w4 n A4 c4 HR4.out (by omega)).mono ?_; rintro e w4 ⟨rfl, rfl⟩) | (go_at_call 12; refine (HPT.out w4 HO4.out).mono ?_; rintro e w4 ⟨rfl, rfl⟩))
  go_loopg [32] pss.length (fun k i wr => RsRel pss w4 k i wr)
  case atStart => exact ⟨0, by omega, rfl, by omega, rfl, Only.refl _ _⟩
  case round =>
    obtain ⟨j, hj, rfl, rfl, hal, hor⟩ := hrel
    have HAL := Lib.hid hal; have HOR := Lib.hid hor
    obtain ⟨hno1, hno2⟩ := HNO.out
    by_cases hjn : j < pss.length
    · obtain ⟨gk2, hgk⟩ : ∃ gk2, pss.length - j = gk2 + 1 := ⟨pss.length - j - 1, by omega⟩
      have hpj : pss[j]? = some pss[j] := List.getElem?_eq_getElem hjn
      generalize pss[j] = ps at hpj
      obtain ⟨hch, hvs⟩ := HVS.out wr (HO4.out.trans hor) j ps hpj
      have hpl := HPL.out j ps hpj
      have hj0 : (0 : Int) ≤ (j : Int) := by omega
      have hj1 : (j : Int) < (pss.length : Int) := by omega
      have HPJ := Lib.hid hpj; have HGK := Lib.hid hgk; have HJN := Lib.hid hjn
      clear hpj hgk hjn hor hal
      by_cases hone : ps.length ≤ 1
      · have hq : ¬ ((1 : Int) < (ps.length : Int)) := by omega
        have HONE := Lib.hid hone
        clear hone
        go_wp2_with (first | (go_at_call 63; refine hch.mono ?_; rintro e wr ⟨rfl, rfl⟩) | (go_at_call 70; refine hvs.mono ?_; rintro e w5 ⟨sv5, rfl, hown5, ho5⟩; obtain ⟨A5, c5, rfl, _, _⟩ := row_of_own hown5; rw [List.length_map]; have HO5 := Lib.hid ho5; clear ho5 hown5))
        go_roundg gk2
        case measure => have := HGK.out; omega
        case rel =>
          have hjl := HJN.out
          have hg := HGK.out
          exact ⟨j + 1, by omega, by first | (rw [IntWalk.wrap64_in ((j : Int) + 1) (by omega)]; rfl) | rfl, by omega, by rw [take_snoc HPJ.out, List.all_append, HAL.out]; simp [HONE.out], HOR.out.trans HO5.out⟩
      · have hq : (1 : Int) < (ps.length : Int) := by omega
        have HONE := Lib.hid hone
        clear hone
        go_wp2_with (first | (go_at_call 63; refine hch.mono ?_; rintro e wr ⟨rfl, rfl⟩) | (go_at_call 70; refine hvs.mono ?_; rintro e w5 ⟨sv5, rfl, hown5, ho5⟩; obtain ⟨A5, c5, rfl, _, _⟩ := row_of_own hown5; rw [List.length_map]; have HO5 := Lib.hid ho5; clear ho5 hown5))
        go_ret
        refine ⟨?_, (HO4.out.trans HOR.out).trans HO5.out⟩
        have h1 : pss.all (fun ps => decide (ps.length ≤ 1)) = false := by
          rw [Bool.eq_false_iff]
          intro hall
          have := List.all_eq_true.1 hall ps (List.mem_of_getElem? HPJ.out)
          exact HONE.out (by simpa using this)
        simp [restL, h1]
    · have hje : j = pss.length := by omega
      subst hje
      rw [List.take_length] at hal
      have HAL := Lib.hid hal
      have hsu := fun W A c hr => sums_any W us A c (by have := HUL.out; omega) hr
      have HSU := Lib.hid hsu
      unfold sumsV at HSU
      have hfo := fieldOther (cnt 1 us) (cnt 2 us) (cnt 3 us) (cnt 4 us) (cnt 5 us)
      clear hor hal hsu
      go_wp2_with (first | (go_at_call 19; refine (HUS.out wr (HO4.out.trans HOR.out)).mono ?_; rintro e w5 ⟨sv5, rfl, hown5, ho5⟩; obtain ⟨A5, c5, rfl, hr5, _⟩ := row_of_own hown5; have HR5 := Lib.hid hr5; have HO5 := Lib.hid ho5; clear ho5 hown5 hr5) | (go_at_call 6; refine (HSU.out w5 A5 c5 HR5.out).mono ?_; rintro e w6 ⟨rfl, ho6⟩; have HO6 := Lib.hid ho6; clear ho6))
      go_ret
      refine ⟨?_, ((HO4.out.trans HOR.out).trans HO5.out).trans HO6.out⟩
      simp only [restL, HAL.out, Bool.true_and]
      by_cases h5 : cnt 5 us = 0 <;> simp [h5]
end Go.Proofs.YteeefedoffplmaaGreat
