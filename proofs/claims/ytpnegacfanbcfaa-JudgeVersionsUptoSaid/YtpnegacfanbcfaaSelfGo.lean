/- (*history).self: an event that is right, has ended and is no snapshot. -/
import Derived.Test.YtpnegacfanbcfaaSelf
import Derived.Test.YtpnegacfanbcfaaWr
namespace Go.Proofs.Ytpnegacfanbcfaa
open Go.RowKit Go.Maps

theorem isB_go {a : Ev} {parts : Nat} (h : isB a parts = true) (he : a.end_ ≠ 0) (hk : a.kind ≠ 4) : 0 ≤ a.part ∧ a.part < parts ∧ 1 ≤ a.number ∧ (a.kind = 2 → 2 ≤ a.number) := by
  unfold isB writesB at h
  simp only [Bool.and_eq_true, decide_eq_true_eq, Bool.or_eq_true, beq_iff_eq] at h
  obtain ⟨_, _, _, h1, h2, _, h3⟩ := h
  rcases h3 with h3 | h3
  · exact absurd h3 he
  · rw [if_neg hk] at h3
    split at h3
    · rw [decide_eq_true_eq] at h3
      exact ⟨h1, h2, by omega, fun _ => h3⟩
    · rename_i hw
      rw [decide_eq_true_eq] at h3
      exact ⟨h1, h2, h3, fun h => absurd (Or.inl h) hw⟩

attribute [-go_sem] loadCellsFrom
set_option maxRecDepth 100000 in
set_option maxHeartbeats 2000000 in
theorem selfGo (l : List Ev) (starts : List (List (Int × Int))) (B H : Nat) (lA : Option Addr) (lc : Nat) (rv tv bv ov : Value) (outs : List Blm) (i : Nat) (a : Ev) (w0 w : World) (hh : HSt l B H lA lc rv tv bv ov outs w) (hv : VEnv l starts B rv tv bv w0 w) (hn : outs.length ≤ 2000000)
    (hrow : Row w lA (evCells l)) (ha : l[i]? = some a) (_hl : l.length ≤ 1024) (_hsl : starts.length ≤ 64) (hr : isB a starts.length = true) (he : a.end_ ≠ 0) (hk : a.kind ≠ 4) (hok : a.Ok) (htl : ∀ p, (toldAt l starts p).length ≤ 1026) :
    Calls Try.prog 41 #[.pointer (some ⟨H, 0, none⟩), .int .i64 (i : Int)] w (SelfPost l B H lA lc rv tv bv (outs ++ selfL l starts i a) w) := by
  have hil : i < l.length := (List.getElem?_eq_some_iff.1 ha).1
  obtain ⟨hp0, hp1, hn1, hn2⟩ := isB_go hr he hk
  obtain ⟨pn, hpn⟩ : ∃ pn : Nat, a.part = pn := ⟨a.part.toNat, by omega⟩
  obtain ⟨nn, hnn⟩ : ∃ nn : Nat, a.number = nn := ⟨a.number.toNat, by omega⟩
  have hpl : pn < starts.length := by omega
  have hni : (nn : Int) ≤ 9223372036854775807 := by have := hok.number.2; omega
  have hn1' : 1 ≤ nn := by omega
  have hpt : a.part.toNat = pn := by omega
  obtain ⟨b0, off, hA, hld⟩ := load_ev hrow ha
  obtain ⟨rA, rc, hrv, hrr⟩ := hv.right
  obtain ⟨r0, roff, hrA, hrc⟩ := hrr i (.bool (isB a starts.length)) (by simp [rightCells, ha])
  obtain ⟨tA, tc, t1, tc1, bs, htv, ⟨tb, toff, htA, htcell⟩, htell⟩ := hv.told hpl
  have hbl := htell.len
  obtain ⟨zA, zc, hbv, zb, zoff, hzA, hzcell⟩ := hv.busy hpl
  rw [hr] at hrc
  subst hA
  subst hrA
  subst htA
  subst hzA
  have hb1 : Below w.heap.size w (w.alloc (.cells a.arr 52)) := (Below.refl _ _).alloc (Nat.le_refl _) _
  have hst1 := hh.below hb1
  have c0 : w.cell? ⟨H, 0, none⟩ = some (.slice (some ⟨b0, off, none⟩) l.length lc) := cell_of_row _ _ _ _ _ _ hh.x
  have c1 : (w.alloc (.cells a.arr 52)).cell? ⟨H, 1, none⟩ = some (.slice (some ⟨r0, roff, none⟩) l.length rc) := by rw [← hrv]; exact cell_of_row _ _ _ _ _ _ hst1.x
  have c1' : (w.alloc (.cells a.arr 52)).cell? ⟨r0, roff + i, none⟩ = some (.bool true) := cell_below hb1 _ _ hrc
  have htl1 := htl pn
  generalize htq : (toldAt l starts pn).length = tl at *
  have HEQ : Hid (selfL l starts i a = selfA l starts i a ++ selfC l starts i a) := by simp [Hid, selfL, hr, he, hk]
  have HEA : Hid (selfA l starts i a = if (decide (tl < nn) && !busyB l starts.length pn) = true then [⟨i, -1, 3⟩] else []) := by
    simp only [Hid, selfA, hpn, Int.toNat_natCast, htq, hnn]
    congr 3
    rw [decide_eq_decide]
    omega
  have hBw := Nat.le_trans hh.hB (Nat.le_of_lt hh.lt)
  have he0 : (a.end_ == 0) = false := by simpa using he
  have hk4 : (a.kind == 4) = false := by simpa using hk
  have HB1 := Lib.hid hb1; have HST1 := Lib.hid hst1; have HN := Lib.hid hn; have HV := Lib.hid hv; have HOK := Lib.hid hok; have HK := Lib.hid hk; have HN2 := Lib.hid hn2; have HPN := Lib.hid hpn; have HNN := Lib.hid hnn; have HTC := Lib.hid htcell; have HTELL := Lib.hid htell; have HHX0 := Lib.hid hh.x; have HBL := Lib.hid hbl; have HZC := Lib.hid hzcell; have HTV := Lib.hid htv; have HBV := Lib.hid hbv; have HTQ := Lib.hid htq; have HPT := Lib.hid hpt
  unfold Ev.arr at c1 c1' hld
  clear hh hv hn hrow ha hr hrv hrr hrc hb1 hst1 hok hk hn2 hpn hnn htcell htell hbl hzcell htv hbv htq hpt hp0 hp1 hn1 htl he
  go_enter Try.func41, Try.ntmps41
  go_wp2_with fail
  obtain ⟨W, hW⟩ : ∃ W, W = w.alloc (.cells a.arr 52) := ⟨_, rfl⟩
  unfold Ev.arr at hW
  rw [← hW]
  have hbW : Below w.heap.size w W := by rw [hW]; exact HB1.out
  have hP : W.heap[w.heap.size]? = some (.cells a.arr 52 (0, 0)) := by rw [hW]; exact heap_alloc_new w _
  have hst := HST1.out
  have hst : HSt l B H (some ⟨b0, off, none⟩) lc rv tv bv ov outs W := by rw [hW]; exact hst
  have d2 : W.cell? ⟨H, 2, none⟩ = some (.slice (some ⟨tb, toff, none⟩) starts.length tc) := by rw [← HTV.out]; exact cell_of_row _ _ _ _ _ _ hst.x
  have d2' : W.cell? ⟨tb, toff + pn, none⟩ = some (.slice t1 tl tc1) := cell_below hbW _ _ HTC.out
  have n4 : W.cell? ⟨w.heap.size, 4, none⟩ = some (.int .i64 (pn : Int)) := by rw [← HPN.out]; exact cell_of_row _ _ _ _ _ _ hP
  have n6 : W.cell? ⟨w.heap.size, 6, none⟩ = some (.int .i64 (nn : Int)) := by rw [← HNN.out]; exact cell_of_row _ _ _ _ _ _ hP
  have d3 : W.cell? ⟨H, 3, none⟩ = some (.slice (some ⟨zb, zoff, none⟩) starts.length zc) := by rw [← HBV.out]; exact cell_of_row _ _ _ _ _ _ hst.x
  have d3' : W.cell? ⟨zb, zoff + pn, none⟩ = some (.bool (busyB l starts.length pn)) := cell_below hbW _ _ HZC.out
  have hpl' : (pn : Int) < starts.length := by omega
  have hstdd := fun n m => (hst.below (below_drewN (Below.refl W.heap.size W) n)).below (below_drewN (Below.refl (W.drewN n).heap.size (W.drewN n)) m)
  have HSTDD := Lib.hid hstdd; clear hstdd
  have hstd := fun n => hst.below (below_drewN (Below.refl W.heap.size W) n)
  have HSTD := Lib.hid hstd; have HHX := Lib.hid hst.x; have HBW := Lib.hid hbW; have HPB := Lib.hid hP; have HW := Lib.hid hW
  clear hstd hbW hP hst hW c0 c1 c1' hld
  go_quiet (fail)
  by_cases hgt : tl < nn
  all_goals
    have hgt' : decide ((tl : Int) < (nn : Int)) = decide (tl < nn) := by rw [decide_eq_decide]; omega
    go_wp2_with fail
    go_quiet (fail)
    clear hgt'
    go_upto_if 59 with fail
    go_cut [] (fun wc => SelfRel l B H (some ⟨b0, off, none⟩) lc rv tv bv (outs ++ selfA l starts i a) a w.heap.size w wc)
    case first =>
      go_wp2_with (go_at_call 68; refine (judgeBlame l B H _ lc rv tv bv ov outs i (-1) 3 _ (by first | (with_reducible exact HSTD.out _) | (with_reducible exact HSTDD.out _ _)) (by have := HN.out; omega)).mono ?_; rintro e1 w1 ⟨rfl, hk1, hst1⟩; have HK1 := Lib.hid hk1; have HST2 := Lib.hid hst1; clear hk1 hst1)
      all_goals
        go_meet
        first
          | (have EQ : selfA l starts i a = [⟨i, -1, 3⟩] := by
               rw [HEA.out]
               go_tidy
               grind
             rw [EQ]
             exact ⟨HST2.out, (Keeps.of_below (below_drewN HBW.out _) hBw).trans HK1.out, (Keeps.of_below (below_drewN (Below.refl _ _) _) (Nat.le_trans hBw HBW.out.size)).trans HK1.out |>.ev HPB.out HHX.out⟩)
          | (have EQ : selfA l starts i a = [] := by
               rw [HEA.out]
               go_tidy
               grind
             rw [EQ, List.append_nil]
             exact ⟨⟨ov, by first | (with_reducible exact HSTD.out _) | (with_reducible exact HSTDD.out _ _)⟩, Keeps.of_below (by first | (with_reducible exact below_drewN HBW.out _) | (with_reducible exact below_drewN (below_drewN HBW.out _) _)) hBw, HPB.out⟩)
    case rest =>
      obtain ⟨⟨ov2, hst2⟩, hk2, hP2⟩ := hcut
      obtain ⟨V, hVE⟩ : ∃ V, V = wc := ⟨_, rfl⟩
      subst hVE
      clear d2 d2' n4 n6 d3 d3'
      have p3 : V.cell? ⟨w.heap.size, 3, none⟩ = some (.int .i64 a.kind) := cell_of_row _ _ _ _ _ _ hP2
      have p5 : V.cell? ⟨w.heap.size, 5, none⟩ = some (.int .i64 a.key) := cell_of_row _ _ _ _ _ _ hP2
      have p7 : V.cell? ⟨w.heap.size, 7, none⟩ = some (.bool a.had) := cell_of_row _ _ _ _ _ _ hP2
      have p8 : V.cell? ⟨w.heap.size, 8, none⟩ = some (.int .i64 a.value) := cell_of_row _ _ _ _ _ _ hP2
      have hs2d := fun n => hst2.below (below_drewN (Below.refl V.heap.size V) n)
      have HLA : Hid ((selfA l starts i a).length ≤ 1) := by simp only [Hid]; rw [HEA.out]; exact len_ite1 _ _
      have HTK : Hid (∀ (j : Nat) b t, bs[j]? = some b → (toldAt l starts pn)[j]? = some t → ∃ _ : True, MapIs Try.prog 3 (Value.int .i64 ·) V b (tabV t) ∧ ∃ mb moff, t1 = some ⟨mb, moff, none⟩ ∧ V.cell? ⟨mb, moff + j, none⟩ = some (.map (some b))) := by
        intro j b t h1 h2
        have ht2 := HTELL.out.keeps hk2 ⟨_, HHX0.out⟩
        have ho2 := ht2.own
        rw [HTQ.out] at ho2
        obtain ⟨mb, moff, hmA, hmc⟩ := (row_of_own' ho2).1 j (.map (some b)) (by simp [mapCells, h1])
        exact ⟨trivial, (ht2.ms j b t h1 h2).2, mb, moff, hmA, hmc⟩
      have HS2 := Lib.hid hst2; have HK2 := Lib.hid hk2; have HP2 := Lib.hid hP2; have HS2D := Lib.hid hs2d
      clear hst2 hk2 hP2 hs2d
      by_cases hkw : a.kind = 2
      · have hkb : (a.kind == 2) = true := by simp [hkw]
        have hkc : (a.kind == 5) = false := by simp [hkw]
        have hn2' : 2 ≤ nn := by have := HN2.out hkw; have := HNN.out; omega
        have HKW := Lib.hid hkw; have HK2' := Lib.hid hkw
        clear hkw
        by_cases hle : (tl : Int) < (nn : Int) - 1
        · try (exfalso; omega)
          all_goals
            have HC : Hid (selfC l starts i a = []) := by
              simp only [Hid, selfC, HPT.out, HTQ.out]
              rw [if_pos (.inl (by simp only [numOf, if_pos HKW.out, HNN.out]; exact hle))]
            go_wp2_with fail
            go_end0
            rw [HEQ.out, HC.out, List.append_nil]
            exact ⟨rfl, HK2.out, ov2, HS2.out⟩
        · try (exfalso; omega)
          all_goals
            have hle' : decide ((tl : Int) < (nn : Int) - 1) = false := by simpa using hle
            obtain ⟨idx, hidx⟩ : ∃ idx : Nat, nn = idx + 2 := ⟨nn - 2, by omega⟩
            have hil3 : idx < tl := by omega
            have hil2 : idx < bs.length := by have := HBL.out; omega
            obtain ⟨bb, hbb⟩ : ∃ bb, bs[idx]? = some bb := ⟨_, List.getElem?_eq_getElem hil2⟩
            obtain ⟨t, ht⟩ : ∃ t, (toldAt l starts pn)[idx]? = some t := ⟨_, List.getElem?_eq_getElem (by rw [HTQ.out]; exact hil3)⟩
            obtain ⟨cc, hmt, mb, moff, hmA, hmc⟩ := HTK.out idx bb t hbb ht
            have hkey := key3' HOK.out.key
            have hlk : ∀ n, (Instr.lookup 72 (.map (some bb)) (.int .i64 a.key) true).run Try.prog (V.drewN n) = .ok (.tuple #[.int .i64 (valueOf t a.key), .bool (t a.key).isSome]) (V.drewN n) := fun n => by
              have := MapIs.run_lookup (w := V.drewN n) hmt keyed3' int_enc_inj Try.underlying72 (z := .int .i64 0) (by kernel_rfl) true a.key hkey
              rw [this]
              simp only [tabV, if_true, valueOf]
              cases t a.key <;> rfl
            have HC : Hid (selfC l starts i a = if ((t a.key).isSome != a.had || valueOf t a.key != a.value) = true then [⟨i, -1, 4⟩] else []) := by
              have e1 : (toldAt l starts pn).getD idx tab0 = t := by simp [ht]
              have e2 : numOf a - 1 = (idx : Int) := by simp only [numOf, if_pos HKW.out, HNN.out]; omega
              have e3 : ¬ (((toldAt l starts pn).length : Int) < numOf a ∨ a.kind = 5) := by
                rw [HTQ.out]
                intro h
                rcases h with h | h
                · omega
                · first | exact HK5.out h | (have := HK2'.out; omega)
              simp only [Hid, selfC, HPT.out, e2, Int.toNat_natCast, e1, if_neg e3]
            have hsum : IntKind.i64.wrap ((nn : Int) - 1 - 1) = (idx : Int) := by rw [IntWalk.i64_in _ (by omega)]; omega
            have hidx0 : (0 : Int) ≤ idx := by omega
            have hidx1 : (idx : Int) < tl := by omega
            subst hmA
            have HIDX := Lib.hid hidx
            clear hbb ht hmt hkey hidx cc
            revert HC hlk
            generalize valueOf t a.key = vv
            generalize (t a.key).isSome = hd
            intro hlk HC
            go_wp2_with fail
            go_quiet (fail)
            clear hsum
            go_wp2_with (go_at_call 68; refine (judgeBlame l B H _ lc rv tv bv ov2 _ i (-1) 4 _ (by (with_reducible exact HS2D.out _)) (by have := HN.out; have := HLA.out; simp only [List.length_append]; omega)).mono ?_; rintro e1 w1 ⟨rfl, hk1, hst1⟩; have HK1 := Lib.hid hk1; have HST3 := Lib.hid hst1; clear hk1 hst1)
            all_goals
              go_end0
              rw [HEQ.out, ← List.append_assoc]
              first
                | (have EQ : selfC l starts i a = [⟨i, -1, 4⟩] := by
                     rw [HC.out]
                     go_tidy
                     grind
                   rw [EQ]
                   exact ⟨rfl, (HK2.out.trans (Keeps.of_below (below_drewN (Below.refl _ _) _) (Nat.le_trans hBw HK2.out.b.size))).trans HK1.out, HST3.out⟩)
                | (have EQ : selfC l starts i a = [] := by
                     rw [HC.out]
                     go_tidy
                     grind
                   rw [EQ, List.append_nil]
                   exact ⟨rfl, HK2.out.trans (Keeps.of_below (below_drewN (Below.refl _ _) _) (Nat.le_trans hBw HK2.out.b.size)), ov2, by (with_reducible exact HS2D.out _)⟩)
      · have hkb : (a.kind == 2) = false := by simpa using hkw
        have HKW := Lib.hid hkw
        clear hkw
        by_cases hk5 : a.kind = 5
        · have hkc : (a.kind == 5) = true := by simp [hk5]
          have HK5 := Lib.hid hk5
          clear hk5
          have HC : Hid (selfC l starts i a = []) := by
            simp only [Hid, selfC, HPT.out, HTQ.out]
            rw [if_pos (.inr HK5.out)]
          go_wp2_with fail
          go_end0
          rw [HEQ.out, HC.out, List.append_nil]
          exact ⟨rfl, HK2.out, ov2, HS2.out⟩
        · have hkc : (a.kind == 5) = false := by simpa using hk5
          have HK5 := Lib.hid hk5
          clear hk5
          by_cases hle : tl < nn
          · try (exfalso; omega)
            all_goals
              have HC : Hid (selfC l starts i a = []) := by
                simp only [Hid, selfC, HPT.out, HTQ.out]
                rw [if_pos (.inl (by simp only [numOf, if_neg HKW.out, HNN.out]; omega))]
              go_wp2_with fail
              go_end0
              rw [HEQ.out, HC.out, List.append_nil]
              exact ⟨rfl, HK2.out, ov2, HS2.out⟩
          · try (exfalso; omega)
            all_goals
              skip
              obtain ⟨idx, hidx⟩ : ∃ idx : Nat, nn = idx + 1 := ⟨nn - 1, by omega⟩
              have hil3 : idx < tl := by omega
              have hil2 : idx < bs.length := by have := HBL.out; omega
              obtain ⟨bb, hbb⟩ : ∃ bb, bs[idx]? = some bb := ⟨_, List.getElem?_eq_getElem hil2⟩
              obtain ⟨t, ht⟩ : ∃ t, (toldAt l starts pn)[idx]? = some t := ⟨_, List.getElem?_eq_getElem (by rw [HTQ.out]; exact hil3)⟩
              obtain ⟨cc, hmt, mb, moff, hmA, hmc⟩ := HTK.out idx bb t hbb ht
              have hkey := key3' HOK.out.key
              have hlk : ∀ n, (Instr.lookup 72 (.map (some bb)) (.int .i64 a.key) true).run Try.prog (V.drewN n) = .ok (.tuple #[.int .i64 (valueOf t a.key), .bool (t a.key).isSome]) (V.drewN n) := fun n => by
                have := MapIs.run_lookup (w := V.drewN n) hmt keyed3' int_enc_inj Try.underlying72 (z := .int .i64 0) (by kernel_rfl) true a.key hkey
                rw [this]
                simp only [tabV, if_true, valueOf]
                cases t a.key <;> rfl
              have HC : Hid (selfC l starts i a = if ((t a.key).isSome != a.had || valueOf t a.key != a.value) = true then [⟨i, -1, 4⟩] else []) := by
                have e1 : (toldAt l starts pn).getD idx tab0 = t := by simp [ht]
                have e2 : numOf a - 1 = (idx : Int) := by simp only [numOf, if_neg HKW.out, HNN.out]; omega
                have e3 : ¬ (((toldAt l starts pn).length : Int) < numOf a ∨ a.kind = 5) := by
                  rw [HTQ.out]
                  intro h
                  rcases h with h | h
                  · omega
                  · first | exact HK5.out h | (have := HK2'.out; omega)
                simp only [Hid, selfC, HPT.out, e2, Int.toNat_natCast, e1, if_neg e3]
              have hsum : IntKind.i64.wrap ((nn : Int) - 1) = (idx : Int) := by rw [IntWalk.i64_in _ (by omega)]; omega
              have hidx0 : (0 : Int) ≤ idx := by omega
              have hidx1 : (idx : Int) < tl := by omega
              subst hmA
              have HIDX := Lib.hid hidx
              clear hbb ht hmt hkey hidx cc
              revert HC hlk
              generalize valueOf t a.key = vv
              generalize (t a.key).isSome = hd
              intro hlk HC
              go_wp2_with fail
              go_quiet (fail)
              clear hsum
              go_wp2_with (go_at_call 68; refine (judgeBlame l B H _ lc rv tv bv ov2 _ i (-1) 4 _ (by (with_reducible exact HS2D.out _)) (by have := HN.out; have := HLA.out; simp only [List.length_append]; omega)).mono ?_; rintro e1 w1 ⟨rfl, hk1, hst1⟩; have HK1 := Lib.hid hk1; have HST3 := Lib.hid hst1; clear hk1 hst1)
              all_goals
                go_end0
                rw [HEQ.out, ← List.append_assoc]
                first
                  | (have EQ : selfC l starts i a = [⟨i, -1, 4⟩] := by
                       rw [HC.out]
                       go_tidy
                       grind
                     rw [EQ]
                     exact ⟨rfl, (HK2.out.trans (Keeps.of_below (below_drewN (Below.refl _ _) _) (Nat.le_trans hBw HK2.out.b.size))).trans HK1.out, HST3.out⟩)
                  | (have EQ : selfC l starts i a = [] := by
                       rw [HC.out]
                       go_tidy
                       grind
                     rw [EQ, List.append_nil]
                     exact ⟨rfl, HK2.out.trans (Keeps.of_below (below_drewN (Below.refl _ _) _) (Nat.le_trans hBw HK2.out.b.size)), ov2, by (with_reducible exact HS2D.out _)⟩)
end Go.Proofs.Ytpnegacfanbcfaa
