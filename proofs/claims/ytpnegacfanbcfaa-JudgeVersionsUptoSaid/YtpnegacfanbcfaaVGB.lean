/- The document's judge of versions: two events, neither a snapshot: the later one behind the other, no write. -/
import Derived.Test.YtpnegacfanbcfaaVGA
namespace Go.Proofs.Ytpnegacfanbcfaa
open Go.RowKit Go.Maps
attribute [-go_sem] loadCellsFrom

set_option maxRecDepth 100000 in
set_option maxHeartbeats 8000000 in
theorem pairNN_tyn (l : List Ev) (starts : List Tl) (w0 : World) (X : Nat) (lA : Option Addr) (lc : Nat) (tv ov : Value) (outs : List Blm) (i k : Nat) (a b : Ev) (w : World) (hh : RV2 l starts w0 X lA lc tv ov outs w) (hn : outs.length ≤ 2000000)
    (ha : l[i]? = some a) (hb : l[k]? = some b) (_hl : l.length ≤ 1024) (hka : ¬a.kind = 4) (hkb : ¬b.kind = 4) (HQ : Hid (a.part = b.part)) (HC : Hid (aheadB b.end_ a.begin_ = true)) (HK : Hid (k < i)) (HW : Hid (writesB a = false)) :
    Calls Try.prog 36 #[.pointer (some ⟨X, 0, none⟩), .int .i64 (i : Int), .int .i64 (k : Int)] w (PairPost l starts w0 X lA lc tv (outs ++ besideL i k a b) w) := by
  have hil : i < l.length := (List.getElem?_eq_some_iff.1 ha).1
  have hkl : k < l.length := (List.getElem?_eq_some_iff.1 hb).1
  have hrow := hh.hist.row
  obtain ⟨b0, off, hA, _⟩ := load_ev hrow ha
  have hx1 := hh.hist.ll
  rw [hA] at hx1
  have hltX := hh.lt
  have HIA := Lib.hid (hh.hist.evs a (List.mem_of_getElem? ha)); have HIB := Lib.hid (hh.hist.evs b (List.mem_of_getElem? hb))
  have la1 : (loadCellsFrom ⟨b0, off + i * 13, none⟩ 0 13 #[]).run Try.prog w.drew = .ok a.arr w.drew := Row.ev_at (w := w.drew) hrow ha _ _ hA
  have lb1 : (loadCellsFrom ⟨b0, off + k * 13, none⟩ 0 13 #[]).run Try.prog w.drew = .ok b.arr w.drew := Row.ev_at (w := w.drew) hrow hb _ _ hA
  have la2 : ∀ o, (loadCellsFrom ⟨b0, off + i * 13, none⟩ 0 13 #[]).run Try.prog (w.alloc o).drew = .ok a.arr (w.alloc o).drew := fun o => Row.ev_at (w := (w.alloc o).drew) (hrow.alloc o) ha _ _ hA
  have lb2 : ∀ o, (loadCellsFrom ⟨b0, off + k * 13, none⟩ 0 13 #[]).run Try.prog (w.alloc o).drew = .ok b.arr (w.alloc o).drew := fun o => Row.ev_at (w := (w.alloc o).drew) (hrow.alloc o) hb _ _ hA
  have la3 : ∀ o o', (loadCellsFrom ⟨b0, off + i * 13, none⟩ 0 13 #[]).run Try.prog ((w.alloc o).alloc o').drew = .ok a.arr ((w.alloc o).alloc o').drew := fun o o' => Row.ev_at (w := ((w.alloc o).alloc o').drew) ((hrow.alloc o).alloc o') ha _ _ hA
  have lb3 : ∀ o o', (loadCellsFrom ⟨b0, off + k * 13, none⟩ 0 13 #[]).run Try.prog ((w.alloc o).alloc o').drew = .ok b.arr ((w.alloc o).alloc o').drew := fun o o' => Row.ev_at (w := ((w.alloc o).alloc o').drew) ((hrow.alloc o).alloc o') hb _ _ hA
  unfold Ev.arr at la1 lb1 la2 lb2 la3 lb3
  have HH := Lib.hid hh; have HN := Lib.hid hn
  have HN0 : Hid (outs.length ≤ 3000000) := by show _ ≤ _; omega
  have HLN : Hid (∀ x : List Blm, x.length ≤ 2 → (outs ++ x).length ≤ 3000000) := fun x hx => by simp only [List.length_append]; omega
  clear hh hn hrow ha hb hA
  have hka' : (a.kind == 4) = false := by simpa using hka
  have hkb' : (b.kind == 4) = false := by simpa using hkb
  have HKA := Lib.hid hka; have HKB := Lib.hid hkb
  clear hka hkb
  go_enter Try.func36, Try.ntmps36
  go_upto_region 0 with fail
  go_cut [6, 7] (fun p q wc => TwoRel a b w p q wc)
  case first =>
    go_region
    · go_wp2_with fail
      go_meet
      exact ⟨_, _, rfl, rfl, heap_alloc2_old w (.cells a.arr 52) (.cells b.arr 52), heap_alloc2_new w (.cells a.arr 52) (.cells b.arr 52), (((Below.refl _ _).alloc (Nat.le_refl _) (.cells a.arr 52)).alloc (by simp) (.cells b.arr 52)).drew⟩
    · go_wp2_with fail
      go_meet
      exact ⟨_, _, rfl, rfl, heap_alloc2_new w (.cells b.arr 52) (.cells a.arr 52), heap_alloc2_old w (.cells b.arr 52) (.cells a.arr 52), (((Below.refl _ _).alloc (Nat.le_refl _) (.cells b.arr 52)).alloc (by simp) (.cells a.arr 52)).drew⟩
  case rest =>
    obtain ⟨p6, p7, rfl, rfl, h6, h7, hbw⟩ := hcut
    clear la1 lb1 la2 lb2 la3 lb3 hx1
    obtain ⟨W, hW⟩ : ∃ W : World, W = wc := ⟨_, rfl⟩
    subst hW
    have HP : Hid (PrRel l starts w0 X lA lc tv outs a b p6 p7 w W) := ⟨⟨ov, HH.out.below hbw⟩, Keeps.of_below hbw HH.out.b.size, h6, h7⟩
    have a1 : W.cell? ⟨p6, 1, none⟩ = some (.int .i64 a.begin_) := cell_of_row _ _ _ _ _ _ h6
    have a3 : W.cell? ⟨p6, 3, none⟩ = some (.int .i64 a.kind) := cell_of_row _ _ _ _ _ _ h6
    have a4 : W.cell? ⟨p6, 4, none⟩ = some (.int .i64 a.part) := cell_of_row _ _ _ _ _ _ h6
    have b2 : W.cell? ⟨p7, 2, none⟩ = some (.int .i64 b.end_) := cell_of_row _ _ _ _ _ _ h7
    have b3 : W.cell? ⟨p7, 3, none⟩ = some (.int .i64 b.kind) := cell_of_row _ _ _ _ _ _ h7
    have b4 : W.cell? ⟨p7, 4, none⟩ = some (.int .i64 b.part) := cell_of_row _ _ _ _ _ _ h7
    clear h6 h7 hbw
    have hpp := HQ.out
    · have hpp' : (a.part == b.part) = true := by simpa using hpp
      have HPP := Lib.hid hpp
      clear hpp
      have hp0 := HP.out
      go_upto_region 5 with (go_at_call 62; refine (refBefore _ _ _).mono ?_; rintro e1 w1 ⟨rfl, rfl⟩)
      go_cut [67] (fun cv wc => cv = .bool (decide (k < i) && writesB a && writesB b && decide (a.number = b.number)) ∧ Below w1.heap.size w1 wc)
      case first =>
        have LD : Hid (∀ V, Below w1.heap.size w1 V → (loadCellsFrom ⟨p6, 0, none⟩ 0 13 #[]).run Try.prog V = .ok a.arr V ∧ (loadCellsFrom ⟨p7, 0, none⟩ 0 13 #[]).run Try.prog V = .ok b.arr V ∧ V.cell? ⟨p6, 6, none⟩ = some (.int .i64 a.number) ∧ V.cell? ⟨p7, 6, none⟩ = some (.int .i64 b.number)) := by
          intro V hV
          have h := HP.out.below hV
          exact ⟨load_block h.a rfl, load_block h.b rfl, cell_of_row _ _ 6 _ _ _ h.a, cell_of_row _ _ 6 _ _ _ h.b⟩
        unfold Ev.arr at LD
        obtain ⟨la, lb, a6, b6⟩ := LD.out _ (Below.refl _ _)
        by_cases hik : k < i
        all_goals have HIK := Lib.hid hik
        all_goals try have hikI : (k : Int) < (i : Int) := by omega
        all_goals try have hikI : ¬ (k : Int) < (i : Int) := by omega
        · cases hwa : writesB a with
          | false =>
            have HWA := Lib.hid hwa
            clear hwa
            go_wp2_with (go_at_call 57; refine (refWrites a _).mono ?_; rintro e3 w3 ⟨rfl, hb3⟩; rw [HWA.out]; have HB3 := Lib.hid hb3; clear hb3)
            go_meet
            exact ⟨by rw [HWA.out]; simp, HB3.out⟩
          | true => exact absurd (hwa.symm.trans HW.out) (by decide)
        · exact absurd HK.out HIK.out
      case rest =>
      obtain ⟨hcv, hb2⟩ := hcut
      subst hcv
      obtain ⟨W2, hW2⟩ : ∃ W2 : World, W2 = wc := ⟨_, rfl⟩
      subst hW2
      have HP2 := Lib.hid (HP.out.below hb2)
      clear hb2 a1 a3 a4 b2 b3 b4 hp0
      go_upto_if 67 with fail
      go_cut [] (fun wc => PrRel l starts w0 X lA lc tv (outs ++ (if (decide (k < i) && writesB a && writesB b && decide (a.number = b.number)) = true then [Blm.mk (i : Int) (k : Int) 2] else [])) a b p6 p7 w wc)
      case first =>
        obtain ⟨ov2, hs2⟩ := HP2.out.s
        have HS2 := Lib.hid hs2
        clear hs2
        cases hcc : (decide (k < i) && writesB a && writesB b && decide (a.number = b.number)) with
        | true =>
          have HCC := Lib.hid hcc
          clear hcc
          go_wp2_with (go_at_call 59; refine (refBlame l starts w0 X lA lc tv ov2 outs (i : Int) (k : Int) 2 _ HS2.out (by exact HN0.out)).mono ?_; rintro e1 w5 ⟨rfl, hk5, hst5⟩; have HK5 := Lib.hid hk5; have HST5 := Lib.hid hst5; clear hk5 hst5)
          go_meet
          rw [if_pos HCC.out]
          exact HP2.out.keeps HK5.out HST5.out
        | false =>
          have HCC := Lib.hid hcc
          clear hcc
          go_wp2_with fail
          go_meet
          rw [if_neg (by rw [HCC.out]; decide), List.append_nil]
          exact HP2.out
      case rest =>
      obtain ⟨W3, hW3⟩ : ∃ W3 : World, W3 = wc := ⟨_, rfl⟩
      subst hW3
      have HP3 := Lib.hid hcut
      clear hcut HP HP2
      have HX2 : Hid ((if (decide (k < i) && writesB a && writesB b && decide (a.number = b.number)) = true then [Blm.mk (i : Int) (k : Int) 2] else []).length ≤ 1) := by show _ ≤ _; split <;> simp
      obtain ⟨o2, ho2⟩ : ∃ o2, o2 = outs ++ (if (decide (k < i) && writesB a && writesB b && decide (a.number = b.number)) = true then [Blm.mk (i : Int) (k : Int) 2] else []) := ⟨_, rfl⟩
      rw [← ho2] at HP3
      have HO2 := Lib.hid ho2
      have HN3 : Hid (o2.length ≤ 3000000) := by
        have := HN.out
        have := HX2.out
        show _ ≤ _
        rw [ho2, List.length_append]
        omega
      clear ho2
      go_upto_region 7 with fail
      obtain ⟨c10, hc10⟩ : ∃ c10, aheadB b.end_ a.begin_ = c10 := ⟨_, rfl⟩
      rw [hc10]
      have HC10 := Lib.hid hc10
      clear hc10
      go_cut [90] (fun cv wc => cv = .bool (c10 && (decide (a.number < b.number) || (decide (a.number = b.number) && writesB a))) ∧ Below W3.heap.size W3 wc)
      case first =>
        have la : (loadCellsFrom ⟨p6, 0, none⟩ 0 13 #[]).run Try.prog W3 = .ok a.arr W3 := load_block HP3.out.a rfl
        have a6 : W3.cell? ⟨p6, 6, none⟩ = some (.int .i64 a.number) := cell_of_row _ _ 6 _ _ _ HP3.out.a
        have b6 : W3.cell? ⟨p7, 6, none⟩ = some (.int .i64 b.number) := cell_of_row _ _ 6 _ _ _ HP3.out.b
        unfold Ev.arr at la
        cases c10 with
        | false => exact absurd (HC10.out.symm.trans HC.out) (by decide)
        | true =>
          by_cases h1 : a.number < b.number
          · have H1 := Lib.hid h1
            go_wp2_with fail
            go_meet
            exact ⟨by rw [decide_eq_true H1.out]; simp, Below.refl _ _⟩
          · have H1 := Lib.hid h1
            by_cases h2 : a.number = b.number
            · have H2 := Lib.hid h2
              have h2' : (a.number == b.number) = true := by simpa using h2
              clear h2
              go_wp2_with (go_at_call 57; refine (refWrites a _).mono ?_; rintro e3 w3 ⟨rfl, hb3⟩; have HB3 := Lib.hid hb3; clear hb3)
              go_meet
              exact ⟨by rw [decide_eq_false (by have := H1.out; omega : ¬ a.number < b.number), decide_eq_true H2.out]; simp, HB3.out⟩
            · have H2 := Lib.hid h2
              have h2' : (a.number == b.number) = false := by simpa using h2
              go_wp2_with fail
              go_meet
              exact ⟨by rw [decide_eq_false (by have := H1.out; omega : ¬ a.number < b.number), decide_eq_false H2.out]; simp, Below.refl _ _⟩
      case rest =>
      obtain ⟨hcv, hb4⟩ := hcut
      subst hcv
      obtain ⟨W4, hW4⟩ : ∃ W4 : World, W4 = wc := ⟨_, rfl⟩
      subst hW4
      have HP4 := Lib.hid (HP3.out.below hb4)
      clear hb4
      go_upto_if 90 with fail
      go_cut [] (fun wc => PrRel l starts w0 X lA lc tv (o2 ++ (if (c10 && (decide (a.number < b.number) || (decide (a.number = b.number) && writesB a))) = true then [Blm.mk (i : Int) (k : Int) 5] else [])) a b p6 p7 w wc)
      case first =>
        obtain ⟨ov4, hs4⟩ := HP4.out.s
        have HS4 := Lib.hid hs4
        clear hs4
        cases hcc : (c10 && (decide (a.number < b.number) || (decide (a.number = b.number) && writesB a))) with
        | true =>
          have HCC := Lib.hid hcc
          clear hcc
          go_wp2_with (go_at_call 59; refine (refBlame l starts w0 X lA lc tv ov4 o2 (i : Int) (k : Int) 5 _ HS4.out (by exact HN3.out)).mono ?_; rintro e1 w5 ⟨rfl, hk5, hst5⟩; have HK5 := Lib.hid hk5; have HST5 := Lib.hid hst5; clear hk5 hst5)
          go_meet
          rw [if_pos HCC.out]
          exact HP4.out.keeps HK5.out HST5.out
        | false =>
          have HCC := Lib.hid hcc
          clear hcc
          go_wp2_with fail
          go_meet
          rw [if_neg (by rw [HCC.out]; decide), List.append_nil]
          exact HP4.out
      case rest =>
      obtain ⟨W5, hW5⟩ : ∃ W5 : World, W5 = wc := ⟨_, rfl⟩
      subst hW5
      have HP5 := Lib.hid hcut
      have EQ : Hid (outs ++ besideL i k a b = o2 ++ (if (c10 && (decide (a.number < b.number) || (decide (a.number = b.number) && writesB a))) = true then [Blm.mk (i : Int) (k : Int) 5] else [])) := by
        show _ = _
        unfold besideL
        rw [if_neg HKA.out, if_neg HKB.out, if_pos HPP.out, HO2.out, List.append_assoc, HC10.out, show decide ((k : Int) < (i : Int)) = decide (k < i) by rw [decide_eq_decide]; omega]
      clear hcut
      go_wp2_with fail
      go_quiet (fail)
      go_wp2_with fail
      go_end0
      rw [EQ.out]
      have h := HP5.out.below (below_drewN (Below.refl _ _) nq)
      exact ⟨rfl, h.k, h.s⟩
end Go.Proofs.Ytpnegacfanbcfaa
