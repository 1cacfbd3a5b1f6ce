/- judge's search: the walk. -/
import Derived.Test.YtpnegacfanbcfaaGoesParts
import Derived.Test.YtpnegacfanbcfaaQuiet
import Derived.Deep.RegionLaw
namespace Go.Proofs.Ytpnegacfanbcfaa
open Go.RowKit Go.Maps

attribute [-go_sem] loadCellsFrom

set_option maxRecDepth 100000 in
set_option maxHeartbeats 2000000 in
theorem goes_walk (l : List Deed) (ci : List Nat) (ended X M : Nat) (lA cA : Option Addr) (lc cc : Nat) (hl : l.length ≤ 64) (hci : ci.length = l.length) (hcb : ∀ i ∈ ci, i < 64) (hok : ∀ d ∈ l, d.Ok) (he : ended < 18446744073709551616)
    (n : Nat) : ∀ (s : St) (w : World) (ov : Value) (xs : List Nat) (B : Nat), missing l.length s = n → s.Ok → xs.length + missing l.length s ≤ 64 → Env l ci ended X M lA cA lc cc w → w.ownsRow B 3 1 ov xs.length (ints xs) → B ≤ w.heap.size →
    Calls Try.prog 29 #[.pointer (some ⟨X, 0, none⟩), s.val, ov] w (GoesPost l ci ended X M lA cA lc cc B s xs w) := by
  induction n using Nat.strongRecOn with
  | _ n ih =>
  intro s w ov xs B hm hs hx hE hown hB
  have IH := Lib.hid ih; clear ih
  have HS := Lib.hid hs; have HE := Lib.hid hE; have HOWN := Lib.hid hown; have HM := Lib.hid hm; have HX := Lib.hid hx; have HB := Lib.hid hB
  have HCI := Lib.hid hci; have HCB := Lib.hid hcb; have HOK := Lib.hid hok; have HEND := Lib.hid he
  obtain ⟨oA, oc, rfl, hrow, hnil⟩ := row_of_own hown
  have HROW := Lib.hid hrow; have HNIL := Lib.hid hnil
  clear hrow hnil
  obtain ⟨c0, c1, c2, c3⟩ := hE.cells
  have hltX := hE.ltX
  clear hs hE hown hm hx hB hci hcb hok he
  have HSV : Hid (s.val = .agg s.vals.toArray) := rfl
  have hv0 : s.vals.toArray[0]? = some (.int .u64 s.inn) := rfl
  rw [HSV.out]
  cases hd : doneTest s.inn ended with
  | true =>
    have hd' : (bits .and .u64 s.inn ended == (ended : Int)) = true := hd
    have HD := Lib.hid hd; clear hd
    go_enter Try.func29, Try.ntmps29
    go_wp2_with fail
    go_step3
    go_wp2_with fail
    go_quiet (fail)
    go_wp2_with fail
    rw [Exit.noGoto_ret]
    go_ret2
    show GoesPost l ci ended X M lA cA lc cc B s xs w (.returned (.tuple #[.slice oA xs.length oc, .bool true])) _
    have hb : Below w.heap.size w ((w.alloc (.cells s.vals.toArray 71)).drewN nq) := below_drewN ((Below.refl _ _).alloc (Nat.le_refl _) _) _
    refine ⟨HE.out.below hb, grownBy_of_below hb, _, _, rfl, .inr ⟨[], ?_, rfl, ?_⟩⟩
    · have := HD.out
      rw [doneTest_iff _ _ HS.out.inn HEND.out, decide_eq_true_eq] at this
      exact least_done this
    · simpa using own_below HOWN.out hb
  | false =>
    have hd' : (bits .and .u64 s.inn ended == (ended : Int)) = false := hd
    have HD := Lib.hid hd; clear hd
    obtain ⟨es, clk, hraw⟩ := HE.out.raw
    have HRAW := Lib.hid hraw; clear hraw
    obtain ⟨f, hmap, hvain⟩ := HE.out.m
    obtain ⟨kl, hkl⟩ := key_st HS.out
    have HKL := Lib.hid hkl; clear hkl
    have HMAP := Lib.hid hmap; clear hmap
    have HVAIN := Lib.hid hvain; clear hvain
    obtain ⟨fnd, hfnd⟩ : ∃ b, (f s).isSome = b := ⟨_, rfl⟩
    have HFND := Lib.hid hfnd; clear hfnd
    go_enter Try.func29, Try.ntmps29
    go_wp2_with fail
    go_step3
    go_wp2_with fail
    go_quiet (fail)
    go_wp2_with fail
    obtain ⟨W, hW⟩ : ∃ W, W = (w.alloc (.cells s.vals.toArray 71)).drewN nq := ⟨_, rfl⟩
    rw [← hW]
    have HW := Lib.hid hW; clear hW
    have hbW : Below w.heap.size w W := by rw [HW.out]; exact below_drewN ((Below.refl _ _).alloc (Nat.le_refl _) _) _
    have hS : W.heap[w.heap.size]? = some (.cells s.vals.toArray 71 (0, 0)) := by rw [HW.out]; exact heap_alloc_new w _
    have hlook : ∀ V : World, MapIs Try.prog 71 St.val V M f → (Instr.lookup 65 (.map (some M)) (.agg s.vals.toArray) true).run Try.prog V = .ok (.tuple #[.agg #[], .bool fnd]) V := by
      intro V hV
      have hz : (zeroValue 107).run Try.prog V = .ok (.agg #[]) V := by kernel_rfl
      have := hV.run_lookup keyed71 St.val_inj (t := 65) (by kernel_rfl) hz true s HKL.out
      rw [HSV.out, HFND.out] at this
      rw [this]
      cases hfs : f s with
      | none => rfl
      | some v => rw [(HVAIN.out s v hfs).1]; rfl
    have g0 := (cell_below hbW _ _ c0)
    have g1 := (cell_below hbW _ _ c1)
    have g2 := (cell_below hbW _ _ c2)
    have g3 := (cell_below hbW _ _ c3)
    have hmW : MapIs Try.prog 71 St.val W M f := HMAP.out.below hbW
    have hsz : s.vals.toArray.size = 65 := by simpa using St.vals_length HS.out
    have l2 : (loadCellsFrom ⟨w.heap.size, 0, none⟩ 0 65 #[]).run Try.prog W.drew = .ok s.vals.toArray W.drew := load_block (w := W.drew) hS hsz
    have l3 : ∀ o, (loadCellsFrom ⟨w.heap.size, 0, none⟩ 0 65 #[]).run Try.prog (W.alloc o).drew = .ok s.vals.toArray (W.alloc o).drew := fun o => load_block (w := (W.alloc o).drew) ((Below.heap_alloc W o _ (Array.getElem?_eq_some_iff.1 hS).1).trans hS) hsz
    have k2 := hlook W.drew hmW
    have k3 : ∀ o, (Instr.lookup 65 (.map (some M)) (.agg s.vals.toArray) true).run Try.prog (W.alloc o).drew = .ok (.tuple #[.agg #[], .bool fnd]) (W.alloc o).drew := fun o => hlook _ (hmW.below ((Below.refl _ _).alloc (Nat.le_refl _) _).drew)
    have hXW : X < W.heap.size := Nat.lt_of_lt_of_le hltX hbW.size
    have HSW := Lib.hid hS; have HBW := Lib.hid hbW; have HMW := Lib.hid hmW; have HLK := Lib.hid hlook; have HSZ := Lib.hid hsz
    clear hS hbW hmW hlook hsz hd' c0 c1 c2 c3
    go_region
    clear g0 g1 g2 g3 l2 l3 k2 k3
    cases fnd with
    | true =>
      go_wp2_with fail
      rw [Exit.noGoto_ret]
      go_ret2
      show GoesPost l ci ended X M lA cA lc cc B s xs w (.returned (.tuple #[.slice none 0 0, .bool false])) _
      have hb : Below w.heap.size w ((W.alloc (.cells #[] 107)).drew) := (HBW.out.alloc HBW.out.size _).drew
      refine ⟨HE.out.below hb, grownBy_of_below hb, _, _, rfl, .inl ⟨?_, rfl, rfl⟩⟩
      cases hfs : f s with
      | none => rw [hfs] at HFND; cases HFND
      | some v => exact (HVAIN.out s v hfs).2
    | false =>
      obtain ⟨W1, hW1⟩ : ∃ W1, W1 = (W.alloc (.cells #[] 107)).drew := ⟨_, rfl⟩
      rw [← hW1]
      have HW1 := Lib.hid hW1; clear hW1
      have hb1 : Below w.heap.size w W1 := by rw [HW1.out]; exact (HBW.out.alloc HBW.out.size _).drew
      have hS1 : W1.heap[w.heap.size]? = some (.cells s.vals.toArray 71 (0, 0)) := by
        rw [HW1.out]
        exact (Below.heap_alloc W _ _ (Array.getElem?_eq_some_iff.1 HSW.out).1).trans HSW.out
      have hE1 := HE.out.below hb1
      have HB1 := Lib.hid hb1; have HS1 := Lib.hid hS1; have HE1 := Lib.hid hE1
      obtain ⟨g0, g1, g2, g3⟩ := hE1.cells
      clear hb1 hS1 hE1
      go_wp2_with fail
      go_step3
      go_wp2_with fail
      go_loopg [47] l.length (fun k i wr => GRel l ci ended X M lA cA lc cc s w k i wr)
      case atStart => exact ⟨0, Nat.zero_le _, rfl, rfl, ⟨HE1.out, grownBy_of_below HB1.out, HS1.out⟩, fun j h => absurd h (Nat.not_lt_zero _)⟩
      case round =>
        obtain ⟨j, hj, rfl, rfl, hG, hno⟩ := hrel
        obtain ⟨wo, rfl⟩ : ∃ wo : World, wo = wr := ⟨_, rfl⟩
        have HG := Lib.hid hG; have HNO := Lib.hid hno
        obtain ⟨q0, q1, q2, q3⟩ := hG.e.cells
        have hXr := hG.e.ltX
        clear g0 g1 g2 g3 hno
        by_cases hlt : j < l.length
        · obtain ⟨d, hd⟩ : ∃ d, l[j]? = some d := ⟨_, List.getElem?_eq_getElem hlt⟩
          have HDJ := Lib.hid hd; clear hd
          obtain ⟨lb, loff, hlA, hld⟩ := load_deed hG.e.rl HDJ.out
          clear hG
          subst hlA
          have hvals : s.vals.toArray[0]? = some (.int .u64 s.inn) := rfl
          have qs : wo.cell? ⟨w.heap.size, 0, none⟩ = some (.int .u64 s.inn) := (cell_of_row wo _ 0 _ _ _ HG.out.s).trans hvals
          have hSr : w.heap.size < wo.heap.size := (Array.getElem?_eq_some_iff.1 HG.out.s).1
          have hj63 : j < 64 := by omega
          clear hvals
          have hbt := bitTest s.inn j HS.out.inn hj63
          cases hbit : s.inn.testBit j with
          | true =>
            rw [hbit] at hbt
            have HBIT := Lib.hid hbit; clear hbit
            go_wp2_with fail
            go_quiet (fail)
            go_wp2_with fail
            go_roundg (l.length - (j + 1))
            case measure => omega
            case rel =>
              refine ⟨j + 1, by omega, by go_num, rfl, HG.out.below (below_drewN ((Below.refl _ _).alloc (Nat.le_refl _) _) _), fun j' hj' => ?_⟩
              rcases Nat.lt_or_ge j' j with h | h
              · exact HNO.out j' h
              · obtain rfl : j' = j := by omega
                exact tryK_in HBIT.out
          | false =>
            rw [hbit] at hbt
            have HBIT := Lib.hid hbit; clear hbit
            go_wp2_with fail
            go_quiet (fail)
            go_wp2_with fail
            obtain ⟨W2, hW2⟩ : ∃ W2, W2 = (wo.alloc (.cells d.arr 27)).drewN nq := ⟨_, rfl⟩
            unfold Deed.arr at hW2
            rw [← hW2]
            have HW2 := Lib.hid hW2; clear hW2
            have hb2 : Below wo.heap.size wo W2 := by rw [HW2.out]; exact below_drewN ((Below.refl _ _).alloc (Nat.le_refl _) _) _
            have hD2 : W2.heap[wo.heap.size]? = some (.cells d.arr 27 (0, 0)) := by rw [HW2.out]; exact heap_alloc_new wo _
            have HG2 := Lib.hid (HG.out.below hb2)
            have HD2 := Lib.hid hD2
            clear hb2 hD2 qs hld q0 q1 q2 q3
            go_loopg [63] l.length (fun k i w2 => IRel l ci ended X M (some ⟨lb, loff, none⟩) cA lc cc s w d wo.heap.size k i w2)
            case atStart => exact ⟨0, Nat.zero_le _, rfl, rfl, HG2.out, HD2.out, fun j' e h => absurd h (Nat.not_lt_zero _)⟩
            case round =>
              obtain ⟨i2, hi2, rfl, rfl, hGi, hDi, hfr⟩ := hrel
              have HGi := Lib.hid hGi; have HDi := Lib.hid hDi; have HFR := Lib.hid hfr
              obtain ⟨q0, q1, q2, q3⟩ := hGi.e.cells
              have hXi := hGi.e.ltX
              clear hDi hfr
              by_cases hlt2 : i2 < l.length
              · obtain ⟨e, hed⟩ : ∃ e, l[i2]? = some e := ⟨_, List.getElem?_eq_getElem hlt2⟩
                have HEI := Lib.hid hed; clear hed
                obtain ⟨lb2, loff2, hlA2, hld2⟩ := load_deed hGi.e.rl HEI.out
                injection hlA2 with hlA2
                injection hlA2 with e1 e2 e3
                subst e1 e2
                clear e3 hGi
                have hvals : s.vals.toArray[0]? = some (.int .u64 s.inn) := rfl
                have qs : wr.cell? ⟨w.heap.size, 0, none⟩ = some (.int .u64 s.inn) := (cell_of_row wr _ 0 _ _ _ HGi.out.s).trans hvals
                have qd : wr.cell? ⟨wo.heap.size, 0, none⟩ = some (.int .i64 d.begin_) := (cell_of_row wr _ 0 _ _ _ HDi.out).trans rfl
                have hSi : w.heap.size < wr.heap.size := (Array.getElem?_eq_some_iff.1 HGi.out.s).1
                have hDl : wo.heap.size < wr.heap.size := (Array.getElem?_eq_some_iff.1 HDi.out).1
                have hi63 : i2 < 64 := by omega
                clear hvals
                have hbt2 := bitTest0 s.inn i2 HS.out.inn hi63
                cases hbit2 : s.inn.testBit i2 with
                | true =>
                  rw [hbit2] at hbt2
                  have HBIT2 := Lib.hid hbit2; clear hbit2
                  simp only [Bool.not_true] at hbt2
                  go_wp2_with fail
                  go_quiet (fail)
                  go_wp2_with fail
                  go_roundg (l.length - (i2 + 1))
                  case measure => omega
                  case rel =>
                    have hb := below_drewN ((Below.refl wr.heap.size wr).alloc (Nat.le_refl _) (.cells e.arr 27)) nq
                    refine ⟨i2 + 1, by omega, by go_num, rfl, HGi.out.below hb, (hb.block _ hDl).trans HDi.out, fun j' e' hj' he' => ?_⟩
                    rcases Nat.lt_or_ge j' i2 with h | h
                    · exact HFR.out j' e' h he'
                    · obtain rfl : j' = i2 := by omega
                      exact .inl HBIT2.out
                | false =>
                  rw [hbit2] at hbt2
                  have HBIT2 := Lib.hid hbit2; clear hbit2
                  simp only [Bool.not_false] at hbt2
                  cases hah : aheadB e.end_ d.begin_ with
                  | true =>
                    have HAH := Lib.hid hah; clear hah
                    go_wp2_with fail
                    go_quiet ((go_at_call 49; exact Calls.quiet_of_same ((judgeAhead _ _ _).mono fun _ _ h => ⟨by rw [h.1, HAH.out], h.2⟩)))
                    go_wp2_with fail
                    go_roundg (l.length - (j + 1))
                    case measure => omega
                    case rel =>
                      have hb := below_drewN ((Below.refl wr.heap.size wr).alloc (Nat.le_refl _) (.cells e.arr 27)) nq
                      refine ⟨j + 1, by omega, by go_num, rfl, HGi.out.below hb, fun j' hj' => ?_⟩
                      rcases Nat.lt_or_ge j' j with h | h
                      · exact HNO.out j' h
                      · obtain rfl : j' = j := by omega
                        exact tryK_held HDJ.out HEI.out HBIT2.out HAH.out
                  | false =>
                    have HAH := Lib.hid hah; clear hah
                    go_wp2_with fail
                    go_quiet ((go_at_call 49; exact Calls.quiet_of_same ((judgeAhead _ _ _).mono fun _ _ h => ⟨by rw [h.1, HAH.out], h.2⟩)))
                    go_wp2_with fail
                    go_roundg (l.length - (i2 + 1))
                    case measure => omega
                    case rel =>
                      have hb := below_drewN ((Below.refl wr.heap.size wr).alloc (Nat.le_refl _) (.cells e.arr 27)) nq
                      refine ⟨i2 + 1, by omega, by go_num, rfl, HGi.out.below hb, (hb.block _ hDl).trans HDi.out, fun j' e' hj' he' => ?_⟩
                      rcases Nat.lt_or_ge j' i2 with h | h
                      · exact HFR.out j' e' h he'
                      · obtain rfl : j' = i2 := by omega
                        rw [HEI.out] at he'
                        injection he' with he'
                        subst he'
                        exact .inr HAH.out
              · obtain ⟨cj, hcj⟩ : ∃ cj, ci[j]? = some cj := ⟨_, List.getElem?_eq_getElem (by rw [HCI.out]; exact hlt)⟩
                have hcj64 : cj < 64 := HCB.out cj (List.mem_of_getElem? hcj)
                have hcg : ci.getD j 0 = cj := by simp [List.getD, hcj]
                obtain ⟨cb, coff, hcA, hcell⟩ := hGi.e.rc j (.int .i64 (cj : Int)) (by simp [ints, hcj])
                subst hcA
                have hcil : j < ci.length := by rw [HCI.out]; exact hlt
                have qc : wr.cell? ⟨w.heap.size, 1 + cj, none⟩ = some (.int .i64 (cellOf ci s j)) := (cell_of_row wr _ _ _ _ _ HGi.out.s).trans (St.vals_get HS.out hcj hcj64)
                have hSi : w.heap.size < wr.heap.size := (Array.getElem?_eq_some_iff.1 HGi.out.s).1
                have hDl : wo.heap.size < wr.heap.size := (Array.getElem?_eq_some_iff.1 HDi.out).1
                have ld2 : ∀ p : BelowOf wr, (loadCellsFrom ⟨wo.heap.size, 0, none⟩ 0 8 #[]).run Try.prog p.v = .ok #[.int .i64 d.begin_, .int .i64 d.end_, .int .i64 d.kind, .int .i64 d.a, .int .i64 d.b, .int .i64 d.c, .int .i64 d.n, .bool d.ok] p.v := fun p => load_block (p.heap HDi.out) rfl
                have p1 : ∀ p : BelowOf wr, p.v.cell? ⟨X, 1, none⟩ = some (.slice (some ⟨cb, coff, none⟩) ci.length cc) := fun p => p.cell q1
                have pc : ∀ p : BelowOf wr, p.v.cell? ⟨w.heap.size, 1 + cj, none⟩ = some (.int .i64 (cellOf ci s j)) := fun p => p.cell qc
                have pj : ∀ p : BelowOf wr, p.v.cell? ⟨cb, coff + j, none⟩ = some (.int .i64 (cj : Int)) := fun p => p.cell hcell
                have hcjI : (cj : Int) < 64 := by omega
                have HCJ := Lib.hid hcj; have HCG := Lib.hid hcg
                clear hGi hcj hcg
                go_wp2_with fail
                refine wp_region_quiet_below (by kernel_rfl) (by kernel_rfl) ?_
                repeat (quiet_step ((go_at_call 50; exact calls_below _ (judgeDoes d (cellOf ci s j) _))))
                refine wpQuiet_nil ?_
                intro w3 hw'
                obtain ⟨p3, hp3⟩ := hw'
                have hb3 : Below wr.heap.size wr w3 := by rw [hp3]; exact p3.h
                clear hp3
                clear ld2 p1 pc pj q0 q1 q2 q3 qc hcell
                have hG3 := HGi.out.below hb3
                have hsz3 : s.vals.toArray.size = 65 := by simpa using St.vals_length HS.out
                have l3 := load_block hG3.s hsz3
                have HG3 := Lib.hid hG3
                have HSZ3 := Lib.hid hsz3
                clear hG3 hsz3
                go_wp2_with (first
                  | (refine wpList_alloc_is rfl 71 rfl z71 zero71 ?_)
                  | (refine wpList_store_new rfl 71 (.tmp 16) (.tmp 99) rfl s.vals.toArray _ rfl rfl (by rw [HSZ3.out]; kernel_rfl) (by rw [HSZ3.out]; rfl) (St.vals_oneCell s) ?_))
                · have hdo : (!doesOk d (cellOf ci s j)) = true := by assumption
                  rw [Bool.not_eq_true'] at hdo
                  go_roundg (l.length - (j + 1))
                  case measure => omega
                  case rel =>
                    refine ⟨j + 1, by omega, by go_num, rfl, HG3.out, fun j' hj' => ?_⟩
                    rcases Nat.lt_or_ge j' j with h | h
                    · exact HNO.out j' h
                    · obtain rfl : j' = j := by omega
                      exact tryK_not HDJ.out hdo
                · have hdo : (!doesOk d (cellOf ci s j)) = false := by assumption
                  rw [Bool.not_eq_false'] at hdo
                  have HDO := Lib.hid hdo
                  clear hdo l3
                  obtain ⟨W4, hW4⟩ : ∃ W4, W4 = w3.alloc (.cells s.vals.toArray 71) := ⟨_, rfl⟩
                  rw [← hW4]
                  have HW4 := Lib.hid hW4; clear hW4
                  have hb4 : Below w3.heap.size w3 W4 := by rw [HW4.out]; exact (Below.refl _ _).alloc (Nat.le_refl _) _
                  have hT4 : W4.heap[w3.heap.size]? = some (.cells s.vals.toArray 71 (0, 0)) := by rw [HW4.out]; exact heap_alloc_new w3 _
                  have HB4 := Lib.hid hb4; have HT4 := Lib.hid hT4
                  have r0 : W4.cell? ⟨w3.heap.size, 0, none⟩ = some (.int .u64 s.inn) := (cell_of_row W4 _ 0 _ _ _ hT4).trans rfl
                  have rf0 : W4.frozen? ⟨w3.heap.size, 0, none⟩ = false := frozen_block hT4
                  clear hb4 hT4
                  go_region
                  clear r0 rf0
                  obtain ⟨W5, hW5⟩ : ∃ W5, W5 = (W4.setCell ⟨w3.heap.size, 0, none⟩ (.int .u64 (bits BinOp.or .u64 (s.inn : Int) (IntKind.u64.wrap (2 ^ j))))).drew := ⟨_, rfl⟩
                  rw [← hW5]
                  have HW5 := Lib.hid hW5; clear hW5
                  have hb5 : Below w3.heap.size w3 W5 := by rw [HW5.out]; exact (HB4.out.setCell (Nat.le_refl _) _).drew
                  have hT5 : W5.heap[w3.heap.size]? = some (.cells (s.vals.toArray.setIfInBounds 0 (.int .u64 (bits BinOp.or .u64 (s.inn : Int) (IntKind.u64.wrap (2 ^ j))))) 71 (0, 0)) := by
                    rw [HW5.out]
                    exact set_block (w := W4) HT4.out _
                  have hG5 := HG3.out.below hb5
                  obtain ⟨cb', coff', hcA', hcell'⟩ := hG5.e.rc j (.int .i64 (cj : Int)) (by simp [ints, HCJ.out])
                  injection hcA' with hcA'
                  injection hcA' with e1 e2 e3
                  subst e1 e2
                  clear e3
                  obtain ⟨q0, q1, q2, q3⟩ := hG5.e.cells
                  have r1 : W5.cell? ⟨w3.heap.size, 1 + cj, none⟩ = some (.int .i64 (cellOf ci s j)) := by
                    refine (cell_of_row W5 _ _ _ _ _ hT5).trans ?_
                    rw [Array.getElem?_setIfInBounds, if_neg (by omega)]
                    exact St.vals_get HS.out HCJ.out hcj64
                  have rf1 : W5.frozen? ⟨w3.heap.size, 1 + cj, none⟩ = false := frozen_block hT5
                  have hX5 := hG5.e.ltX
                  have HB5 := Lib.hid hb5; have HT5 := Lib.hid hT5; have HG5 := Lib.hid hG5
                  clear hb5 hT5 hG5
                  go_wp2_with fail
                  clear q0 q1 q2 q3 r1 rf1 hcell'
                  obtain ⟨W6, hW6⟩ : ∃ W6, W6 = W5.setCell ⟨w3.heap.size, 1 + cj, none⟩ (.int .i64 (doesNext d (cellOf ci s j))) := ⟨_, rfl⟩
                  rw [← hW6]
                  have HW6 := Lib.hid hW6; clear hW6
                  have hb6 : Below w3.heap.size w3 W6 := by rw [HW6.out]; exact HB5.out.setCell (Nat.le_refl _) _
                  have hT6 : W6.heap[w3.heap.size]? = some (.cells (nextSt ci s j d).vals.toArray 71 (0, 0)) := by
                    rw [HW6.out, ← St.vals_next HCJ.out HS.out.inn hj63]
                    exact set_block (w := W5) HT5.out _
                  have HB6 := Lib.hid hb6; have HT6 := Lib.hid hT6; have HG6 := Lib.hid (HG3.out.below hb6)
                  clear hb6 hT6
                  go_cut [17, 18] (fun r b w7 => CRel l ci ended X M (some ⟨lb, loff, none⟩) (some ⟨cb, coff, none⟩) lc cc B s (nextSt ci s j d) (xs ++ [j]) w r b w7)
                  case first =>
                    have hsz6 : (nextSt ci s j d).vals.toArray.size = 65 := by simpa using St.vals_length (nextSt_ok HS.out (ci := ci) (j := j) (HOK.out d (List.mem_of_getElem? HDJ.out)) hj63)
                    have ldA : (loadCellsFrom ⟨w3.heap.size, 0, none⟩ 0 65 #[]).run Try.prog W6.drew = .ok (nextSt ci s j d).vals.toArray W6.drew := load_block (w := W6.drew) HT6.out hsz6
                    have ldB : ∀ o, (loadCellsFrom ⟨w3.heap.size, 0, none⟩ 0 65 #[]).run Try.prog (W6.alloc o).drew = .ok (nextSt ci s j d).vals.toArray (W6.alloc o).drew := fun o => load_block (w := (W6.alloc o).drew) ((Below.heap_alloc W6 o _ (Array.getElem?_eq_some_iff.1 HT6.out).1).trans HT6.out) hsz6
                    have ldC : ∀ p : BelowOf W6, (loadCellsFrom ⟨w3.heap.size, 0, none⟩ 0 65 #[]).run Try.prog p.v = .ok (nextSt ci s j d).vals.toArray p.v := fun p => load_block (p.heap HT6.out) hsz6
                    have ldD : ∀ (p : BelowOf W6) o, (loadCellsFrom ⟨w3.heap.size, 0, none⟩ 0 65 #[]).run Try.prog (p.v.alloc o) = .ok (nextSt ci s j d).vals.toArray (p.v.alloc o) := fun p o => load_block ((Below.heap_alloc p.v o _ (Array.getElem?_eq_some_iff.1 (p.heap HT6.out)).1).trans (p.heap HT6.out)) hsz6
                    have HR6 : Hid (∀ V, Below W6.heap.size W6 V → Row V oA (ints xs)) := fun V hV => ((HROW.out.keep (cell_grown_map HRAW.out HG6.out.g)).below hV)
                    have hmis := missing_next l.length ci s j d hlt HBIT.out
                    have HMIS := Lib.hid hmis
                    have hx64 := HX.out
                    have hlx : xs.length ≤ 64 := by omega
                    have HSZ6 := Lib.hid hsz6
                    have hBw : B ≤ W6.heap.size := Nat.le_trans HB.out HG6.out.g.size
                    clear hsz6 hmis hx64
                    go_region_law (first
                      | (go_simp; go_at_call 51
                         refine (cloneInts oA xs.length oc (ints xs) _ (HR6.out _ (by repeat' first | exact Below.refl _ _ | refine Below.drew ?_ | refine Below.alloc ?_ (Nat.le_refl _) _)) (by simp [ints]) (ints_oneCell xs) (by omega) HNIL.out).mono ?_
                         rintro e1 v1 ⟨cv, rfl, ho, hb⟩
                         try (have hbox : v1.cell? ⟨W6.heap.size, 0, none⟩ = some (.int .i64 (j : Int)) := cell_below hb _ _ (cell_new _ _ _))
                         have hov : ∀ k, cv.ownBlock = some k → W6.heap.size ≤ k := fun k hk => Nat.le_trans (by simp) (ho.lt k hk).1
                         have hown6 := own_base ho (b' := W6.heap.size) (by simp)
                         obtain ⟨p, rfl⟩ : ∃ p : BelowOf W6, v1 = p.v := ⟨⟨v1, Below.trans (by repeat' first | exact Below.refl _ _ | refine Below.drew ?_ | refine Below.alloc ?_ (Nat.le_refl _) _) (hb.mono (by simp))⟩, rfl⟩
                         clear ho hb)
                      | (go_simp; go_at_call 29
                         refine (IH.out (missing l.length (nextSt ci s j d)) (by have := HMIS.out; have := HM.out; omega) (nextSt ci s j d) _ _ (xs ++ [j]) B rfl (nextSt_ok HS.out (HOK.out d (List.mem_of_getElem? HDJ.out)) hj63) (by have := HMIS.out; have := HX.out; simp; omega) (HG6.out.e.below (BelowOf.h _)) (own_base (by first | assumption | (simpa [ints] using (by assumption))) hBw) (Nat.le_trans hBw (BelowOf.le _))).mono ?_
                         rintro e7 w7 ⟨hE7, hg7, r7, b7, rfl, hf7⟩)
                      | (refine step_append_is rfl (.tmp 120) (.tmp 122) rfl elemInt rfl (base := W6.heap.size) (n := xs.length) (xs := ints xs) (by first | assumption | exact World.ownsRow.alloc (by assumption) _) _ 1 _ [.int .i64 (j : Int)] rfl (by first | exact row_one (by assumption) | exact row_one (cell_new _ _ _)) rfl (by simp [Value.oneCell']) (by unfold maxLen; omega) (by omega) (by first | exact BelowOf.le _ | exact BelowOf.le_alloc _ _) (fun e => by cases e) ?_
                         intro v2 w2 ho2 hg2 hat2
                         obtain ⟨p2, rfl⟩ : ∃ p : BelowOf W6, w2 = p.v := by first | exact BelowOf.grown _ hg2 (by assumption) | exact BelowOf.grown_alloc _ _ hg2 (by assumption)
                         clear hg2 hat2))
                    all_goals
                      go_wp2_with fail
                      go_meet
                      exact ⟨(HG6.out.below (BelowOf.h _)).grown hE7 hg7, b7, rfl, hf7⟩
                  case rest =>
                    obtain ⟨hG7, c7, hc7, hf7⟩ := hcut
                    have HF7 := Lib.hid hf7; have HG7 := Lib.hid hG7
                    clear hf7 hG7
                    subst hc7
                    have hnd : ¬ s.inn &&& ended = ended := by
                      have := HD.out
                      rw [doneTest_iff _ _ HS.out.inn HEND.out, decide_eq_false_iff_not] at this
                      exact this
                    have hyes := tryK_yes (rec := least l ci ended) (ci := ci) HDJ.out HBIT.out (freeB_of (fun i e he => HFR.out i e (by have := (List.getElem?_eq_some_iff.1 he).1; omega) he)) HDO.out
                    have HYES := Lib.hid hyes; have HND := Lib.hid hnd
                    clear hyes hnd
                    cases c7 with
                    | true =>
                      go_wp2_with fail
                      rw [Exit.noGoto_ret]
                      go_ret2
                      refine ⟨HG7.out.e, HG7.out.g, u17, true, rfl, .inr ?_⟩
                      rcases HF7.out with ⟨_, _, h⟩ | ⟨t, h1, _, h3⟩
                      · cases h
                      · refine ⟨j :: t, least_first HND.out hlt HNO.out (HYES.out.trans (by rw [h1]; rfl)), rfl, ?_⟩
                        have e1 : (xs ++ [j]).length + t.length = xs.length + (j :: t).length := by simp; omega
                        have e2 : xs ++ [j] ++ t = xs ++ j :: t := by simp
                        rw [← e1, ← e2]
                        exact h3
                    | false =>
                      go_wp2_with fail
                      go_roundg (l.length - (j + 1))
                      case measure => omega
                      case rel =>
                        refine ⟨j + 1, by omega, by go_num, rfl, HG7.out, fun j' hj' => ?_⟩
                        rcases Nat.lt_or_ge j' j with h | h
                        · exact HNO.out j' h
                        · obtain rfl : j' = j := by omega
                          rw [HYES.out]
                          rcases HF7.out with ⟨h1, _⟩ | ⟨t, _, h2, _⟩
                          · rw [h1]; rfl
                          · cases h2
        · have hjl : j = l.length := by omega
          obtain ⟨f2, hm2, hv2⟩ := hG.e.m
          obtain ⟨w9, hrun, hm9, hg9⟩ := MapIs.run_update (w := wo.drew) hm2 keyed71 St.val_inj (t := 65) (e := 107) (by kernel_rfl) s HKL.out (.agg #[])
          rw [HSV.out] at hrun
          have hsz2 : s.vals.toArray.size = 65 := by simpa using St.vals_length HS.out
          have l9 : (loadCellsFrom ⟨w.heap.size, 0, none⟩ 0 65 #[]).run Try.prog wo.drew = .ok s.vals.toArray wo.drew := load_block (w := wo.drew) hG.s hsz2
          have hnone : least l ci ended s = none := least_none (by
            have := HD.out
            rw [doneTest_iff _ _ HS.out.inn HEND.out, decide_eq_false_iff_not] at this
            exact this) (fun i hi => HNO.out i (by omega))
          have HM9 := Lib.hid hm9; have HG9 := Lib.hid hg9; have HV2 := Lib.hid hv2; have HNN := Lib.hid hnone
          have HJL := Lib.hid hjl
          clear hm9 hg9 hv2 hnone hjl hG hm2 hsz2
          go_wp2_with fail
          go_region
          go_wp2_with fail
          rw [Exit.noGoto_ret]
          go_ret2
          have hgo : wo.grownBy w9 (some M) := ⟨HG9.out.os, HG9.out.tape, HG9.out.output, HG9.out.size, HG9.out.block⟩
          refine ⟨HG.out.e.grown hgo ⟨_, HM9.out, fun y v hy => ?_⟩, HG.out.g.trans hgo, _, _, rfl, .inl ⟨HNN.out, rfl, rfl⟩⟩
          by_cases hys : y = s
          · subst hys
            simp at hy
            exact ⟨hy.symm, HNN.out⟩
          · simp only [if_neg hys] at hy
            exact HV2.out y v hy
end Go.Proofs.Ytpnegacfanbcfaa
