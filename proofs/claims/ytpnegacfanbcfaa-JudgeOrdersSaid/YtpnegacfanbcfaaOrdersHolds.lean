/- JudgeOrders: the walk. It answers true over all that its arguments can read as. -/
import Derived.Test.YtpnegacfanbcfaaLent
import Derived.Test.YtpnegacfanbcfaaRefO
import Derived.Deep.DeepCutAuto
import Derived.Test.YtpnegacfanbcfaaDeeds
import Derived.Test.YtpnegacfanbcfaaChecked
import Derived.ProofKit
import Derived.OpenShut
import Derived.JoinedCond
namespace Go.Proofs.Ytpnegacfanbcfaa
open Go.RowKit Go.Maps

attribute [-go_sem] loadCellsFrom
attribute [-go_sem] run_neq_struct

set_option maxRecDepth 100000 in
set_option maxHeartbeats 4000000 in
theorem orders_law (first : List Int) (l : List Deed) (fA lA : Option Addr) (fc lc : Nat) (w : World) (hrf : Row w fA (nums first)) (hrl : Row w lA (deedCells l)) (hf0 : fA = none → first.length = 0) (hl0 : lA = none → l.length = 0)
    (hff : ∀ x ∈ first, inI64 x) (hok : ∀ d ∈ l, d.Ok) : Calls Try.prog 3 #[.slice fA first.length fc, .slice lA l.length lc] w fun e w' => e = .returned (.bool true) ∧ Below w.heap.size w w' := by
  have HRF := Lib.hid hrf; have HRL := Lib.hid hrl; have HF0 := Lib.hid hf0; have HL0 := Lib.hid hl0; have HFF := Lib.hid hff; have HOK := Lib.hid hok
  clear hrf hrl hf0 hl0 hff hok
  by_cases h200 : 200 < l.length
  · go_enter Try.func3, Try.ntmps3
    go_wp2_with (go_at_call 7; refine (known_walk _).mono ?_; rintro e1 w1 ⟨rfl, hb1⟩; have HB1 := Lib.hid hb1; clear hb1)
    go_ret
    exact ⟨rfl, HB1.out⟩
  by_cases h1000 : 1000 < first.length
  · go_enter Try.func3, Try.ntmps3
    go_wp2_with (go_at_call 7; refine (known_walk _).mono ?_; rintro e1 w1 ⟨rfl, hb1⟩; have HB1 := Lib.hid hb1; clear hb1)
    go_ret
    exact ⟨rfl, HB1.out⟩
  have hl200 : l.length ≤ 200 := by omega
  have hf1000 : first.length ≤ 1000 := by omega
  obtain ⟨ZD, hZ1, hZ2, hmk⟩ := make_deeds l.length (by omega)
  have HZ1 := Lib.hid hZ1; have HZ2 := Lib.hid hZ2
  clear hZ1 hZ2
  go_enter Try.func3, Try.ntmps3
  go_wp2_with (go_at_call 7; refine (known_walk _).mono ?_; rintro e1 w1 ⟨rfl, hb1⟩; have HB1 := Lib.hid hb1; clear hb1)
  have hw1 : IntKind.i64.wrap ((l.length : Int) + 1) = (l.length : Int) + 1 := (IntWalk.i64_left _).trans (IntWalk.wrap64_in _ (by omega))
  have HF : Hid (∀ U, Below w1.heap.size w1 U → Row U fA (nums first)) := fun U hU => (HRF.out.below HB1.out).below hU
  have HL : Hid (∀ U, Below w1.heap.size w1 U → Row U lA (deedCells l)) := fun U hU => (HRL.out.below HB1.out).below hU
  go_cut [5, 6] (fun a b w2 => LendRel first l w1 a b w2)
  case first =>
    go_region_law (first
      | (go_simp; go_at_call 8
         refine (lent_walk first fA fc _ (by omega) (HF.out _ (by repeat' first | refine Below.drew ?_ | refine Below.alloc ?_ (by first | exact Nat.le_refl _ | exact BelowOf.le _ | simp) _ | exact Below.refl _ _ | exact BelowOf.h _)) HF0.out).mono ?_
         rintro e2 w2 ⟨g, rfl, hlent, hgle, hb2⟩
         try (have hmade := heap_below hb2 hmade)
         try (have happ := heap_below hb2 happ)
         try (have hmade := heap_below hb2 (heap_alloc_new _ _))
         have hgle2 : w1.heap.size ≤ g := Nat.le_trans (by first | exact Nat.le_refl _ | exact BelowOf.le _ | exact BelowOf.le_alloc _ _ | simp) hgle
         obtain ⟨p2, rfl⟩ : ∃ q : BelowOf w1, w2 = q.v := ⟨⟨w2, Below.trans (by repeat' first | refine Below.drew ?_ | refine Below.alloc ?_ (by first | exact Nat.le_refl _ | exact BelowOf.le _ | simp) _ | exact Below.refl _ _ | exact BelowOf.h _) (hb2.mono (by first | exact Nat.le_refl _ | exact BelowOf.le _ | exact BelowOf.le_alloc _ _ | simp))⟩, rfl⟩
         clear hb2 hgle)
      | (refine step_append_room_is rfl (.tmp 35) (.tmp 36) rfl elemDeed rfl (cur := ZD) (by first | assumption | exact heap_alloc_new _ _) lA l.length lc (deedCells l) rfl (HL.out _ (by repeat' first | refine Below.drew ?_ | refine Below.alloc ?_ (by first | exact Nat.le_refl _ | exact BelowOf.le _ | simp) _ | exact Below.refl _ _ | exact BelowOf.h _)) (by rw [deedCells_length]) (deedCells_oneCell l) (by omega) (by rw [HZ1.out]; omega) HL0.out ?_
         intro w3 hh3 hg3 hs3
         simp only [Nat.zero_mul, Nat.zero_add, List.take_zero, List.nil_append] at hh3
         rw [HZ2.out] at hh3
         try (have hlent := lend_kept hg3 (by first | assumption | exact heap_alloc_new _ _) hlent)
         try (have hlent := lend_kept hg3 (heap_alloc_new _ _) ((Below.heap_alloc _ _ _ (Array.getElem?_eq_some_iff.1 hlent).1).trans hlent))
         have happ := hh3
         obtain ⟨p3, rfl⟩ : ∃ q : BelowOf w1, w3 = q.v := ⟨⟨w3, Below.grown (by repeat' first | refine Below.drew ?_ | refine Below.alloc ?_ (by first | exact Nat.le_refl _ | exact BelowOf.le _ | simp) _ | exact Below.refl _ _ | exact BelowOf.h _) hg3 (by first | exact Nat.le_refl _ | exact BelowOf.le _ | exact BelowOf.le_alloc _ _ | simp) (fun k hk => by injection hk with hk; rw [← hk]; first | exact Nat.le_refl _ | exact BelowOf.le _)⟩, rfl⟩
         clear hh3 hg3 hs3))
    all_goals
      go_wp2_with fail
      go_meet
      exact ⟨_, _, rfl, rfl, hlent, happ, hgle2, (by first | exact Nat.le_refl _ | exact BelowOf.le _), BelowOf.h _⟩
  case rest =>
    obtain ⟨g, h, ha, hb, hg, hh, hgle, hhle, hbl⟩ := hcut
    subst ha hb
    have c2 : wc.cell? ⟨h, l.length * 8 + 2, none⟩ = some (.int .i64 0) := by
      rw [cell_of_row _ _ _ _ _ _ hh]
      simp only [List.getElem?_toArray]
      rw [mark_get]
      rfl
    have f2 : wc.frozen? ⟨h, l.length * 8 + 2, none⟩ = false := frozen_block hh
    have hgh : g ≠ h := fun e => by
      rw [e, hh] at hg
      injection hg with hg
      injection hg with _ hg
      cases hg
    have HG := Lib.hid hg; have HH := Lib.hid hh; have HBL := Lib.hid hbl
    clear hg hh hbl hmk
    have hsub : l.length + 1 - l.length = 1 := by omega
    obtain ⟨W, hW⟩ : ∃ W, W = wc.setCell ⟨h, l.length * 8 + 2, none⟩ (.int .i64 77) := ⟨_, rfl⟩
    have hg2 : W.heap[g]? = some (.cells (nums (first ++ rooms)).toArray 3 (0, 0)) := by rw [hW]; exact (Below.heap_setCell _ _ _ _ hgh).trans HG.out
    have hh2 : W.heap[h]? = some (.cells (deedCells l ++ markDeed).toArray 27 (0, 0)) := by rw [hW, ← mark_set]; exact set_block HH.out _
    have hbW : Below w1.heap.size w1 W := by rw [hW]; exact HBL.out.setCell hhle _
    have HG2 := Lib.hid hg2; have HH2 := Lib.hid hh2; have HBW := Lib.hid hbW
    have hrg : Row W (some ⟨g, 0, none⟩) (nums first) := row_prefix (ys := nums rooms) (t := 3) (fr := (0, 0)) (by rw [hg2]; simp [nums])
    have hrh : Row W (some ⟨h, 0, none⟩) (deedCells l) := row_prefix (ys := markDeed) hh2
    have HRG := Lib.hid hrg; have HRH := Lib.hid hrh
    clear hg2 hh2 hbW hrg hrh
    by_cases hmid : 14 < l.length ∧ l.length ≤ 64
    · have d14 : decide ((14 : Int) < (l.length : Nat)) = true := by rw [decide_eq_true_eq]; omega
      have d64 : decide (((l.length : Nat) : Int) ≤ 64) = true := by rw [decide_eq_true_eq]; omega
      have HREF : Hid (refuV first.length l = orderErr first l) := refu_is hmid.2
      clear hmid
      go_wp2_with (first
        | (go_at_call 9
           rw [← hW]
           refine (order_walk first l _ _ _ _ _ HRG.out HRH.out (fun e => by cases e) HFF.out HOK.out).mono ?_
           rintro e3 w3 ⟨hb3, r3, b3, rfl, _⟩
           have HB3 := Lib.hid (HBW.out.trans (hb3.mono HBW.out.size))
           clear hb3)
        | (go_at_call 10
           refine (refuses_walk first.length l fA lA fc lc _ (by omega) (by omega) (HL.out _ HB3.out)).mono ?_
           rintro e4 w4 ⟨rfl, hb4⟩
           rw [HREF.out]
           have HB4 := Lib.hid (HB3.out.trans (hb4.mono HB3.out.size))
           clear hb4))
      go_ret
      exact ⟨ret_bool (by simp), HB1.out.trans (HB4.out.mono HB1.out.size)⟩
    · have hlen : l.length ≤ 14 ∨ 64 < l.length := by omega
      have hd : (decide ((14 : Int) < (l.length : Nat)) = true ∧ decide (((l.length : Nat) : Int) ≤ 64) = false) ∨ decide ((14 : Int) < (l.length : Nat)) = false := by
        rw [decide_eq_true_eq, decide_eq_false_iff_not, decide_eq_false_iff_not]
        omega
      clear hmid
      have HLEN := Lib.hid hlen
      clear hlen
      have hqM : ∀ V, (binOp .neq 27 (.agg #[.int .i64 0, .int .i64 0, .int .i64 77, .int .i64 0, .int .i64 0, .int .i64 0, .int .i64 0, .bool false]) (.agg #[.int .i64 0, .int .i64 0, .int .i64 77, .int .i64 0, .int .i64 0, .int .i64 0, .int .i64 0, .bool false])).run Try.prog V = .ok (.bool false) V := fun V => neqDeed ⟨0, 0, 77, 0, 0, 0, 0, false⟩ V
      have hg27 := guard27
      have HQM := Lib.hid hqM
      clear hqM
      rcases hd with ⟨d1, d2⟩ | d1
      all_goals
        go_wp2_with (go_at_call 11
                     rw [← hW]
                     refine (refOrder first l fA lA fc lc _ (HF.out _ HBW.out) (HL.out _ HBW.out) HF0.out hl200 hf1000 HLEN.out).mono ?_
                     intro e3 w3 hp3
                     obtain ⟨hb3, rA, rc, rfl, hown⟩ := hp3.own
                     have HB3 := Lib.hid hb3; have HOWN := Lib.hid hown
                     clear hp3 hb3 hown)
        clear c2 f2 hsub d1
        have HWN : Hid (Row w3 rA (nums (ansL first l))) := row_own HOWN.out
        have HG3 : Hid (w3.heap[g]? = some (.cells (nums (first ++ rooms)).toArray 3 (0, 0))) := heap_below HB3.out HG2.out
        have HH3 : Hid (w3.heap[h]? = some (.cells (deedCells l ++ markDeed).toArray 27 (0, 0))) := heap_below HB3.out HH2.out
        have HRG3 : Hid (Row w3 (some ⟨g, 0, none⟩) (nums first)) := HRG.out.below HB3.out
        have HRH3 : Hid (Row w3 (some ⟨h, 0, none⟩) (deedCells l)) := HRH.out.below HB3.out
        have HBA : Hid (Below w1.heap.size w1 w3) := HBW.out.trans (HB3.out.mono HBW.out.size)
        have hal : (ansL first l).length ≤ 4000000 := by have := ansL_short first l; omega
        go_loopg [14] 2 (fun k i wr => ∃ j : Nat, j ≤ 2 ∧ i = .int .i64 (j : Int) ∧ k = 2 - j ∧ Below w3.heap.size w3 wr)
        case atStart => exact ⟨0, by omega, rfl, rfl, Below.refl _ _⟩
        case round =>
          obtain ⟨j, hj, rfl, rfl, hb4⟩ := hrel
          obtain ⟨w4, hw4⟩ : ∃ w4 : World, w4 = wr := ⟨_, rfl⟩
          subst hw4
          have HB4 := Lib.hid hb4
          clear hb4
          by_cases hlt : j < 2
          · have ldM : ∀ q : BelowOf w3, (loadCellsFrom ⟨h, l.length * 8, none⟩ 0 8 #[]).run Try.prog q.v = .ok #[.int .i64 0, .int .i64 0, .int .i64 77, .int .i64 0, .int .i64 0, .int .i64 0, .int .i64 0, .bool false] q.v := by
              intro q
              exact run_loadCells_list (P := Try.prog) q.v ⟨h, l.length * 8, none⟩ markDeed (fun k v hv => by
                rw [addr_add, cell_of_row _ _ _ _ _ _ (q.heap HH3.out)]
                simp only [List.getElem?_toArray]
                rw [mark_get]
                exact hv)
            have hqM := HQM.out
            go_wp2_with (first
              | (go_at_call 9
                 refine (order_walk first l _ _ _ _ _ (HRG3.out.below HB4.out) (HRH3.out.below HB4.out) (fun e => by cases e) HFF.out HOK.out).mono ?_
                 intro e5 w5 hp5
                 obtain ⟨hb5, xA, xc, rfl, hx5⟩ := hp5.own
                 have HB5 := Lib.hid (HB4.out.trans (hb5.mono HB4.out.size)); have HX5 := Lib.hid hx5
                 clear hp5 hb5 hx5)
              | (go_at_call 12
                 refine (sameInts (ansL first l) (ansL first l) xA rA xc rc _ hal hal (row_own HX5.out) (HWN.out.below HB5.out)).mono ?_
                 rintro e6 w6 ⟨rfl, n6, rfl⟩
                 rw [decide_eq_true rfl]
                 have HB6 := Lib.hid (below_drewN HB5.out n6))
              | (go_at_call 13
                 refine (stays_walk first fA fc g _ (by omega) (HF.out _ (HBA.out.trans (HB6.out.mono HBA.out.size))) (heap_below HB6.out HG3.out)).mono ?_
                 rintro e7 w7 ⟨rfl, hb7⟩
                 have HX7 := Lib.hid (own_below (own_below HX5.out (below_drewN (Below.refl _ _) n6)) hb7)
                 obtain ⟨p7, rfl⟩ : ∃ q : BelowOf w3, w7 = q.v := ⟨⟨w7, HB6.out.trans (hb7.mono HB6.out.size)⟩, rfl⟩
                 clear hb7))
            clear ldM hqM
            have HB7 : Hid (Below w3.heap.size w3 p7.v) := p7.h
            obtain ⟨w7, hw7⟩ : ∃ w7, w7 = p7.v := ⟨_, rfl⟩
            rw [← hw7] at HB7 HX7 ⊢
            clear hw7 p7
            go_loopg [18] l.length (fun k i wr => ∃ i2 : Nat, i2 ≤ l.length ∧ i = .int .i64 (i2 : Int) ∧ k = l.length - i2 ∧ Below w7.heap.size w7 wr)
            case atStart => exact ⟨0, Nat.zero_le _, rfl, rfl, Below.refl _ _⟩
            case round =>
              obtain ⟨i2, hi2, rfl, rfl, hb8⟩ := hrel
              obtain ⟨w8, hw8⟩ : ∃ w8 : World, w8 = wr := ⟨_, rfl⟩
              subst hw8
              have HB8 := Lib.hid hb8
              have HB83 := Lib.hid (HB7.out.trans (hb8.mono HB7.out.size))
              clear hb8
              by_cases hlt2 : i2 < l.length
              · obtain ⟨d, hd⟩ : ∃ d, l[i2]? = some d := ⟨_, List.getElem?_eq_getElem hlt2⟩
                obtain ⟨b1, o1, e1, k1⟩ := load_deedB (HRH3.out.below HB83.out) hd
                obtain ⟨b2, o2, e2, k2⟩ := load_deedB (HL.out _ (HBA.out.trans (HB83.out.mono HBA.out.size))) hd
                injection e1 with e1
                injection e1 with e3 e4
                subst e3 e4 e2
                have kk1 : ∀ n, (loadCellsFrom ⟨h, 0 + i2 * 8, none⟩ 0 8 #[]).run Try.prog (w8.drewN n) = .ok #[.int .i64 d.begin_, .int .i64 d.end_, .int .i64 d.kind, .int .i64 d.a, .int .i64 d.b, .int .i64 d.c, .int .i64 d.n, .bool d.ok] (w8.drewN n) := fun n => k1 _ (below_drewN (Below.refl _ _) n)
                have kk2 : ∀ n, (loadCellsFrom ⟨b2, o2 + i2 * 8, none⟩ 0 8 #[]).run Try.prog (w8.drewN n) = .ok #[.int .i64 d.begin_, .int .i64 d.end_, .int .i64 d.kind, .int .i64 d.a, .int .i64 d.b, .int .i64 d.c, .int .i64 d.n, .bool d.ok] (w8.drewN n) := fun n => k2 _ (below_drewN (Below.refl _ _) n)
                simp only [Nat.zero_add] at kk1
                have hq5 := fun V => neqDeed d V
                have hl' : (i2 : Int) < l.length := by omega
                clear k1 k2 hd
                go_wp2_with fail
                go_quiet (fail)
                go_wp2_with fail
                go_roundg (l.length - (i2 + 1))
                case measure => omega
                case rel => exact ⟨i2 + 1, by omega, by go_num, rfl, below_drewN HB8.out _⟩
              · go_wp2_with fail
                have HX8 : Hid (w8.ownsRow w4.heap.size 3 1 (.slice xA (ansL first l).length xc) (ansL first l).length (nums (ansL first l))) := own_below HX7.out HB8.out
                go_loopg [19] (ansL first l).length (fun k i wr => ∃ (i3 : Nat) (ys : List Value), i3 ≤ (ansL first l).length ∧ i = .int .i64 (i3 : Int) ∧ k = (ansL first l).length - i3 ∧ Below w3.heap.size w3 wr ∧ wr.ownsRow w4.heap.size 3 1 (.slice xA (ansL first l).length xc) (ansL first l).length ys)
                case atStart => exact ⟨0, _, Nat.zero_le _, rfl, rfl, HB83.out, HX8.out⟩
                case round =>
                  obtain ⟨i3, ys, hi3, rfl, rfl, hb9, hx9⟩ := hrel
                  have HB9 := Lib.hid hb9; have HX9 := Lib.hid hx9
                  by_cases hlt3 : i3 < (ansL first l).length
                  · obtain ⟨xg, xc', hxe, hxg, _⟩ := hx9.form (by omega)
                    have hxe' : xA = some ⟨xg, 0, none⟩ := by
                      injection hxe
                    clear hxe
                    subst hxe'
                    have hy1 := hx9.1
                    have c9 := hx9.cellAt i3 (by omega)
                    rw [List.getElem?_eq_getElem (by omega)] at c9
                    obtain ⟨cs9, hcs9⟩ := own_block_cells hx9 (g := xg) rfl
                    have f9 : wr.frozen? ⟨xg, i3, none⟩ = false := frozen_block hcs9
                    clear hb9 hx9 hcs9
                    go_wp2_with fail
                    go_roundg ((ansL first l).length - (i3 + 1))
                    case measure => omega
                    case rel =>
                      refine ⟨i3 + 1, ys.set i3 (.int .i64 (-1)), ?_, ?_, ?_, ?_, ?_⟩
                      · omega
                      · go_num
                      · rfl
                      · exact HB9.out.setCell (Nat.le_trans HB4.out.size hxg) _
                      · exact (HX9.out.stored i3 (.int .i64 (-1))).1
                  · clear hb9 hx9
                    go_wp2_with fail
                    go_roundg (2 - (j + 1))
                    case measure => omega
                    case rel => exact ⟨j + 1, by omega, by go_num, rfl, HB9.out⟩
          · go_wp2_with fail
            go_ret
            exact ⟨rfl, HB1.out.trans ((HBA.out.trans (HB4.out.mono HBA.out.size)).mono HB1.out.size)⟩
end Go.Proofs.Ytpnegacfanbcfaa

/- JudgeOrders answers true for every input; what it reads stays. No condition. -/
namespace Go.Proofs.Ytpnegacfanbcfaa
open Go.RowKit Go.ChangeShapes Go.WideShapes Go.ChangeAt

theorem ordersOwn : ownKnob Try.prog.godebug = none := by kernel_rfl
theorem ordersLaidOut : laidOutB Try.prog = true := by kernel_rfl

set_option maxRecDepth 100000 in
set_option maxHeartbeats 1000000 in
theorem orders_contract (H : Type) (enc : TypeId × Value → H) (W : World) (base : Nat) (args : Array Value) (ds gs : List (DataW H)) (before : List MemPlace)
    (hval : ∀ (j : Nat) t v, Try.f3.params[j]? = some t → args[j]? = some v → Value.okWide Try.prog W .any base t v)
    (hW : DataW.Whole enc Try.prog Try.f3.params.toList Rows.judgeOrdersSpec.vars false W args.toList ds gs before) :
    Calls Try.prog 3 args W fun e W' => ∃ v, e = .returned v ∧ Rows.judgeOrdersSpec.post enc Try.prog Try.f3 false true false false W args v W' := by
  have hW' := hW
  obtain ⟨p, q, hA0, hV, rfl, hfz, hnd⟩ := hW
  have hA : DataW.TrodAll enc Try.prog W 0 (fun _ => true) true Try.f3.params.toList args.toList ds p := hA0
  rw [Try.params3] at hA hval
  obtain ⟨v0, vs0, d0, ds0, p0, q0, hargs, rfl, rfl, h0, r0⟩ := trodAll_cons hA
  obtain ⟨v1, vs1, d1, ds1, p1, q1, rfl, rfl, rfl, h1, r1⟩ := trodAll_cons r0
  obtain ⟨rfl, rfl, rfl⟩ := trodAll_nil r1
  obtain rfl : args = #[v0, v1] := by
    apply Array.toList_inj.1
    rw [hargs]
  obtain ⟨rfl, rfl⟩ := trodVars_none hV
  have h0k := h0
  have h1k := h1
  obtain ⟨fu0, hf0⟩ := h0
  obtain ⟨fu1, hf1⟩ := h1
  obtain ⟨a0, l0, c0, rfl⟩ := okWide_slice Try.underlying22 (hval 0 22 v0 (by simp) (by simp))
  obtain ⟨a1, l1, c1, rfl⟩ := okWide_slice Try.underlying23 (hval 1 23 v1 (by simp) (by simp))
  obtain ⟨fA, first, fc, e0, g1, g2, g3, g4, g5, _⟩ := openInts hf0
  obtain ⟨lA, l, lc, e1, k1, k2, k3, k4, k5⟩ := openDeeds hf1
  cases e0
  cases e1
  clear hA0
  simp only [List.append_nil] at hW'
  have hlt : ∀ x ∈ p0 ++ p1, x.block < W.heap.size := fun x hx => by simpa using hW'.lt x hx
  refine (orders_law first l a0 a1 c0 c1 W g1 k1 g3 k3 g2 k2).mono fun e W' ⟨he, hbl⟩ => ?_
  subst he
  exact ⟨_, rfl, ⟨_, _, _, [], _, [], hW', trodAll_cons_mk (shut_bool Try.underlying4 _) trodAll_mk0,
    trodAll_cons_mk (Below.trod ordersLaidOut (by kernel_rfl) (of_decide_eq_true (by kernel_rfl)) h0k hbl (fun x hx => hlt x (List.mem_append_left _ hx))) (trodAll_cons_mk (Below.trod ordersLaidOut (by kernel_rfl) (of_decide_eq_true (by kernel_rfl)) h1k hbl (fun x hx => hlt x (List.mem_append_right _ hx))) trodAll_mk0), rfl, hbl.frame _, fun h => by cases h⟩⟩

set_option maxRecDepth 100000 in
theorem orders_lifted (os : Os) (started : os.Started) (H : Type) (enc : TypeId × Value → H) :
    ReturnsInHanded {} Try.checked os 3 .any (Rows.judgeOrdersSpec.pre6 enc Try.prog Try.f3 Rows.judgeOrdersRow.domain false) (Rows.judgeOrdersSpec.post enc Try.prog Try.f3 false true false false) := by
  refine returnsInHanded_of_change (C := Try.checked) ordersOwn started (by kernel_rfl) Try.func3
    (ChangeSpec.witness6 (enc := enc) (C := Try.checked) false ⟨#[], #[.slice none 0 0, .slice none 0 0], []⟩ 8 (by kernel_rfl) (by kernel_rfl) (by kernel_rfl) (by kernel_rfl)) ?_
  intro W base args ds gs before hval hW _ _
  exact orders_contract H enc W base args ds gs before hval hW

theorem judgeOrders : Rows.JudgeOrdersSaid :=
  OpenClaim.holds_of_wide 3 Try.f3 rfl rfl rfl rfl rfl rfl rfl ⟨rfl, rfl, rfl, rfl, rfl⟩ rfl rfl rfl rfl rfl (by kernel_rfl) Try.func3 (by kernel_rfl)
    (of_decide_eq_true (by kernel_rfl)) (by unfold Func.isWrapper; first | (rw [if_pos (by decide +kernel)]; kernel_rfl) | (rw [if_neg (by decide +kernel)]; exact ⟨rfl, rfl⟩))
    (fun os started H enc _ => orders_lifted os started H enc)
#print axioms judgeOrders
end Go.Proofs.Ytpnegacfanbcfaa
