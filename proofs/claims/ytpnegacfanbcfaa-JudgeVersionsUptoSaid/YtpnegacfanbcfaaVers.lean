/- judge.Versions: the contract. Sizes are at most 3000. -/
import Derived.Test.YtpnegacfanbcfaaVersP
import Derived.Deep.RegionLaw
import Derived.Laws.MakeOwn
namespace Go.Proofs.Ytpnegacfanbcfaa
open Go.RowKit Go.Maps

theorem make_bools (n : Nat) (hn : n ≤ 64) : ∃ Z : Array Value, Z.size = n ∧ Z.toList = busyCells [] n ∧ ∀ w : World, (Instr.makeSlice 82 (.int .i64 (n : Int)) (.int .i64 (n : Int))).run Try.prog w = .ok (.slice (some ⟨w.heap.size, 0, none⟩) n n) (w.alloc (.cells Z 4)) := by
  obtain ⟨ht, hs, i, z, hi, hz, h2, h3, h4⟩ := elemBool
  have hz' : z = .bool false := by
    have h : (Try.prog.info? 4).bind (fun i => i.zero) = some (.bool false) := by kernel_rfl
    rw [hi] at h
    simp only [Option.bind_some] at h
    rw [hz] at h
    injection h
  subst hz'
  refine ⟨madeCells (Value.bool false).cells (n * 1), by simp [size_madeCells], ?_, fun w => ?_⟩
  · apply List.ext_getElem?
    intro j
    simp only [madeCells, busyCells, busyB, List.any_nil, Array.toList_map, Array.toList_range, List.getElem?_map, Nat.mul_one]
    by_cases hj : j < n
    · simp [hj, Value.cells, Nat.mod_one]
    · simp [hj]
  · have := run_makeSlice (P := Try.prog) (w := w) 82 4 i (.bool false) ht hi hz .i64 .i64 (n : Int) (n : Int) (by omega) (Int.le_refl _) (by rw [h2]; simp; omega) (by rw [h3]; omega) (by omega)
    rw [h2] at this
    simpa using this

theorem ne_of_bne0 {x : Int} (h : (x != 0) = true) : x ≠ 0 := by simpa using h
theorem elemList : ElemOk Try.prog 96 100 1 24 := elemOk_of (by kernel_rfl) (by decide) (.slice none 0 0) (by kernel_rfl) rfl
attribute [-go_sem] loadCellsFrom
set_option maxRecDepth 100000 in
set_option maxHeartbeats 2000000 in
theorem versGo (l : List Ev) (starts : List (List (Int × Int))) (heads : List (Option Addr × Nat)) (lA sA : Option Addr) (lc sc : Nat) (w : World) (hrow : Row w lA (evCells l)) (hin : ∀ e ∈ l, e.In w) (hok : ∀ e ∈ l, e.Ok) (hsm : ∀ e ∈ l, e.Small)
    (hst : StartIn starts heads sA w) (hsl : ∀ s ∈ starts, s.length ≤ 3000) (hsk : ∀ s ∈ starts, ∀ p ∈ s, inI64 p.1) (h1 : l.length ≤ 1024) (h2 : 1 ≤ starts.length) (h3 : starts.length ≤ 64) :
    Calls Try.prog 20 #[.slice sA starts.length sc, .slice lA l.length lc] w (VersPost l starts w) := by
  obtain ⟨Z, hZ1, hZ2, hmk⟩ := make_bools starts.length h3
  have HROW := Lib.hid hrow; have HIN := Lib.hid hin; have HOK := Lib.hid hok; have HSM := Lib.hid hsm; have HST := Lib.hid hst; have HSL := Lib.hid hsl; have HSK := Lib.hid hsk; have HZ1 := Lib.hid hZ1; have HZ2 := Lib.hid hZ2
  clear hrow hin hok hsm hst hsl hsk hZ1 hZ2
  have t1 : ((starts.length : Int) == 0) = false := by
    have : ¬ ((starts.length : Int) = 0) := by omega
    simpa using this
  have t2 : (l.length : Int) ≤ 1024 := by omega
  have t3 : (starts.length : Int) ≤ 64 := by omega
  have t4 : decide ((1024 : Int) < (l.length : Int)) = false := by simp; omega
  have t5 : decide ((64 : Int) < (starts.length : Int)) = false := by simp; omega
  go_enter Try.func20, Try.ntmps20
  go_wp2_with fail
  go_loopg [34] l.length (fun k i wr => V1Rel l starts lA lc w k i wr)
  case atStart =>
    refine ⟨0, Nat.zero_le _, rfl, rfl, .slice none 0 0, ?_, ⟨rfl, .inl ⟨rfl, rfl⟩⟩, ?_, ?_⟩
    · have := heap_alloc_new (w.alloc (.cells Z 4)) (.cells #[.slice lA l.length lc, .slice none 0 0, .slice none 0 0, .slice (some ⟨w.heap.size, 0, none⟩) starts.length starts.length, .slice none 0 0] 98)
      rw [World.heap_size_alloc'] at this
      exact this
    · have := (World.ownsRow_lit (base := w.heap.size) (e := 4) (size := 1) w Z starts.length (Nat.le_refl _) (by unfold maxLen; omega) (by rw [HZ1.out]; omega)).alloc (.cells #[.slice lA l.length lc, .slice none 0 0, .slice none 0 0, .slice (some ⟨w.heap.size, 0, none⟩) starts.length starts.length, .slice none 0 0] 98)
      rw [HZ2.out] at this
      exact this
    · exact ((Below.refl _ _).alloc (Nat.le_refl _) _).alloc (by simp) _
  case round =>
    obtain ⟨j, hj, rfl, rfl, rv, hv1⟩ := hrel
    clear hmk
    by_cases hlt : j < l.length
    · obtain ⟨e, he⟩ : ∃ e, l[j]? = some e := ⟨_, List.getElem?_eq_getElem hlt⟩
      have hel := List.mem_of_getElem? he
      obtain ⟨b0, off, hA, hld⟩ := load_ev (HROW.out.below hv1.b) he
      subst hA
      have hltw := hv1.lt
      obtain ⟨rA, rc, hrv, _, _⟩ := row_of_own hv1.o
      have hba : Below wr.heap.size wr (wr.alloc (.cells e.arr 52)) := (Below.refl _ _).alloc (Nat.le_refl _) _
      have ldE : (loadCellsFrom ⟨wr.heap.size, 0, none⟩ 0 13 #[]).run Try.prog (wr.alloc (.cells e.arr 52)) = .ok e.arr (wr.alloc (.cells e.arr 52)) := load_block (heap_alloc_new wr _) rfl
      have hia := (HIN.out e hel).below (hv1.b.trans (hba.mono hv1.b.size))
      have HV1 := Lib.hid hv1; have HIA := Lib.hid hia; have HE := Lib.hid he; have HEL := Lib.hid hel; have HBA := Lib.hid hba
      unfold Ev.arr at hld ldE
      clear hv1 he hel hia hba
      subst hrv
      go_upto_region 8 with (go_at_call 38; refine (judgeIs e starts.length _ ⟨by omega, by omega⟩ (HSM.out e HEL.out).1 HIA.out).mono ?_; rintro e1 w1 ⟨rfl, hb1⟩; have HB1 := Lib.hid hb1; clear hb1)
      have hbw1 : Below wr.heap.size wr w1 := HBA.out.trans (HB1.out.mono HBA.out.size)
      have hv1 := HV1.out.below hbw1
      have hP1 : w1.heap[wr.heap.size]? = some (.cells e.arr 52 (0, 0)) := (HB1.out.block _ (by simp)).trans (heap_alloc_new wr _)
      have c1 : w1.cell? ⟨w.heap.size + 1, 1, none⟩ = some (.slice rA j rc) := cell_of_row _ _ _ _ _ _ hv1.x
      have hltw1 := hv1.lt
      have HV1w := Lib.hid hv1; have HP1 := Lib.hid hP1; have HBW1 := Lib.hid hbw1
      clear hv1 hP1 hbw1 hld ldE
      go_cut [] (fun wc => V1Mid l starts (some ⟨b0, off, none⟩) lc w j wr.heap.size e wc)
      case first =>
        go_wp2_with (at_builtin; refine wpList_append_is rfl (.tmp 46) (.tmp 48) rfl elemBool rfl (HV1w.out.o.alloc (.cells #[.bool (isB e starts.length)] 4)) _ 1 _ [.bool (isB e starts.length)] rfl (row_new w1 [.bool (isB e starts.length)] 4) rfl (by simp [Value.oneCell']) (by unfold maxLen; omega) (by omega) (by show _ ≤ (w1.alloc _).heap.size; simp; omega) (fun h => by cases h) ?_; intro v2 w2 ho2 hg2 hat2; obtain ⟨A2, c2, rfl, _, _⟩ := row_of_own ho2; have hx2 : w2.heap[w.heap.size + 1]? = some (.cells #[.slice (some ⟨b0, off, none⟩) l.length lc, .slice rA j rc, .slice none 0 0, .slice (some ⟨w.heap.size, 0, none⟩) starts.length starts.length, .slice none 0 0] 98 (0, 0)) := (hg2.block _ (by simp; omega) (fun h => by have := (HV1w.out.o.lt _ h.symm).1; omega)).trans (((Below.refl w1.heap.size w1).alloc (Nat.le_refl _) _).block _ (by omega) |>.trans HV1w.out.x); have y1 : w2.cell? ⟨w.heap.size + 1, 1, none⟩ = some (.slice rA j rc) := cell_of_row _ _ _ _ _ _ hx2; have yz : w2.frozen? ⟨w.heap.size + 1, 1, none⟩ = false := frozen_block hx2; have HX2 := Lib.hid hx2; have HO2 := Lib.hid ho2; have HG2 := Lib.hid hg2; clear hx2 ho2 hg2 hat2)
        go_meet
        have hva := HV1w.out.below ((Below.refl w1.heap.size w1).alloc (Nat.le_refl _) (.cells #[.bool (isB e starts.length)] 4))
        have hcells : rightCells (l.take (j + 1)) starts.length = rightCells (l.take j) starts.length ++ [.bool (isB e starts.length)] := by
          rw [take_snoc' HE.out]
          simp [rightCells]
        refine ⟨⟨_, hva.append HG2.out (by rw [hcells]; exact HO2.out)⟩, ?_, by omega⟩
        have hPa : (w1.alloc (.cells #[.bool (isB e starts.length)] 4)).heap[wr.heap.size]? = some (.cells e.arr 52 (0, 0)) := (((Below.refl w1.heap.size w1).alloc (Nat.le_refl _) _).block _ (Array.getElem?_eq_some_iff.1 HP1.out).1).trans HP1.out
        have hP2 := (HG2.out.block wr.heap.size (Array.getElem?_eq_some_iff.1 hPa).1 (fun h => own_ne hva.o (fun cs hc => by rw [hPa] at hc; cases hc) h.symm)).trans hPa
        exact (Below.heap_setCell _ _ _ _ (by show wr.heap.size ≠ w.heap.size + 1; omega)).trans hP2
      case rest =>
        obtain ⟨⟨rv2, hv2⟩, hP, hPB⟩ := hcut
        obtain ⟨V, hVE⟩ : ∃ V, V = wc := ⟨_, rfl⟩
        subst hVE
        clear c1
        have ldP : (loadCellsFrom ⟨wr.heap.size, 0, none⟩ 0 13 #[]).run Try.prog V = .ok e.arr V := load_block hP rfl
        have n2 : V.cell? ⟨wr.heap.size, 2, none⟩ = some (.int .i64 e.end_) := cell_of_row _ _ _ _ _ _ hP
        have HV2 := Lib.hid hv2; have HP := Lib.hid hP
        clear hv2 hP
        go_wp2_with (go_at_call 39; refine (judgeWritesV e _).mono ?_; rintro e1 w3 ⟨rfl, hb3⟩; have hP3 : w3.heap[wr.heap.size]? = some (.cells e.arr 52 (0, 0)) := (hb3.block _ (Array.getElem?_eq_some_iff.1 HP.out).1).trans HP.out; have n23 : w3.cell? ⟨wr.heap.size, 2, none⟩ = some (.int .i64 e.end_) := cell_of_row _ _ _ _ _ _ hP3; have HB3 := Lib.hid hb3; have HP3 := Lib.hid hP3; clear hb3 hP3)
        · have hyes : (isB e starts.length && writesB e && decide (e.end_ = 0)) = true := by simp_all
          have hib : isB e starts.length = true := by assumption
          obtain ⟨hp0, hp1⟩ := isB_part hib
          obtain ⟨pn, hpn⟩ : ∃ pn : Nat, e.part = pn := ⟨e.part.toNat, by omega⟩
          have hpl : pn < starts.length := by omega
          have hpl' : (pn : Int) < starts.length := by omega
          have hv3 := HV2.out.below HB3.out
          have m3 : w3.cell? ⟨w.heap.size + 1, 3, none⟩ = some (.slice (some ⟨w.heap.size, 0, none⟩) starts.length starts.length) := cell_of_row _ _ _ _ _ _ hv3.x
          have m4 : w3.cell? ⟨wr.heap.size, 4, none⟩ = some (.int .i64 (pn : Int)) := by rw [← hpn]; exact cell_of_row _ _ _ _ _ _ HP3.out
          have hcb := hv3.y.cells (g := w.heap.size) rfl pn (.bool (busyB (l.take j) starts.length pn)) (by simp [busyCells, hpl])
          rw [addr_add] at hcb
          have m5 : w3.cell? ⟨w.heap.size, pn, none⟩ = some (.bool (busyB (l.take j) starts.length pn)) := by simpa using hcb
          obtain ⟨ycs, hyc⟩ := own_block_cells hv3.y (g := w.heap.size) rfl
          have m6 : w3.frozen? ⟨w.heap.size, pn, none⟩ = false := frozen_block hyc
          have HV3 := Lib.hid hv3; have HYES := Lib.hid hyes; have HPN := Lib.hid hpn
          clear hv3 hyes hpn hib hp0 hp1 hcb hyc
          go_region
          all_goals
            go_wp2_with fail
            go_roundg (l.length - (j + 1))
            case measure => omega
            case rel => exact ⟨j + 1, by omega, by go_num, rfl, rv2, V1.yes (wr := w3.drew) ⟨HV3.out.x, HV3.out.o, HV3.out.y, HV3.out.b.drew⟩ HE.out HYES.out HPN.out hpl⟩
        all_goals
          have hno : (isB e starts.length && writesB e && decide (e.end_ = 0)) = false := by simp_all
          have HNO := Lib.hid hno
          clear hno
          go_roundg (l.length - (j + 1))
          case measure => omega
          case rel => exact ⟨j + 1, by omega, by go_num, rfl, rv2, (by first | exact HV2.out.below HB3.out | exact HV2.out : V1 l starts (some ⟨b0, off, none⟩) lc w (j + 1) j rv2 _).no HE.out HNO.out⟩
    · have hjl : j = l.length := by omega
      subst hjl
      have hv2 := hv1.two
      have HV2 := Lib.hid hv2
      clear hv2 hv1
      obtain ⟨wA, hwA⟩ : ∃ wA, wA = wr := ⟨_, rfl⟩
      subst hwA
      go_wp2_with fail
      go_loopg [72] starts.length (fun k i wr => V2Rel l starts lA lc w rv (.slice (some ⟨w.heap.size, 0, none⟩) starts.length starts.length) k i wr)
      case atStart => exact ⟨0, Nat.zero_le _, rfl, rfl, _, HV2.out⟩
      case round =>
        obtain ⟨j2, hj2, rfl, rfl, tv, hv2⟩ := hrel
        by_cases hlt2 : j2 < starts.length
        · obtain ⟨s, hs⟩ : ∃ s, starts[j2]? = some s := ⟨_, List.getElem?_eq_getElem hlt2⟩
          obtain ⟨h, hh⟩ : ∃ h, heads[j2]? = some h := ⟨_, List.getElem?_eq_getElem (by rw [HST.out.len]; exact hlt2)⟩
          obtain ⟨s0, soff, hsA, hsc⟩ := (HST.out.row.below hv2.b) j2 (.slice h.1 s.length h.2) (by rw [List.getElem?_map, (List.getElem?_zip_eq_some.2 ⟨hs, hh⟩ : (starts.zip heads)[j2]? = some (s, h))]; rfl)
          obtain ⟨tvs, ht, hts⟩ := hv2.t
          obtain ⟨tA, tc, htv, _, _⟩ := row_of_own ht
          obtain ⟨rA, rc, hrv, hrr, _⟩ := row_of_own hv2.r
          subst htv
          have hltw := hv2.lt
          have k2 : wr.cell? ⟨w.heap.size + 1, 2, none⟩ = some (.slice tA j2 tc) := cell_of_row _ _ _ _ _ _ hv2.x
          have k2p : ∀ p : BelowOf wr, p.v.cell? ⟨w.heap.size + 1, 2, none⟩ = some (.slice tA j2 tc) := fun p => p.cell k2
          have k2q : ∀ (p : BelowOf wr) o, (p.v.alloc o).cell? ⟨w.heap.size + 1, 2, none⟩ = some (.slice tA j2 tc) := fun p o => cell_below ((Below.refl _ _).alloc (Nat.le_refl _) o) _ _ (p.cell k2)
          have hsl2 := HSL.out s (List.mem_of_getElem? hs)
          have hsk2 := HSK.out s (List.mem_of_getElem? hs)
          have hsr := (HST.out.parts j2 s h hs hh).below hv2.b
          have htold : toldAt l starts j2 = told l starts.length s j2 := by simp [toldAt, hs]
          have HV2w := Lib.hid hv2; have HT := Lib.hid ht; have HTS := Lib.hid hts; have HRV := Lib.hid hrv; have HRR := Lib.hid hrr; have HSR := Lib.hid hsr; have HSL2 := Lib.hid hsl2; have HSK2 := Lib.hid hsk2; have HTD := Lib.hid htold
          clear hs hh hv2 ht hts hrv hrr hsr hsl2 hsk2 htold
          subst hsA
          go_wp2_with fail
          go_region_law (first
            | (go_simp; go_at_call 40
               refine (judgeTells l starts.length j2 s h.1 h.2 (w.heap.size + 1) lA rA lc rc (.slice tA j2 tc) (.slice (some ⟨w.heap.size, 0, none⟩) starts.length starts.length) (.slice none 0 0) wr.drew h1 (by rw [← HRV.out]; exact HV2w.out.x) (HROW.out.below HV2w.out.b.drew) HRR.out HOK.out (fun e he => (HIN.out e he).below HV2w.out.b.drew) (fun e he => (HSM.out e he).2) HSR.out HSL2.out HSK2.out).mono ?_
               rintro e1 w1 ⟨v, bs, rfl, htl, hbl⟩
               obtain ⟨vA, vc, rfl, _, _⟩ := row_of_own htl.own
               obtain ⟨p, rfl⟩ : ∃ p : BelowOf wr, w1 = p.v := ⟨⟨w1, Below.trans (Below.refl wr.heap.size wr).drew hbl⟩, rfl⟩
               have HTL := Lib.hid htl
               clear htl hbl)
            | (refine step_append_is rfl (.tmp 79) (.tmp 87) rfl elemList rfl (base := w.heap.size) (n := j2) (xs := tvs) ((own_below HT.out (BelowOf.h _)).alloc _) _ 1 _ [.slice vA (told l starts.length s j2).length vc] rfl (row_new _ [.slice vA (told l starts.length s j2).length vc] 100) rfl (by simp [Value.oneCell']) (by unfold maxLen; omega) (by omega) (by have := BelowOf.le_alloc p (.cells #[.slice vA (told l starts.length s j2).length vc] 100); have := HV2w.out.b.size; omega) (fun e => by cases e) ?_
               intro v6 w6 ho6 hg6 hat6
               obtain ⟨A6, c6, rfl, _, _⟩ := row_of_own ho6
               have hva := HV2w.out.below (p.h.alloc p.h.size (.cells #[.slice vA (told l starts.length s j2).length vc] 100))
               have hx6 := (hg6.block _ hva.lt (fun e => own_ne ((own_below HT.out (BelowOf.h _)).alloc _) (fun cs hc => by rw [hva.x] at hc; cases hc) e.symm)).trans hva.x
               have y6 : w6.cell? ⟨w.heap.size + 1, 2, none⟩ = some (.slice tA j2 tc) := cell_of_row _ _ _ _ _ _ hx6
               have yz : w6.frozen? ⟨w.heap.size + 1, 2, none⟩ = false := frozen_block hx6
               have HFIN : Hid (V2 l starts lA lc w rv (.slice (some ⟨w.heap.size, 0, none⟩) starts.length starts.length) (j2 + 1) (.slice A6 (j2 + 1) c6) (w6.setCell ⟨w.heap.size + 1, 2, none⟩ (.slice A6 (j2 + 1) c6))) := by
                 refine V2.append (tvs := tvs) (bs := bs) hva ((own_below HT.out (BelowOf.h _)).alloc _) (fun q u hq => ?_) ?_ hg6 ho6
                 · obtain ⟨bs', hb'⟩ := HTS.out q u hq
                   exact ⟨bs', hb'.below (p.h.alloc p.h.size _)⟩
                 · rw [HTD.out]
                   exact (HTL.out.base HV2w.out.b.size).below ((Below.refl _ _).alloc (Nat.le_refl _) _)
               clear hx6 ho6 hg6 hat6 hva))
          all_goals
            go_wp2_with fail
            go_roundg (starts.length - (j2 + 1))
            case measure => omega
            case rel => exact ⟨j2 + 1, by omega, by go_num, rfl, _, HFIN.out⟩
        · have hjl : j2 = starts.length := by omega
          subst hjl
          obtain ⟨henv, hhst⟩ := hv2.env
          have H30 : Hid (V3 l starts lA lc w rv tv (.slice (some ⟨w.heap.size, 0, none⟩) starts.length starts.length) (allU l starts 0) wr) := ⟨henv, _, hhst⟩
          clear henv hhst hv2
          obtain ⟨wB, hwB⟩ : ∃ wB, wB = wr := ⟨_, rfl⟩
          subst hwB
          go_wp2_with fail
          go_loopg [94] l.length (fun k i wr => V3Rel l starts lA lc w rv tv (.slice (some ⟨w.heap.size, 0, none⟩) starts.length starts.length) k i wr)
          case atStart => exact ⟨0, Nat.zero_le _, rfl, rfl, H30.out⟩
          case round =>
            obtain ⟨j3, hj3, rfl, rfl, henv, ov, hhst⟩ := hrel
            by_cases hlt3 : j3 < l.length
            · obtain ⟨a, ha⟩ : ∃ a, l[j3]? = some a := ⟨_, List.getElem?_eq_getElem hlt3⟩
              have hal := List.mem_of_getElem? ha
              have hbn := allU_le (starts := starts) h1 hj3
              have hroww := HROW.out.below henv.b
              obtain ⟨b0, off, hA, _⟩ := load_ev hroww ha
              subst hA
              have HENV := Lib.hid henv; have HHST := Lib.hid hhst; have HA := Lib.hid ha; have HAL := Lib.hid hal; have HBN := Lib.hid hbn
              clear henv hhst ha hal hbn hroww
              go_wp2_with (go_at_call 41; refine (judgeSelf l starts w.heap.size (w.heap.size + 1) _ lc rv tv _ ov _ j3 a w _ HHST.out HENV.out (by have := HBN.out; omega) (HROW.out.below HENV.out.b) HA.out h1 h3 (HOK.out a HAL.out)).mono ?_; rintro e1 w1 ⟨rfl, hk1, hst1⟩; have henv1 := HENV.out.keeps hk1 ⟨_, HHST.out.x⟩; obtain ⟨ov1, hst1⟩ := hst1; obtain ⟨rA1, rc1, hrv1, hrr1⟩ := henv1.right; have hrl1 : w1.cell? ⟨w.heap.size + 1, 1, none⟩ = some rv := cell_of_row _ _ _ _ _ _ hst1.x; rw [hrv1] at hrl1; obtain ⟨r0, roff, hrA, hrc⟩ := hrr1 j3 (.bool (isB a starts.length)) (by simp [rightCells, HA.out]); have hle := (HROW.out.below henv1.b).evEnd HA.out _ _ rfl; have HENV1 := Lib.hid henv1; have HST1 := Lib.hid hst1; have HRV1 := Lib.hid hrv1; clear henv1 hst1 hk1 hrr1 hrv1; subst hrA)
              · have hz : (a.end_ == 0) = true := by assumption
                have hno : goneB starts.length a = false := by
                  have : a.end_ = 0 := by simpa using hz
                  simp [goneB, this]
                have HNO := Lib.hid hno
                clear hno
                go_roundg (l.length - (j3 + 1))
                case measure => omega
                case rel =>
                  refine ⟨j3 + 1, by omega, by go_num, rfl, ?_⟩
                  rw [allU_succ HA.out]
                  simp only [oneU, HNO.out, Bool.false_eq_true, if_false, List.append_nil]
                  exact ⟨HENV1.out, ov1, HST1.out⟩
              · have hra : isB a starts.length = true := by assumption
                have hea' : (a.end_ == 0) = false := by assumption
                have hea : a.end_ ≠ 0 := by simpa using hea'
                have hyes : goneB starts.length a = true := by simp [goneB, hra, hea]
                have hs2 := selfL_length l starts j3 a
                rw [hea']
                have HRA := Lib.hid hra; have HEA := Lib.hid hea; have HYES := Lib.hid hyes; have HS2 := Lib.hid hs2
                clear hra hea hyes hs2 hle hrc hrl1
                obtain ⟨wC, hwC⟩ : ∃ wC, wC = w1 := ⟨_, rfl⟩
                subst hwC
                go_loopg [118] l.length (fun k i wr => V4Rel l starts (some ⟨b0, off, none⟩) lc w rv tv (.slice (some ⟨w.heap.size, 0, none⟩) starts.length starts.length) j3 a k i wr)
                case atStart => exact ⟨0, Nat.zero_le _, rfl, rfl, HENV1.out, ov1, by simpa [besU] using HST1.out⟩
                case round =>
                  obtain ⟨k4, hk4, rfl, rfl, henv4, ov4, hst4⟩ := hrel
                  by_cases hlt4 : k4 < l.length
                  · obtain ⟨b, hb⟩ : ∃ b, l[k4]? = some b := ⟨_, List.getElem?_eq_getElem hlt4⟩
                    have hbl := List.mem_of_getElem? hb
                    obtain ⟨rA2, rc2, hrv2, hrr2⟩ := henv4.right
                    have hrl2 : wr.cell? ⟨w.heap.size + 1, 1, none⟩ = some rv := cell_of_row _ _ _ _ _ _ hst4.x
                    rw [hrv2] at hrl2
                    obtain ⟨r2, roff2, hrA2, hrc2⟩ := hrr2 k4 (.bool (isB b starts.length)) (by simp [rightCells, hb])
                    have hle2 := (HROW.out.below henv4.b).evEnd hb _ _ rfl
                    have hbn2 := besU_length l starts.length j3 a k4 hk4
                    have HENV4 := Lib.hid henv4; have HST4 := Lib.hid hst4; have HRV2 := Lib.hid hrv2; have HB := Lib.hid hb; have HBL := Lib.hid hbl; have HBN2 := Lib.hid hbn2
                    clear henv4 hst4 hrr2 hrv2 hb hbl hbn2
                    subst hrA2
                    have hne : ((k4 : Int) != (j3 : Int)) = !decide (k4 = j3) := by
                      by_cases h : k4 = j3
                      · subst h
                        simp
                      · have h' : ¬ (k4 : Int) = j3 := by omega
                        simp [h, h']
                    by_cases hkj : k4 = j3
                    · have hne' : ((k4 : Int) != (j3 : Int)) = false := by rw [hne]; simp [hkj]
                      have HKJ := Lib.hid hkj
                      clear hne hkj
                      go_wp2_with fail
                      go_roundg (l.length - (k4 + 1))
                      case measure => omega
                      case rel =>
                        refine ⟨k4 + 1, by omega, by go_num, rfl, HENV4.out, ov4, ?_⟩
                        have hbk : besideK starts.length j3 a (b, k4) = [] := by simp [besideK, HKJ.out]
                        rw [besU_succ HB.out, hbk, List.append_nil]
                        exact HST4.out
                    · have hne' : ((k4 : Int) != (j3 : Int)) = true := by rw [hne]; simp [hkj]
                      have HKJ := Lib.hid hkj
                      clear hne hkj
                      go_wp2_with (go_at_call 42; refine (judgeBesideAll l w.heap.size (w.heap.size + 1) _ lc rv tv _ ov4 _ j3 k4 a b starts.length _ HST4.out (by have := HBN.out; have := HS2.out; have := HBN2.out; simp only [List.length_append]; omega) (HROW.out.below HENV4.out.b) HA.out HB.out h1 ((HIN.out a HAL.out).below HENV4.out.b) ((HIN.out b HBL.out).below HENV4.out.b) (HSM.out a HAL.out) (HSM.out b HBL.out) HRA.out (by assumption) HEA.out (ne_of_bne0 (by assumption))).mono ?_; rintro e5 w5 ⟨rfl, hk5, hst5⟩; have HK5 := Lib.hid hk5; have HST5 := Lib.hid hst5; clear hk5 hst5)
                      · have hrb : isB b starts.length = true := by assumption
                        have heb : b.end_ ≠ 0 := ne_of_bne0 (by assumption)
                        have hbk : besideK starts.length j3 a (b, k4) = besideL j3 k4 a b := by simp [besideK, HKJ.out, goneB, hrb, heb]
                        have HBK := Lib.hid hbk
                        clear hbk hrb heb
                        go_roundg (l.length - (k4 + 1))
                        case measure => omega
                        case rel =>
                          obtain ⟨ov5, hst5⟩ := HST5.out
                          refine ⟨k4 + 1, by omega, by go_num, rfl, HENV4.out.keeps HK5.out ⟨_, HST4.out.x⟩, ov5, ?_⟩
                          rw [besU_succ HB.out, HBK.out, ← List.append_assoc]
                          exact hst5
                      all_goals
                        have hbk : besideK starts.length j3 a (b, k4) = [] := by
                          first
                            | (have h : (b.end_ != 0) = false := by assumption
                               have h0 : b.end_ = 0 := by simpa using h
                               simp [besideK, goneB, h0])
                            | (have h : ¬ isB b starts.length = true := by assumption
                               rw [Bool.not_eq_true] at h
                               simp [besideK, goneB, h])
                        have HBK := Lib.hid hbk
                        clear hbk
                        go_roundg (l.length - (k4 + 1))
                        case measure => omega
                        case rel =>
                          refine ⟨k4 + 1, by omega, by go_num, rfl, HENV4.out, ov4, ?_⟩
                          rw [besU_succ HB.out, HBK.out, List.append_nil]
                          exact HST4.out
                  · have hkl : k4 = l.length := by omega
                    subst hkl
                    have HENV4 := Lib.hid henv4; have HST4 := Lib.hid hst4
                    clear henv4 hst4
                    go_wp2_with fail
                    go_roundg (l.length - (j3 + 1))
                    case measure => omega
                    case rel =>
                      refine ⟨j3 + 1, by omega, by go_num, rfl, ?_⟩
                      rw [allU_succ HA.out]
                      simp only [oneU, HYES.out, if_true]
                      rw [← List.append_assoc]
                      exact ⟨HENV4.out, ov4, HST4.out⟩
              · have hni : ¬ isB a starts.length = true := by assumption
                have hno : goneB starts.length a = false := by
                  rw [Bool.not_eq_true] at hni
                  simp [goneB, hni]
                have HNO := Lib.hid hno
                clear hno
                go_roundg (l.length - (j3 + 1))
                case measure => omega
                case rel =>
                  refine ⟨j3 + 1, by omega, by go_num, rfl, ?_⟩
                  rw [allU_succ HA.out]
                  simp only [oneU, HNO.out, Bool.false_eq_true, if_false, List.append_nil]
                  exact ⟨HENV1.out, ov1, HST1.out⟩
            · have hjl : j3 = l.length := by omega
              subst hjl
              have hbn := allU_le (starts := starts) h1 (Nat.le_refl l.length)
              obtain ⟨oA, oc, rfl, _, _⟩ := row_of_own hhst.o
              have o4 : wr.cell? ⟨w.heap.size + 1, 4, none⟩ = some (.slice oA (allU l starts l.length).length oc) := cell_of_row _ _ _ _ _ _ hhst.x
              have hlt := hhst.lt
              have HENV := Lib.hid henv; have HHST := Lib.hid hhst; have HBN := Lib.hid hbn
              clear henv hhst hbn
              go_wp2_with (go_at_call 43; refine (judgeSort (allU l starts l.length) _ w.heap.size _ HHST.out.o (by have := HBN.out; omega)).mono ?_; rintro e6 w6 ⟨rfl, ho6, hg6⟩; have hx6 := (hg6.block _ hlt (fun e => own_ne HHST.out.o (fun cs hc => by rw [HHST.out.x] at hc; cases hc) e.symm)).trans HHST.out.x; have o46 : w6.cell? ⟨w.heap.size + 1, 4, none⟩ = some (.slice oA (allU l starts l.length).length oc) := cell_of_row _ _ _ _ _ _ hx6; have HO6 := Lib.hid ho6; have HG6 := Lib.hid hg6; clear hx6 ho6 hg6)
              go_ret2
              have hcond : ¬ (1024 < l.length ∨ starts.length = 0 ∨ 64 < starts.length) := by omega
              unfold VersPost
              rw [if_neg hcond]
              refine ⟨_, rfl, ?_, HENV.out.b.grown HG6.out (by have := HENV.out.b.size; omega) (fun k hk => (HHST.out.o.lt k hk).1)⟩
              unfold versionsL
              rw [sortB_length]
              exact HO6.out
end Go.Proofs.Ytpnegacfanbcfaa
