/- audit.Uses. Conditions: those of an audit; no claimed handle is 0. -/
import Derived.Test.YteeefedoffplmaaGreatClaims
set_option linter.unusedSimpArgs false
set_option linter.unusedVariables false
namespace Go.Proofs.YteeefedoffplmaaGreat
open Go.RowKit Go.Maps

def freeM (l : List Int) : Int → Option Value := fun k => if k ∈ l then some (.agg #[]) else none
theorem freeM_put (l : List Int) (k : Int) : (fun y => if y = k then some (.agg #[]) else freeM l y) = freeM (l ++ [k]) := by
  funext y
  unfold freeM
  by_cases h : y = k
  · simp [h]
  · simp [h]
theorem under133 : Tryz.prog.underlying 133 = some (.map 3 118) := by kernel_rfl
theorem zero118 (w : World) : (zeroValue 118).run Tryz.prog w = .ok (.agg #[]) w := by kernel_rfl
theorem elemUse : ElemOk Tryz.prog 22 62 5 40 := elemOk_of (by kernel_rfl) (by decide) (.agg #[.int .i64 0, .int .i64 0, .int .i64 0, .int .i64 0, .int .i64 0]) (by kernel_rfl) rfl
theorem useCells_one (u : UseS) : ∀ x ∈ u.cells, x.oneCell' = true := by
  intro x hx
  simp [UseS.cells] at hx
  rcases hx with rfl | rfl | rfl | rfl | rfl <;> rfl
/-- what a slot is for. -/
def useOf (free : List Int) (cl : List (Int × UseS)) (s : SlotS) (i : Nat) : UseS :=
  if handleL s i = 0 then (if (i : Int) + 1 ∈ free then ⟨1, 0, 0, 0, 0⟩ else ⟨5, 0, 0, 0, 0⟩)
  else match cl.find? (fun x => decide (x.1 = handleL s i)) with
    | some x => x.2
    | none => ⟨5, 0, 0, 0, 0⟩
def usesFrom (free : List Int) (cl : List (Int × UseS)) (sl : List SlotS) : List UseS := sl.mapIdx fun i s => useOf free cl s i
theorem usesFrom_take {free : List Int} {cl : List (Int × UseS)} {sl : List SlotS} {j : Nat} {s : SlotS} (h : sl[j]? = some s) : (usesFrom free cl sl).take (j + 1) = (usesFrom free cl sl).take j ++ [useOf free cl s j] :=
  take_snoc (by unfold usesFrom; rw [List.getElem?_mapIdx, h]; rfl)
def NewUses (l : List UseS) (w : World) (e : Ending) (w' : World) : Prop := ∃ v, e = .returned v ∧ w'.ownsRow w.heap.size 62 5 v l.length (l.flatMap UseS.cells) ∧ Only [] w w'
theorem row_new2 (W : World) (o1 o2 : Obj) (cs : List Value) (t : TypeId) : Row (((W.alloc o1).alloc o2).alloc (.cells cs.toArray t)) (some ⟨W.heap.size + 1 + 1, 0, none⟩) cs := by
  have := row_new ((W.alloc o1).alloc o2) cs t
  rwa [World.size_alloc, World.size_alloc] at this
def Us1 (free : List Int) (m2 : Nat) (w : World) (k : Nat) (i : Value) (wr : World) : Prop :=
  ∃ j : Nat, j ≤ free.length ∧ i = .int .i64 (j : Int) ∧ k = free.length - j ∧ MapIs Tryz.prog 3 (Value.int .i64 ·) wr m2 (freeM (free.take j)) ∧ Only [m2] w wr
def Us2 (us : List UseS) (w : World) (k : Nat) (out i : Value) (wr : World) : Prop :=
  ∃ j : Nat, j ≤ us.length ∧ i = .int .i64 (j : Int) ∧ k = us.length - j ∧ wr.ownsRow w.heap.size 62 5 out j ((us.take j).flatMap UseS.cells) ∧ Only [] w wr
set_option maxRecDepth 100000 in
set_option maxHeartbeats 6400000 in
theorem uses_any (w : World) (Y : StoreL) (ed : Option Nat) (D : Nat → List Nat) (X : StoreS) (h : StoreIn w Y ed D X) (pss : List (List (Int × SlotS))) (ha : Audits X pss) (free : List Int) (hf : X.pool.places = some free) (hfl : free.length ≤ 5000) (hf64 : ∀ k ∈ free, In64 k)
    (hz : 0 ∉ (claimsOf (allV pss pss.length) X.epoch.list).map (·.1)) :
    Calls Tryz.prog 19 #[ptr Y.sb] w (NewUses (usesFrom free (claimsOf (allV pss pss.length) X.epoch.list) (X.pool.slots.drop 1)) w) := by
  have hlo := looks_any w Y ed D X h ha.slots ha.gens
  have hcl := fun W (ho : Only [] w W) lk b c (hl : LookAt W lk Y b c (X.pool.slots.drop 1)) => claims_any W Y ed D X (h.new ho) lk b c hl pss ha
  have hpo := fun W (ho : Only [] w W) => getPool W Y (h.new ho).fixed
  have hfr := fun W (ho : Only [] w W) => free_any W Y.pool X.pool (h.new ho).pool free hf
  have hz0 := asMap_none hz
  have hmost := h.pool.most
  have hgens : ∀ s ∈ X.pool.slots.drop 1, 0 ≤ s.gen ∧ s.gen ≤ 1099511627775 := fun s hs => ha.gens s (List.mem_of_mem_drop hs)
  have hslen : (X.pool.slots.drop 1).length ≤ 4096 := by simp; omega
  have hmm := @run_makeMap Tryz.prog
  generalize claimsOf (allV pss pss.length) X.epoch.list = cl at *
  have HCL := Lib.hid hcl; have HPO := Lib.hid hpo; have HFR := Lib.hid hfr; have HZ0 := Lib.hid hz0; have HFL := Lib.hid hfl; have HF64 := Lib.hid hf64; have HGENS := Lib.hid hgens; have HSL := Lib.hid hslen
  generalize X.pool.slots.drop 1 = sl at *
  unfold NewInts ptr at HFR
  unfold NewUses
  unfold ptr at hlo HCL HPO ⊢
  clear h ha hf hfl hf64 hz hz0 hcl hpo hfr hmost hgens hslen
  go_enter Tryz.func19, Tryz.ntmps19
  go_wp2_with (first | (go_at_call 55; refine hlo.mono ?_; rintro e w1 ⟨lk, b, c, rfl, hl1, hg1, hg2, ho1⟩; have HL1 := Lib.hid hl1; have HG2 := Lib.hid hg2; have HO1 := Lib.hid ho1; clear hl1 hg2 ho1) | (go_at_call 56; refine (HCL.out w1 HO1.out lk b c HL1.out).mono ?_; rintro e w2 ⟨m, rfl, hm2, hmg, ho2⟩; have HM2 := Lib.hid hm2; have HMG := Lib.hid hmg; have HO2 := Lib.hid (HO1.out.trans ho2); have HO2b := Lib.hid ho2; clear hm2 hmg ho2) | (go_at_call 16; refine (HPO.out _ (HO2.out.alloc _)).mono ?_; rintro e w3 ⟨rfl, rfl⟩) | (go_at_call 57; refine (HFR.out _ (HO2.out.alloc _)).mono ?_; rintro e w4 ⟨sv4, rfl, hown4, ho4⟩; obtain ⟨A4, c4, rfl, hr4, _⟩ := row_of_own hown4; have HW4 := Lib.hid hown4; have HR4 := Lib.hid hr4; have HO4 := Lib.hid ho4; clear hown4 hr4 ho4))
  go_loopg [24] free.length (fun k i wr => Us1 free w2.heap.size w4 k i wr)
  case atStart => exact ⟨0, by omega, rfl, by omega, MapIs.below (show MapIs Tryz.prog 3 (Value.int .i64 ·) (w2.alloc (.map #[] 0)) w2.heap.size (freeM (free.take 0)) from MapIs.made) HO4.out.below, Only.refl _ _⟩
  case round =>
    obtain ⟨j, hj, rfl, rfl, hmf, ho⟩ := hrel
    have HMF := Lib.hid hmf; have HO := Lib.hid ho
    have hfl := HFL.out
    by_cases hjn : j < free.length
    · obtain ⟨gk2, hgk⟩ : ∃ gk2, free.length - j = gk2 + 1 := ⟨free.length - j - 1, by omega⟩
      have hx : free[j]? = some free[j] := List.getElem?_eq_getElem hjn
      generalize free[j] = x at hx
      obtain ⟨b4, o4, e4, hc4⟩ := HR4.out j (.int .i64 x) (by simp [ints, hx])
      subst e4
      have hb4 := (HW4.out.lt b4 rfl).1
      have n0 := cell_only ho hc4 (by simp at hb4; simp; omega)
      have hj0 : (0 : Int) ≤ (j : Int) := by omega
      have hj1 : (j : Int) < (free.length : Int) := by omega
      have HK := Lib.hid (key3 (HF64.out x (List.mem_of_getElem? hx)))
      have HX := Lib.hid hx; have HGK := Lib.hid hgk; have HJN := Lib.hid hjn
      clear hmf ho hx hc4 hb4 hgk hjn
      go_wp2_with (at_mapUpdate; refine wpList_mapUpdate_is rfl (.tmp 28) (.tmp 29) (.tmp 30) 133 rfl 3 118 (Value.int .i64 ·) keyed3 int_enc_inj under133 w2.heap.size _ rfl HMF.out x rfl HK.out (.agg #[]) rfl ?_; intro w5 hm5 hg5; rw [freeM_put, ← take_snoc HX.out] at hm5; have HM5 := Lib.hid hm5; have HG5 := Lib.hid hg5; clear hm5 hg5)
      go_roundg gk2
      case measure => have := HGK.out; omega
      case rel =>
        have hjl := HJN.out
        have hg := HGK.out
        exact ⟨j + 1, by omega, by first | (rw [IntWalk.wrap64_in ((j : Int) + 1) (by omega)]; rfl) | rfl, by omega, HM5.out, HO.out.of_map HG5.out (.inr (by simp))⟩
    · have hje : j = free.length := by omega
      subst hje
      rw [List.take_length] at hmf
      have HMF := Lib.hid hmf
      obtain ⟨wa, hwa⟩ : ∃ wa, wa = wr := ⟨_, rfl⟩
      subst hwa
      have hoa : Only [] w wa := ((HO2.out.mono (by simp)).trans (((Only.refl [] w2).alloc (.map #[] 0)).trans HO4.out |>.mono (by simp)) |>.trans ho).fresh (fun k hk hl => by
        simp at hk
        have := HO2.out.size
        omega)
      have hla : LookAt wa lk Y b c sl := by
        have h1 := (HL1.out.only HO2b.out (by simp) (by simp)).only (((Only.refl [] w2).alloc (.map #[] 0)).trans HO4.out) (by simp) (by simp)
        refine h1.only ho ?_ ?_
        · have := HL1.out.blk.lt
          have := HO2b.out.size
          simp
          omega
        · have := HL1.out.blt
          have := HO2b.out.size
          simp
          omega
      have x1 := hla.blk.cell (i := 1) rfl
      have HOL := Lib.hid ho
      have HOA := Lib.hid hoa; have HLA := Lib.hid hla
      clear hmf ho hoa hla
      go_wp2_with fail
      have hmc : ClaimMap wa m cl := by
        have h1 := HM2.out.below (((Only.refl [] w2).alloc (.map #[] 0)).trans HO4.out).below
        exact h1.kept (HOL.out.block m h1.lt (by have := HM2.out.lt; simp; omega))
      have HMC := Lib.hid hmc
      obtain ⟨us, hus⟩ : ∃ us, usesFrom free cl sl = us := ⟨_, rfl⟩
      have HUS := Lib.hid hus
      have hul : us.length = sl.length := by rw [← hus]; simp [usesFrom]
      have hslen := HSL.out
      have HUL := Lib.hid hul
      clear hmc hus
      generalize hsn : sl.length = sn at *
      have HSN := Lib.hid hsn
      clear hsn
      go_loopg [8, 37] sn (fun k out i wr => Us2 us wa k out i wr)
      case atStart => exact ⟨0, by omega, rfl, by omega, World.ownsRow_nil _ _ _ _, Only.refl _ _⟩
      case round =>
        obtain ⟨j, hj, rfl, rfl, hown, hor⟩ := hrel
        have HOWN := Lib.hid hown; have HOR := Lib.hid hor
        by_cases hjn : j < sn
        · obtain ⟨gk2, hgk⟩ : ∃ gk2, us.length - j = gk2 + 1 := ⟨us.length - j - 1, by have := HUL.out; omega⟩
          have hs : sl[j]? = some (sl[j]'(by rw [HSN.out]; exact hjn)) := List.getElem?_eq_getElem _
          generalize sl[j]'(by rw [HSN.out]; exact hjn) = s at hs
          have hhd := handle_any wr lk Y b c sl (HLA.out.only hor (by simp) (by simp)) j s hs
          have hut := usesFrom_take (free := free) (cl := cl) hs
          rw [HUS.out] at hut
          have HUT := Lib.hid hut
          have hgs := HGENS.out s (List.mem_of_getElem? hs)
          have hhb : In64 (handleL s j) := by
            unfold handleL packW T40 In64
            split <;> omega
          have huse : useOf free cl s j = useOf free cl s j := rfl
          conv at huse => rhs; unfold useOf
          generalize hhe : handleL s j = hh at *
          obtain ⟨oA, oc, hov, _, _⟩ := row_of_own hown
          subst hov
          have hj0 : (0 : Int) ≤ (j : Int) := by omega
          have hj1 : (j : Int) < (sn : Int) := by omega
          have HKJ := Lib.hid (key3 (a := (j : Int) + 1) (by unfold In64; omega))
          have HKH := Lib.hid (key3 hhb)
          have HMF2 := Lib.hid (HMF.out.below hor.below)
          have HMC2 := Lib.hid (HMC.out.below hor.below)
          have HM1 := Lib.hid (show j + 1 ≤ maxLen from by unfold maxLen; omega)
          have HM2x := Lib.hid (show (j + 1) * 40 ≤ 140737488355328 from by omega)
          have HBS := Lib.hid (fun o1 o2 o3 => show wa.heap.size ≤ (((wr.alloc o1).alloc o2).alloc o3).heap.size from Nat.le_trans hor.size (Nat.le_trans (size_alloc_le _ _) (Nat.le_trans (size_alloc_le _ _) (size_alloc_le _ _))))
          have HGK := Lib.hid hgk; have HJN := Lib.hid hjn
          unfold ptr at hhd
          clear hown hor hs hut hgs hhb hhe hgk hjn
          by_cases hh0 : hh = 0
          · subst hh0
            have HCV := Lib.hid HZ0.out
            rw [if_pos rfl] at huse
            by_cases hin : (j : Int) + 1 ∈ free
            · have HFV := Lib.hid (show freeM free ((j : Int) + 1) = some (.agg #[]) from by unfold freeM; rw [if_pos hin])
              rw [if_pos hin] at huse
              clear hin
              have HUSE := Lib.hid huse
              clear huse
              go_wp2_with (first | (go_at_call 58; refine hhd.mono ?_; rintro e wr ⟨rfl, rfl⟩) | (at_lookup; refine wpList_lookup_is rfl (.tmp 44) (.tmp 46) 133 true rfl 3 118 (Value.int .i64 ·) keyed3 int_enc_inj under133 w2.heap.size _ rfl HMF2.out ((j : Int) + 1) rfl HKJ.out _ (zero118 _) ?_; rw [HFV.out]) | (at_lookup; refine wpList_lookup_is rfl (.tmp 51) (.tmp 52) 131 true rfl 3 62 (Value.int .i64 ·) keyed3 int_enc_inj under131 m _ rfl (HMC2.out.below ((Only.refl [] wr).alloc _).below) (0 : Int) rfl HKH.out _ (zero62 _) ?_; rw [HCV.out]) | (at_builtin; refine wpList_append_is rfl (.tmp 71) (.tmp 73) rfl elemUse rfl (((HOWN.out.alloc _).alloc _).alloc _) _ 1 _ [.int .i64 1, .int .i64 0, .int .i64 0, .int .i64 0, .int .i64 0] rfl (row_new2 _ _ _ _ _) rfl (useCells_one ⟨1, 0, 0, 0, 0⟩) HM1.out HM2x.out (HBS.out _ _ _) (fun e => by cases e) ?_; intro v5 w5 hown5 hg5 hat5; obtain ⟨A5, c5, rfl, _, _⟩ := row_of_own hown5; have HW5 := Lib.hid hown5; have HG5 := Lib.hid (show World.grownBy _ w5 (Value.slice oA j oc).ownBlock from hg5); clear hown5 hg5 hat5))
              go_roundg gk2
              case measure => have := HGK.out; omega
              case rel =>
                have hjl := HJN.out
                have hg := HGK.out
                refine ⟨j + 1, by omega, by first | (rw [IntWalk.wrap64_in ((j : Int) + 1) (by omega)]; rfl) | rfl, by omega, ?_, ((((HOR.out.alloc _).alloc _).alloc _)).grown HG5.out (fun k hk => .inl (HOWN.out.lt k hk).1)⟩
                rw [HUT.out, List.flatMap_append, HUSE.out]
                simpa [UseS.cells] using HW5.out
            · have HFV := Lib.hid (show freeM free ((j : Int) + 1) = none from by unfold freeM; rw [if_neg hin])
              rw [if_neg hin] at huse
              clear hin
              have HUSE := Lib.hid huse
              clear huse
              go_wp2_with (first | (go_at_call 58; refine hhd.mono ?_; rintro e wr ⟨rfl, rfl⟩) | (at_lookup; refine wpList_lookup_is rfl (.tmp 44) (.tmp 46) 133 true rfl 3 118 (Value.int .i64 ·) keyed3 int_enc_inj under133 w2.heap.size _ rfl HMF2.out ((j : Int) + 1) rfl HKJ.out _ (zero118 _) ?_; rw [HFV.out]) | (at_lookup; refine wpList_lookup_is rfl (.tmp 51) (.tmp 52) 131 true rfl 3 62 (Value.int .i64 ·) keyed3 int_enc_inj under131 m _ rfl (HMC2.out.below ((Only.refl [] wr).alloc _).below) (0 : Int) rfl HKH.out _ (zero62 _) ?_; rw [HCV.out]) | (at_builtin; refine wpList_append_is rfl (.tmp 71) (.tmp 73) rfl elemUse rfl (((HOWN.out.alloc _).alloc _).alloc _) _ 1 _ [.int .i64 5, .int .i64 0, .int .i64 0, .int .i64 0, .int .i64 0] rfl (row_new2 _ _ _ _ _) rfl (useCells_one ⟨5, 0, 0, 0, 0⟩) HM1.out HM2x.out (HBS.out _ _ _) (fun e => by cases e) ?_; intro v5 w5 hown5 hg5 hat5; obtain ⟨A5, c5, rfl, _, _⟩ := row_of_own hown5; have HW5 := Lib.hid hown5; have HG5 := Lib.hid (show World.grownBy _ w5 (Value.slice oA j oc).ownBlock from hg5); clear hown5 hg5 hat5))
              go_roundg gk2
              case measure => have := HGK.out; omega
              case rel =>
                have hjl := HJN.out
                have hg := HGK.out
                refine ⟨j + 1, by omega, by first | (rw [IntWalk.wrap64_in ((j : Int) + 1) (by omega)]; rfl) | rfl, by omega, ?_, ((((HOR.out.alloc _).alloc _).alloc _)).grown HG5.out (fun k hk => .inl (HOWN.out.lt k hk).1)⟩
                rw [HUT.out, List.flatMap_append, HUSE.out]
                simpa [UseS.cells] using HW5.out
          · have hq : (hh == 0) = false := by simp [hh0]
            rw [if_neg hh0] at huse
            obtain ⟨fv, hfv⟩ : ∃ fv, freeM free ((j : Int) + 1) = fv := ⟨_, rfl⟩
            have hfv2 : fv = some (.agg #[]) ∨ fv = none := by rw [← hfv]; unfold freeM; split <;> simp
            have HFV := Lib.hid hfv
            clear hh0 hfv
            cases hc : cl.find? (fun x => decide (x.1 = hh)) with
            | none =>
              have HCV := Lib.hid (show asMap cl hh = none from by unfold asMap; rw [hc]; rfl)
              rw [hc] at huse
              simp only at huse
              clear hc
              rcases hfv2 with rfl | rfl
              · skip
                have HUSE := Lib.hid huse
                clear huse
                go_wp2_with (first | (go_at_call 58; refine hhd.mono ?_; rintro e wr ⟨rfl, rfl⟩) | (at_lookup; refine wpList_lookup_is rfl (.tmp 44) (.tmp 46) 133 true rfl 3 118 (Value.int .i64 ·) keyed3 int_enc_inj under133 w2.heap.size _ rfl HMF2.out ((j : Int) + 1) rfl HKJ.out _ (zero118 _) ?_; rw [HFV.out]) | (at_lookup; refine wpList_lookup_is rfl (.tmp 51) (.tmp 52) 131 true rfl 3 62 (Value.int .i64 ·) keyed3 int_enc_inj under131 m _ rfl (HMC2.out.below ((Only.refl [] wr).alloc _).below) hh rfl HKH.out _ (zero62 _) ?_; rw [HCV.out]) | (at_builtin; refine wpList_append_is rfl (.tmp 71) (.tmp 73) rfl elemUse rfl (((HOWN.out.alloc _).alloc _).alloc _) _ 1 _ [.int .i64 5, .int .i64 0, .int .i64 0, .int .i64 0, .int .i64 0] rfl (row_new2 _ _ _ _ _) rfl (useCells_one ⟨5, 0, 0, 0, 0⟩) HM1.out HM2x.out (HBS.out _ _ _) (fun e => by cases e) ?_; intro v5 w5 hown5 hg5 hat5; obtain ⟨A5, c5, rfl, _, _⟩ := row_of_own hown5; have HW5 := Lib.hid hown5; have HG5 := Lib.hid (show World.grownBy _ w5 (Value.slice oA j oc).ownBlock from hg5); clear hown5 hg5 hat5))
                go_roundg gk2
                case measure => have := HGK.out; omega
                case rel =>
                  have hjl := HJN.out
                  have hg := HGK.out
                  refine ⟨j + 1, by omega, by first | (rw [IntWalk.wrap64_in ((j : Int) + 1) (by omega)]; rfl) | rfl, by omega, ?_, ((((HOR.out.alloc _).alloc _).alloc _)).grown HG5.out (fun k hk => .inl (HOWN.out.lt k hk).1)⟩
                  rw [HUT.out, List.flatMap_append, HUSE.out]
                  simpa [UseS.cells] using HW5.out
              · skip
                have HUSE := Lib.hid huse
                clear huse
                go_wp2_with (first | (go_at_call 58; refine hhd.mono ?_; rintro e wr ⟨rfl, rfl⟩) | (at_lookup; refine wpList_lookup_is rfl (.tmp 44) (.tmp 46) 133 true rfl 3 118 (Value.int .i64 ·) keyed3 int_enc_inj under133 w2.heap.size _ rfl HMF2.out ((j : Int) + 1) rfl HKJ.out _ (zero118 _) ?_; rw [HFV.out]) | (at_lookup; refine wpList_lookup_is rfl (.tmp 51) (.tmp 52) 131 true rfl 3 62 (Value.int .i64 ·) keyed3 int_enc_inj under131 m _ rfl (HMC2.out.below ((Only.refl [] wr).alloc _).below) hh rfl HKH.out _ (zero62 _) ?_; rw [HCV.out]) | (at_builtin; refine wpList_append_is rfl (.tmp 71) (.tmp 73) rfl elemUse rfl (((HOWN.out.alloc _).alloc _).alloc _) _ 1 _ [.int .i64 5, .int .i64 0, .int .i64 0, .int .i64 0, .int .i64 0] rfl (row_new2 _ _ _ _ _) rfl (useCells_one ⟨5, 0, 0, 0, 0⟩) HM1.out HM2x.out (HBS.out _ _ _) (fun e => by cases e) ?_; intro v5 w5 hown5 hg5 hat5; obtain ⟨A5, c5, rfl, _, _⟩ := row_of_own hown5; have HW5 := Lib.hid hown5; have HG5 := Lib.hid (show World.grownBy _ w5 (Value.slice oA j oc).ownBlock from hg5); clear hown5 hg5 hat5))
                go_roundg gk2
                case measure => have := HGK.out; omega
                case rel =>
                  have hjl := HJN.out
                  have hg := HGK.out
                  refine ⟨j + 1, by omega, by first | (rw [IntWalk.wrap64_in ((j : Int) + 1) (by omega)]; rfl) | rfl, by omega, ?_, ((((HOR.out.alloc _).alloc _).alloc _)).grown HG5.out (fun k hk => .inl (HOWN.out.lt k hk).1)⟩
                  rw [HUT.out, List.flatMap_append, HUSE.out]
                  simpa [UseS.cells] using HW5.out
            | some x =>
              have HCV := Lib.hid (show asMap cl hh = some x.2.val from by unfold asMap; rw [hc]; rfl)
              rw [hc] at huse
              simp only at huse
              obtain ⟨xk, u0, u1, u2, u3, u4⟩ := x
              unfold UseS.val at HCV
              dsimp only at HCV huse
              clear hc
              rcases hfv2 with rfl | rfl
              · skip
                have HUSE := Lib.hid huse
                clear huse
                go_wp2_with (first | (go_at_call 58; refine hhd.mono ?_; rintro e wr ⟨rfl, rfl⟩) | (at_lookup; refine wpList_lookup_is rfl (.tmp 44) (.tmp 46) 133 true rfl 3 118 (Value.int .i64 ·) keyed3 int_enc_inj under133 w2.heap.size _ rfl HMF2.out ((j : Int) + 1) rfl HKJ.out _ (zero118 _) ?_; rw [HFV.out]) | (at_lookup; refine wpList_lookup_is rfl (.tmp 51) (.tmp 52) 131 true rfl 3 62 (Value.int .i64 ·) keyed3 int_enc_inj under131 m _ rfl (HMC2.out.below ((Only.refl [] wr).alloc _).below) hh rfl HKH.out _ (zero62 _) ?_; rw [HCV.out]) | (at_builtin; refine wpList_append_is rfl (.tmp 71) (.tmp 73) rfl elemUse rfl (((HOWN.out.alloc _).alloc _).alloc _) _ 1 _ [.int .i64 u0, .int .i64 u1, .int .i64 u2, .int .i64 u3, .int .i64 u4] rfl (row_new2 _ _ _ _ _) rfl (useCells_one ⟨u0, u1, u2, u3, u4⟩) HM1.out HM2x.out (HBS.out _ _ _) (fun e => by cases e) ?_; intro v5 w5 hown5 hg5 hat5; obtain ⟨A5, c5, rfl, _, _⟩ := row_of_own hown5; have HW5 := Lib.hid hown5; have HG5 := Lib.hid (show World.grownBy _ w5 (Value.slice oA j oc).ownBlock from hg5); clear hown5 hg5 hat5))
                go_roundg gk2
                case measure => have := HGK.out; omega
                case rel =>
                  have hjl := HJN.out
                  have hg := HGK.out
                  refine ⟨j + 1, by omega, by first | (rw [IntWalk.wrap64_in ((j : Int) + 1) (by omega)]; rfl) | rfl, by omega, ?_, ((((HOR.out.alloc _).alloc _).alloc _)).grown HG5.out (fun k hk => .inl (HOWN.out.lt k hk).1)⟩
                  rw [HUT.out, List.flatMap_append, HUSE.out]
                  simpa [UseS.cells] using HW5.out
              · skip
                have HUSE := Lib.hid huse
                clear huse
                go_wp2_with (first | (go_at_call 58; refine hhd.mono ?_; rintro e wr ⟨rfl, rfl⟩) | (at_lookup; refine wpList_lookup_is rfl (.tmp 44) (.tmp 46) 133 true rfl 3 118 (Value.int .i64 ·) keyed3 int_enc_inj under133 w2.heap.size _ rfl HMF2.out ((j : Int) + 1) rfl HKJ.out _ (zero118 _) ?_; rw [HFV.out]) | (at_lookup; refine wpList_lookup_is rfl (.tmp 51) (.tmp 52) 131 true rfl 3 62 (Value.int .i64 ·) keyed3 int_enc_inj under131 m _ rfl (HMC2.out.below ((Only.refl [] wr).alloc _).below) hh rfl HKH.out _ (zero62 _) ?_; rw [HCV.out]) | (at_builtin; refine wpList_append_is rfl (.tmp 71) (.tmp 73) rfl elemUse rfl (((HOWN.out.alloc _).alloc _).alloc _) _ 1 _ [.int .i64 u0, .int .i64 u1, .int .i64 u2, .int .i64 u3, .int .i64 u4] rfl (row_new2 _ _ _ _ _) rfl (useCells_one ⟨u0, u1, u2, u3, u4⟩) HM1.out HM2x.out (HBS.out _ _ _) (fun e => by cases e) ?_; intro v5 w5 hown5 hg5 hat5; obtain ⟨A5, c5, rfl, _, _⟩ := row_of_own hown5; have HW5 := Lib.hid hown5; have HG5 := Lib.hid (show World.grownBy _ w5 (Value.slice oA j oc).ownBlock from hg5); clear hown5 hg5 hat5))
                go_roundg gk2
                case measure => have := HGK.out; omega
                case rel =>
                  have hjl := HJN.out
                  have hg := HGK.out
                  refine ⟨j + 1, by omega, by first | (rw [IntWalk.wrap64_in ((j : Int) + 1) (by omega)]; rfl) | rfl, by omega, ?_, ((((HOR.out.alloc _).alloc _).alloc _)).grown HG5.out (fun k hk => .inl (HOWN.out.lt k hk).1)⟩
                  rw [HUT.out, List.flatMap_append, HUSE.out]
                  simpa [UseS.cells] using HW5.out
        · have hje : j = sn := by omega
          subst hje
          clear hown hor
          go_wp2_with fail
          go_ret
          refine ⟨_, rfl, ?_, HOA.out.trans HOR.out⟩
          have h1 := own_base HOWN.out HOA.out.size
          have h2 : us.length = j := HUL.out
          rw [HUS.out, h2]
          rw [List.take_of_length_le (Nat.le_of_eq h2)] at h1
          exact h1
end Go.Proofs.YteeefedoffplmaaGreat
