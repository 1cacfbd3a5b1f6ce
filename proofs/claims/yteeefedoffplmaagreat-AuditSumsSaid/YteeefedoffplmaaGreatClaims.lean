/- An audit's claims of all handles. Conditions: the store lies in memory; each version's tree is one leaf; no handle is claimed twice; two workers, none of them within. -/
import Derived.Test.YteeefedoffplmaaGreatClaim
set_option linter.unusedSimpArgs false
set_option linter.unusedVariables false
namespace Go.Proofs.YteeefedoffplmaaGreat
open Go.RowKit Go.Maps

def partV (pss : List (List (Int × SlotS))) (i : Nat) : List VersionS := ((pss[i]?).getD []).map (verOf i)
def allV (pss : List (List (Int × SlotS))) (n : Nat) : List VersionS := (List.range n).flatMap (partV pss)
theorem allV_succ (pss : List (List (Int × SlotS))) (n : Nat) : allV pss (n + 1) = allV pss n ++ partV pss n := by simp [allV, List.range_succ]
def c2 (v : VersionS) : Int × UseS := (v.h, ⟨2, v.part, v.number, v.number, 0⟩)
def c3 (v : VersionS) : Int × UseS := (v.nodes.headD 0, ⟨3, v.part, v.number, v.number, 0⟩)
def c4 (x : Int × Int) : Int × UseS := (x.1, ⟨4, 0, 0, 0, 0⟩)
/-- all claims, in their order. -/
def claimsOf (all : List VersionS) (wait : List (Int × Int)) : List (Int × UseS) := all.map c2 ++ (all.map c3 ++ wait.map c4)
/-- what an audit of a store asks of the plain side. -/
structure Audits (X : StoreS) (pss : List (List (Int × SlotS))) : Prop where
  n : pss.length = X.chains.length
  vers : ∀ (i : Nat) ps, pss[i]? = some ps → ∃ C : ChainS, X.chains[i]? = some C ∧ C.versions X.pool = ps.map (·.1) ∧ Leafy (X.pool.slots.drop 1) ps ∧ ps.length ≤ 4096
  most : ∀ j, j ≤ pss.length → (allV pss j).length ≤ 4096
  at0 : X.epoch.at0 = 0
  workers : X.epoch.workers = 2
  wait : X.epoch.list.length ≤ 4096
  nodup : ((claimsOf (allV pss pss.length) X.epoch.list).map (·.1)).Nodup
  in64 : ∀ k ∈ (claimsOf (allV pss pss.length) X.epoch.list).map (·.1), In64 k
  gens : ∀ s ∈ X.pool.slots, 0 ≤ s.gen ∧ s.gen ≤ 1099511627775
  slots : 2 ≤ X.pool.slots.length
theorem partV_one {pss : List (List (Int × SlotS))} {n : Nat} {v : VersionS} (h : v ∈ allV pss n) : ∃ a, v.nodes = [a] := by
  obtain ⟨i, _, h⟩ := List.mem_flatMap.1 h
  obtain ⟨p, _, rfl⟩ := List.mem_map.1 h
  exact ⟨_, rfl⟩
theorem take_fresh {cl : List (Int × UseS)} (h : (cl.map (·.1)).Nodup) {t : Nat} {x : Int × UseS} (hx : cl[t]? = some x) : x.1 ∉ (cl.take t).map (·.1) := by
  intro hm
  obtain ⟨y, hy, e⟩ := List.mem_map.1 hm
  obtain ⟨i, hi⟩ := List.mem_iff_getElem?.1 hy
  rw [List.getElem?_take] at hi
  split at hi
  · rename_i hit
    have h1 : (cl.map (·.1))[i]? = some x.1 := by rw [List.getElem?_map, hi, ← e]; rfl
    have h2 : (cl.map (·.1))[t]? = some x.1 := by rw [List.getElem?_map, hx]; rfl
    have hl := (List.getElem?_eq_some_iff.1 h1).1
    have := (List.getElem?_inj hl h).1 (h1.trans h2.symm)
    omega
  · cases hi
/-- a claim, the next one of the list. -/
theorem claimNext (w : World) (b : Nat) (cl : List (Int × UseS)) (hnd : (cl.map (·.1)).Nodup) (hin : ∀ k ∈ cl.map (·.1), In64 k) (t : Nat) (hm : ClaimMap w b (cl.take t)) (k : Int) (u : UseS) (hx : cl[t]? = some (k, u)) (fn : Value) :
    Calls Tryz.prog 117 #[.map (some b), .int .i64 k, u.val, fn] w fun e w' => e = .returned (.tuple #[]) ∧ ClaimMap w' b (cl.take (t + 1)) ∧ Only [b] w w' := by
  rw [take_snoc hx]
  exact claimNew_any w b (cl.take t) hm k (hin k (List.mem_map.2 ⟨_, List.mem_of_getElem? hx, rfl⟩)) (take_fresh hnd hx) u fn
theorem VRow.cells {w : World} {base : Nat} {v : Value} {els : List VEl} (h : VRow w base v els) {j : Nat} {x : VEl} (hx : els[j]? = some x) : ∃ g c, v = .slice (some ⟨g, 0, none⟩) els.length c ∧ ∀ k u, (vcells x)[k]? = some u → w.cell? ⟨g, j * 5 + k, none⟩ = some u := by
  obtain ⟨A, c, hv, hr, hnil⟩ := row_of_own h.own
  have key : ∀ k u, (vcells x)[k]? = some u → ∃ b off, A = some ⟨b, off, none⟩ ∧ w.cell? ⟨b, off + (j * 5 + k), none⟩ = some u := fun k u hu => hr (j * 5 + k) u ((flatMap_get vcells 5 (fun _ => rfl) els j x hx k (List.getElem?_eq_some_iff.1 hu).1).trans hu)
  rcases h.own.2 with ⟨_, h0⟩ | ⟨g, cap, cur, h2, _⟩
  · have := (List.getElem?_eq_some_iff.1 hx).1
    omega
  · rw [hv] at h2
    injection h2 with h2 _ _
    subst h2
    refine ⟨g, c, hv, fun k u hu => ?_⟩
    obtain ⟨b, off, e, hc⟩ := key k u hu
    injection e with e
    injection e with e1 e2
    subst e1 e2
    rwa [Nat.zero_add] at hc
def Cl1 (pss : List (List (Int × SlotS))) (w : World) (k : Nat) (out i : Value) (wr : World) : Prop :=
  ∃ (j : Nat) (els : List VEl), j ≤ pss.length ∧ i = .int .i64 (j : Int) ∧ k = pss.length - j ∧ els.map (·.1) = allV pss j ∧ VRow wr w.heap.size out els ∧ Only [] w wr
def Cl2 (cl : List (Int × UseS)) (m n off : Nat) (w : World) (k : Nat) (i : Value) (wr : World) : Prop :=
  ∃ (j : Nat), j ≤ n ∧ i = .int .i64 (j : Int) ∧ k = n - j ∧ ClaimMap wr m (cl.take (off + j)) ∧ Only [m] w wr
set_option maxRecDepth 100000 in
set_option maxHeartbeats 6400000 in
theorem claims_any (w : World) (Y : StoreL) (ed : Option Nat) (D : Nat → List Nat) (X : StoreS) (h : StoreIn w Y ed D X) (lk b c : Nat) (hl : LookAt w lk Y b c (X.pool.slots.drop 1)) (pss : List (List (Int × SlotS))) (ha : Audits X pss) :
    Calls Tryz.prog 56 #[ptr lk] w fun e w' => ∃ m, e = .returned (.map (some m)) ∧ ClaimMap w' m (claimsOf (allV pss pss.length) X.epoch.list) ∧ w.heap.size ≤ m ∧ Only [] w w' := by
  obtain ⟨hpn, hvers, hmost, hat0, hwk, hwt, hnd, hin, _, _⟩ := ha
  have hn : Y.n = pss.length := by rw [hpn, h.chains]
  obtain ⟨w0, hw0⟩ : ∃ w0, w.alloc (.map #[] 0) = w0 := ⟨_, rfl⟩
  have ho0 : Only [] w w0 := by rw [← hw0]; exact (Only.refl _ _).alloc _
  have hm0 : ClaimMap w0 w.heap.size [] := by rw [← hw0]; exact MapIs.made
  have h0 := h.new ho0
  have hl0 := hl.only ho0 (by simp) (by simp)
  have c0 := hl0.blk.cell (i := 0) rfl
  have hpt := getParts w0 Y h0.fixed
  rw [hn] at hpt
  have hno := h.ok.n
  rw [hn] at hno
  have hlow : w.heap.size < w0.heap.size := hm0.lt
  have HMX := Lib.hid (show Y.base ≤ w.heap.size ∧ ¬ Dyn Y ed D w.heap.size from ⟨h.room, fun e => by have := (h.dyn_lt e).2; omega⟩)
  have HLKM := Lib.hid (show lk < w.heap.size from hl.blk.lt)
  have HLOW := Lib.hid hlow; have HNO := Lib.hid hno
  have H0 := Lib.hid h0; have HL0 := Lib.hid hl0; have HM0 := Lib.hid hm0; have HO0 := Lib.hid ho0; have HV := Lib.hid hvers; have HMOST := Lib.hid hmost; have HAT := Lib.hid hat0; have HWK := Lib.hid hwk; have HWT := Lib.hid hwt; have HND := Lib.hid hnd; have HIN := Lib.hid hin; have HN := Lib.hid hn; have HPN := Lib.hid hpn
  unfold ptr at *
  clear h hl ho0 hm0 h0 hl0 hvers hmost hat0 hwk hwt hnd hin hn hpn hno hlow
  have hmm := @run_makeMap Tryz.prog
  go_enter Tryz.func56, Tryz.ntmps56
  go_wp2_with (go_at_call 12; refine hpt.mono ?_; rintro e w0 ⟨rfl, rfl⟩)
  clear hw0
  go_loopg [4, 21] pss.length (fun k out i wr => Cl1 pss w0 k out i wr)
  case atStart => exact ⟨0, [], by omega, rfl, by omega, rfl, VRow.nil _ _, Only.refl _ _⟩
  case round =>
    obtain ⟨j, els, hj, rfl, rfl, hels, hrow, hor⟩ := hrel
    have HELS := Lib.hid hels; have HVR := Lib.hid hrow; have HOR := Lib.hid hor
    have hno := HNO.out
    by_cases hjn : j < pss.length
    · obtain ⟨gk, hgk⟩ : ∃ gk, pss.length - j = gk + 1 := ⟨pss.length - j - 1, by omega⟩
      have hpj : pss[j]? = some pss[j] := List.getElem?_eq_getElem hjn
      have hpv : partV pss j = pss[j].map (verOf j) := by unfold partV; rw [hpj]; rfl
      generalize pss[j] = ps at hpj hpv
      obtain ⟨C, hC, hcv, hlf, hpl⟩ := HV.out j ps hpj
      have hvs := versionsOf_any wr Y ed D X (H0.out.new hor) lk b c (HL0.out.only hor (by simp) (by simp)) j C hC ps hcv hlf hpl
      rw [← hpv] at hvs
      obtain ⟨oA, oc, hov, _, _⟩ := row_of_own hrow.own
      subst hov
      have hell : els.length ≤ 4096 := by
        have := congrArg List.length hels
        simp only [List.length_map] at this
        rw [this]
        exact HMOST.out j hj
      have hall : (partV pss j).length ≤ 4096 := by rw [hpv]; simpa using hpl
      have hj0 : (0 : Int) ≤ (j : Int) := by omega
      have hj1 : (j : Int) < (pss.length : Int) := by omega
      have HGK := Lib.hid hgk; have HJN := Lib.hid hjn
      have HM1 := Lib.hid (show ∀ m, m ≤ 4096 → els.length + m ≤ maxLen from fun m hm => by unfold maxLen; omega)
      have HM2 := Lib.hid (show ∀ m, m ≤ 4096 → (els.length + m) * 56 ≤ 140737488355328 from fun m hm => by omega)
      have HALL := Lib.hid hall
      have HBW := Lib.hid (show w0.heap.size ≤ wr.heap.size from hor.size)
      unfold NewVers ptr at hvs
      clear hels hrow hor hpj hcv hlf hpl hC hgk hjn hell hall hpt hno
      go_wp2_with (first | (go_at_call 62; refine hvs.mono ?_; rintro e w2 ⟨v2, els2, rfl, he2, hr2, ho2⟩; obtain ⟨A2, cc2, rfl, hrow2, hnil2⟩ := row_of_own hr2.own; have hl2 : els2.length ≤ 4096 := (by have := congrArg List.length he2; simp only [List.length_map] at this; rw [this]; exact HALL.out); have HE2 := Lib.hid he2; have HR2 := Lib.hid hr2; have HO2 := Lib.hid ho2; have HROW2 := Lib.hid hrow2; have HNIL2 := Lib.hid hnil2; have HVR2 := Lib.hid (HVR.out.new ho2).own; have HL2 := Lib.hid hl2; have HBS := Lib.hid (Nat.le_trans HBW.out ho2.size); clear he2 hr2 ho2 hrow2 hnil2 hl2) | (at_builtin; refine wpList_append_is rfl (.tmp 24) (.tmp 27) rfl elemVer rfl HVR2.out _ els2.length cc2 (els2.flatMap vcells) rfl HROW2.out (flatMap_len _ 5 (fun _ => rfl) els2) (fun u hu => by obtain ⟨x, _, hx⟩ := List.mem_flatMap.1 hu; exact vcells_one x u hx) (HM1.out _ HL2.out) (HM2.out _ HL2.out) HBS.out HNIL2.out ?_; intro v5 w5 hown5 hg5 hat5; have HW5 := Lib.hid hown5; have HG5 := Lib.hid (show w2.grownBy w5 (Value.slice oA els.length oc).ownBlock from hg5); have HA5 := Lib.hid (show v5.ownBlock = (Value.slice oA els.length oc).ownBlock ∨ v5.ownBlock = some w2.heap.size from hat5); clear hown5 hg5 hat5))
      go_roundg gk
      case measure => have := HGK.out; omega
      case rel =>
        have hjl := HJN.out
        have hg := HGK.out
        obtain ⟨hno1, hno2⟩ := HNO.out
        refine ⟨j + 1, els ++ els2, by omega, by rw [IntWalk.wrap64_in ((j : Int) + 1) (by omega)]; rfl, by omega, ?_, HVR.out.join HO2.out HR2.out (Nat.le_refl _) HBW.out HG5.out HW5.out HA5.out, (HOR.out.trans HO2.out).grown HG5.out (fun k hk => .inl (HVR.out.own.lt k hk).1)⟩
        rw [List.map_append, HELS.out, HE2.out, allV_succ]
    · have hje : j = pss.length := by omega
      subst hje
      obtain ⟨cl, hcl⟩ : ∃ cl, claimsOf (allV pss pss.length) X.epoch.list = cl := ⟨_, rfl⟩
      have hnd := HND.out
      have hin := HIN.out
      rw [hcl] at hnd hin
      have hell : els.length = (allV pss pss.length).length := by rw [← hels]; simp
      have hk2 : ∀ (j : Nat) x, els[j]? = some x → cl[j]? = some (c2 x.1) := fun j x hx => by
        have hjl := (List.getElem?_eq_some_iff.1 hx).1
        rw [← hcl]
        unfold claimsOf
        rw [List.getElem?_append_left (by simp; omega), List.getElem?_map, ← hels, List.getElem?_map, hx]
        rfl
      have hk3 : ∀ (j : Nat) x, els[j]? = some x → cl[els.length + j]? = some (c3 x.1) := fun j x hx => by
        have hjl := (List.getElem?_eq_some_iff.1 hx).1
        rw [← hcl]
        unfold claimsOf
        rw [List.getElem?_append_right (by simp; omega), List.getElem?_append_left (by simp; omega), List.getElem?_map, ← hels, List.getElem?_map]
        simp only [List.length_map, Nat.add_sub_cancel_left, hx]
        rfl
      have hk4 : ∀ (j : Nat) x, X.epoch.list[j]? = some x → cl[els.length + els.length + j]? = some (c4 x) := fun j x hx => by
        rw [← hcl]
        unfold claimsOf
        rw [List.getElem?_append_right (by simp; omega), List.getElem?_append_right (by simp; omega), List.getElem?_map, ← hels]
        simp only [List.length_map]
        rw [show els.length + els.length + j - els.length - els.length = j by omega, hx]
        rfl
      have hlen : cl.length = els.length + els.length + X.epoch.list.length := by rw [← hcl]; simp [claimsOf, hell]; omega
      have hone : ∀ (j : Nat) x, els[j]? = some x → ∃ a, x.1.nodes = [a] := fun j x hx => partV_one (n := pss.length) (pss := pss) (by rw [← hels]; exact List.mem_map.2 ⟨x, List.mem_of_getElem? hx, rfl⟩)
      have hmost : els.length ≤ 4096 := by rw [hell]; exact HMOST.out _ (Nat.le_refl _)
      obtain ⟨oA, oc, hov, _, _⟩ := row_of_own hrow.own
      have hov2 := hov
      subst hov
      have HCL := Lib.hid hcl; have HND2 := Lib.hid hnd; have HIN2 := Lib.hid hin; have HK2 := Lib.hid hk2; have HK3 := Lib.hid hk3; have HK4 := Lib.hid hk4; have HLEN := Lib.hid hlen; have HONE := Lib.hid hone; have HMS := Lib.hid hmost
      have HM1 := Lib.hid (show ClaimMap wr w.heap.size [] from HM0.out.below hor.below)
      have HLW := Lib.hid (show w.heap.size < wr.heap.size from Nat.lt_of_lt_of_le HLOW.out hor.size)
      clear hels hrow hor hcl hnd hin hell hk2 hk3 hk4 hlen hone hov2 hno hpt hmm
      go_wp2_with fail
      obtain ⟨wa, hwa⟩ : ∃ wa, wa = wr := ⟨_, rfl⟩
      subst hwa
      go_loopg [32] els.length (fun k i w' => Cl2 cl w.heap.size els.length 0 wa k i w')
      case atStart => exact ⟨0, by omega, rfl, by omega, by simpa using HM1.out, Only.refl _ _⟩
      case round =>
        obtain ⟨j, hj, rfl, rfl, hcm, ho⟩ := hrel
        have HCM := Lib.hid hcm; have HO := Lib.hid ho
        by_cases hjn : j < els.length
        · obtain ⟨gk2, hgk⟩ : ∃ gk2, els.length - j = gk2 + 1 := ⟨els.length - j - 1, by omega⟩
          have hx : els[j]? = some els[j] := List.getElem?_eq_getElem hjn
          generalize els[j] = x at hx
          obtain ⟨g, cc, hge, hgc⟩ := HVR.out.cells hx
          injection hge with hge _ hge2
          subst hge hge2
          have hgl := (HVR.out.own.lt g rfl).1
          have hgm : g ∉ [w.heap.size] := by have := HLOW.out; simp; omega
          have d0 := cell_only ho (hgc 0 _ rfl) hgm
          have d1 := cell_only ho (hgc 1 _ rfl) hgm
          have d2 := cell_only ho (hgc 2 _ rfl) hgm
          have d3 := cell_only ho (hgc 3 _ rfl) hgm
          have d4 := cell_only ho (hgc 4 _ rfl) hgm
          rw [Nat.add_zero] at d0
          have hcl := fun W (hw : Only [] wr W) => claimNext W w.heap.size cl HND2.out HIN2.out (0 + j) (hcm.below hw.below) x.1.h ⟨2, x.1.part, x.1.number, x.1.number, 0⟩ (by rw [Nat.zero_add]; exact HK2.out j x hx) (.func (.func 118) #[] #[])
          have HCLM := Lib.hid hcl; have HGK := Lib.hid hgk; have HJN := Lib.hid hjn
          have hj0 : (0 : Int) ≤ (j : Int) := by omega
          have hj1 : (j : Int) < (els.length : Int) := by omega
          have hml := HMS.out
          have HBL := Lib.hid (show w.heap.size < wr.heap.size from Nat.lt_of_lt_of_le HLW.out ho.size)
          obtain ⟨⟨xh, xp, xn, xs, xl⟩, xb, xc⟩ := x
          unfold UseS.val at HCLM
          dsimp only at HCLM d0 d1 d2 d3 d4
          clear hcm ho hgc hgm hcl hgk hjn hx hgl
          go_wp2_with (go_at_call 117; refine (HCLM.out _ ((Only.refl [] wr).alloc _)).mono ?_; rintro e w3 ⟨rfl, hm3, ho3⟩; have HM3 := Lib.hid hm3; have HO3 := Lib.hid ho3; clear hm3 ho3)
          go_roundg gk2
          case measure => have := HGK.out; omega
          case rel =>
            have hjl := HJN.out
            have hg := HGK.out
            exact ⟨j + 1, by omega, by first | (rw [IntWalk.wrap64_in ((j : Int) + 1) (by omega)]; rfl) | rfl, by omega, HM3.out, HO.out.trans (((Only.refl [w.heap.size] wr).alloc _).trans HO3.out)⟩
        · have hje : j = els.length := by omega
          subst hje
          have hml := HMS.out
          clear hcm ho
          go_wp2_with fail
          obtain ⟨wb, hwb⟩ : ∃ wb, wb = wr := ⟨_, rfl⟩
          subst hwb
          go_loopg [50] els.length (fun k i w' => Cl2 cl w.heap.size els.length els.length wa k i w')
          case atStart => exact ⟨0, by omega, rfl, by omega, by rw [Nat.add_zero]; rw [Nat.zero_add] at HCM; exact HCM.out, HO.out⟩
          case round =>
            obtain ⟨j, hj, rfl, rfl, hcm, ho⟩ := hrel
            have HCM3 := Lib.hid hcm; have HO3 := Lib.hid ho
            by_cases hjn : j < els.length
            · obtain ⟨gk2, hgk⟩ : ∃ gk2, els.length - j = gk2 + 1 := ⟨els.length - j - 1, by omega⟩
              have hx : els[j]? = some els[j] := List.getElem?_eq_getElem hjn
              generalize els[j] = x at hx
              obtain ⟨a, hxa⟩ := HONE.out j x hx
              obtain ⟨g, cc, hge, hgc⟩ := HVR.out.cells hx
              injection hge with hge _ hge2
              subst hge hge2
              have hgl := (HVR.out.own.lt g rfl).1
              have hgm : g ∉ [w.heap.size] := by have := HLOW.out; simp; omega
              have d0 := cell_only ho (hgc 0 _ rfl) hgm
              have d1 := cell_only ho (hgc 1 _ rfl) hgm
              have d2 := cell_only ho (hgc 2 _ rfl) hgm
              have d3 := cell_only ho (hgc 3 _ rfl) hgm
              have d4 := cell_only ho (hgc 4 _ rfl) hgm
              rw [Nat.add_zero] at d0
              obtain ⟨_, ⟨xge, _⟩, xrow⟩ := HVR.out.nodes x (List.mem_of_getElem? hx)
              obtain ⟨xb', xo', xe', xcell⟩ := xrow 0 (.int .i64 a) (by rw [hxa]; rfl)
              injection xe' with xe'
              injection xe' with xe1 xe2
              subst xe1 xe2
              have n0 := cell_only ho xcell (by have := HLOW.out; simp; omega)
              rw [Nat.add_zero] at n0
              have hcl := fun W (hw : Only [] wr W) => claimNext W w.heap.size cl HND2.out HIN2.out (els.length + j) (hcm.below hw.below) a ⟨3, x.1.part, x.1.number, x.1.number, 0⟩ (by rw [HK3.out j x hx]; simp [c3, hxa]) (.func (.func 119) #[] #[])
              have HCLM := Lib.hid hcl; have HGK := Lib.hid hgk; have HJN := Lib.hid hjn
              have hj0 : (0 : Int) ≤ (j : Int) := by omega
              have hj1 : (j : Int) < (els.length : Int) := by omega
              obtain ⟨⟨xh, xp, xn, xs, xl⟩, xb, xc⟩ := x
              unfold UseS.val at HCLM
              dsimp only at HCLM d0 d1 d2 d3 d4 hxa n0
              subst hxa
              rw [List.length_singleton] at d4
              have n0 := cell_alloc n0 (.cells #[.int .i64 xh, .int .i64 xp, .int .i64 xn, .int .i64 xs, .slice (some ⟨xb, 0, none⟩) 1 xc] 145)
              clear hcm ho hgc hgm hcl hgk hjn hx hgl xrow xge xcell
              go_wp2_with fail
              refine wp_loop_rounds 2 ?_
              rw [rounds_succ]
              go_wp2_with (go_at_call 117; refine (HCLM.out _ ((Only.refl [] wr).alloc _)).mono ?_; rintro e w3 ⟨rfl, hm3, ho3⟩; have HM3 := Lib.hid hm3; have HO5 := Lib.hid ho3; clear hm3 ho3)
              rw [rounds_succ]
              go_wp2_with fail
              go_roundg gk2
              case measure => have := HGK.out; omega
              case rel =>
                have hjl := HJN.out
                have hg := HGK.out
                exact ⟨j + 1, by omega, by first | (rw [IntWalk.wrap64_in ((j : Int) + 1) (by omega)]; rfl) | rfl, by omega, HM3.out, HO3.out.trans (((Only.refl [w.heap.size] wr).alloc _).trans HO5.out)⟩
            · have hje : j = els.length := by omega
              subst hje
              have hst := (H0.out.new HOR.out).only ho (fun k hk => by simp at hk; subst hk; exact HMX.out)
              have hlk := (HL0.out.blk.only HOR.out (by simp)).only ho (by have := HLKM.out; simp; omega)
              have x0 := hlk.cell (i := 0) rfl
              have hep := getEpoch wr Y hst.fixed
              have hats := at_all wr Y.eb Y.pool.pb Y.base ed X.epoch hst.epoch HAT.out
              rw [HWK.out] at hats
              have HST := Lib.hid hst; have HLK := Lib.hid hlk
              unfold NewInts at hats
              unfold ptr at x0 hep hats
              clear hcm ho hst hlk
              obtain ⟨wc, hwc⟩ : ∃ wc, wc = wr := ⟨_, rfl⟩
              subst hwc
              go_wp2_with (first | (go_at_call 65; refine hep.mono ?_; rintro e wc ⟨rfl, rfl⟩) | (go_at_call 66; refine hats.mono ?_; rintro e w2 ⟨sv2, rfl, hown2, ho2⟩; obtain ⟨A2, cc2, rfl, _, _⟩ := row_of_own hown2; rw [List.length_replicate]; have HO2 := Lib.hid ho2; clear ho2 hown2))
              refine wp_loop_rounds 3 ?_
              rw [rounds_succ]
              have hst2 := HST.out.new HO2.out
              have x2 := (HLK.out.only HO2.out (by simp)).cell (i := 0) rfl
              have hep2 := getEpoch w2 Y hst2.fixed
              have hwt0 := waiting0 w2 Y.eb Y.pool.pb Y.base ed X.epoch hst2.epoch (by have := HWT.out; omega)
              have HST2 := Lib.hid hst2
              unfold NewInts at hwt0
              unfold ptr at x2 hep2 hwt0
              clear hst2 hep hats x0
              go_wp2_with (first | (go_at_call 65; refine hep2.mono ?_; rintro e w2 ⟨rfl, rfl⟩) | (go_at_call 67; refine hwt0.mono ?_; rintro e w3 ⟨sv3, rfl, hown3, ho3⟩; obtain ⟨A3, cc3, rfl, hr3, _⟩ := row_of_own hown3; rw [List.length_map]; have HW3 := Lib.hid hown3; have HR3 := Lib.hid hr3; have HO6 := Lib.hid ho3; clear ho3 hown3 hr3))
              have hwl := HWT.out
              generalize hLl : X.epoch.list.length = Ln at *
              have HLn := Lib.hid hLl
              clear hLl
              go_loopg [91] Ln (fun k i w' => Cl2 cl w.heap.size Ln (els.length + els.length) w3 k i w')
              case atStart => exact ⟨0, by omega, rfl, by omega, HCM3.out.below (HO2.out.trans HO6.out).below, Only.refl _ _⟩
              case round =>
                obtain ⟨j, hj, rfl, rfl, hcm, ho⟩ := hrel
                have HCM7 := Lib.hid hcm; have HO7 := Lib.hid ho
                by_cases hjn : j < Ln
                · obtain ⟨gk2, hgk⟩ : ∃ gk2, Ln - j = gk2 + 1 := ⟨Ln - j - 1, by omega⟩
                  have hx : X.epoch.list[j]? = some (X.epoch.list[j]'(by rw [HLn.out]; exact hjn)) := List.getElem?_eq_getElem _
                  generalize X.epoch.list[j]'(by rw [HLn.out]; exact hjn) = x at hx
                  obtain ⟨b3, o3, e3, hc3⟩ := HR3.out j (.int .i64 x.1) (by simp [ints, hx])
                  subst e3
                  have hb3 := (HW3.out.lt b3 rfl).1
                  have n0 := cell_only ho hc3 (by have := HLW.out; have := HO2.out.size; have := HO3.out.size; simp; omega)
                  have hcl := claimNext wr w.heap.size cl HND2.out HIN2.out (els.length + els.length + j) hcm x.1 ⟨4, 0, 0, 0, 0⟩ (HK4.out j x hx) (.func (.func 118) #[] #[])
                  have HCLM := Lib.hid hcl; have HGK := Lib.hid hgk; have HJN := Lib.hid hjn
                  have hj0 : (0 : Int) ≤ (j : Int) := by omega
                  have hj1 : (j : Int) < (Ln : Int) := by omega
                  obtain ⟨xh, xe⟩ := x
                  unfold UseS.val at HCLM
                  dsimp only at HCLM n0
                  clear hcm ho hcl hgk hjn hx hc3 hb3
                  go_wp2_with (go_at_call 117; refine HCLM.out.mono ?_; rintro e w5 ⟨rfl, hm5, ho5⟩; have HM3 := Lib.hid hm5; have HO5 := Lib.hid ho5; clear hm5 ho5)
                  go_roundg gk2
                  case measure => have := HGK.out; omega
                  case rel =>
                    have hjl := HJN.out
                    have hg := HGK.out
                    exact ⟨j + 1, by omega, by first | (rw [IntWalk.wrap64_in ((j : Int) + 1) (by omega)]; rfl) | rfl, by omega, HM3.out, HO7.out.trans HO5.out⟩
                · have hje : j = Ln := by omega
                  subst hje
                  have hst7 := (HST2.out.new HO6.out).only ho (fun k hk => by simp at hk; subst hk; exact HMX.out)
                  have hlk7 := ((HLK.out.only HO2.out (by simp)).only HO6.out (by simp)).only ho (by have := HLKM.out; simp; omega)
                  have x7 := hlk7.cell (i := 0) rfl
                  have hep7 := getEpoch wr Y hst7.fixed
                  have hwt7 := waitingK wr Y.eb Y.pool.pb Y.base ed X.epoch hst7.epoch 1 (by omega) (by rw [HWK.out]; omega)
                  unfold NewInts at hwt7
                  unfold ptr at x7 hep7 hwt7
                  clear hcm ho hst7 hlk7
                  go_wp2_with fail
                  rw [rounds_succ]
                  go_wp2_with (first | (go_at_call 65; refine hep7.mono ?_; rintro e wr ⟨rfl, rfl⟩) | (go_at_call 67; refine hwt7.mono ?_; rintro e w9 ⟨sv9, rfl, hown9, ho9⟩; obtain ⟨A9, cc9, rfl, _, _⟩ := row_of_own hown9; have HO9 := Lib.hid ho9; clear ho9 hown9))
                  refine wp_loop_rounds 1 ?_
                  rw [rounds_succ]
                  go_wp2_with fail
                  rw [rounds_succ]
                  go_wp2_with fail
                  go_ret
                  have hall : cl.take (els.length + els.length + j) = cl := List.take_of_length_le (by have h1 := HLEN.out; omega)
                  have hm := HCM7.out
                  rw [hall] at hm
                  refine ⟨w.heap.size, rfl, by rw [HCL.out]; exact hm.below HO9.out.below, Nat.le_refl _, ?_⟩
                  have g1 : Only [w.heap.size] w w9 := ((HO0.out.trans HOR.out).mono (by simp)).trans (HO3.out.trans (((HO2.out.trans HO6.out).mono (by simp)).trans (HO7.out.trans (HO9.out.mono (by simp)))))
                  exact g1.fresh (fun k hk hl => by simp at hk; omega)
end Go.Proofs.YteeefedoffplmaaGreat
