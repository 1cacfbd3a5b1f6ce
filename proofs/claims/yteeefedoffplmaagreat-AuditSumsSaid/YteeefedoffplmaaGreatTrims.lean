/- audit.Trims. Conditions: those of an audit; no lease is taken; each version's stamp is settled and not beyond the clock's time. -/
import Derived.Test.YteeefedoffplmaaGreatRest
set_option linter.unusedSimpArgs false
set_option linter.unusedVariables false
namespace Go.Proofs.YteeefedoffplmaaGreat
open Go.RowKit Go.Maps

structure TrimsOk (X : StoreS) (pss : List (List (Int × SlotS))) (n : Nat) : Prop where
  leases : X.clock.leases = List.replicate n 0
  n : n ≤ 64
  stamps : ∀ (i : Nat) ps, pss[i]? = some ps → ∀ p ∈ ps, p.2.mark ≠ 0 ∧ p.2.mark ≤ X.clock.now
  sets : ∀ (i : Nat) ps (C : ChainS), pss[i]? = some ps → X.chains[i]? = some C → C.sets.length = X.pool.slots.length ∧ ∀ p ∈ ps, (C.set X.pool p.1).length ≤ 100000
def trimUpto (C : ChainS) (S : PoolS) (ps : List (Int × SlotS)) (j : Nat) : Int := ((ps.take (min j (ps.length - 1))).map fun p => 1 + ((C.set S p.1).length : Int)).sum
def trimPart (X : StoreS) (pss : List (List (Int × SlotS))) (i : Nat) : Int := match X.chains[i]?, pss[i]? with | some C, some ps => trimUpto C X.pool ps ps.length | _, _ => 0
theorem sum_le (f : Int × SlotS → Int) (m : Int) (h0 : 0 ≤ m) : ∀ (l : List (Int × SlotS)), (∀ p ∈ l, 0 ≤ f p ∧ f p ≤ m) → 0 ≤ (l.map f).sum ∧ (l.map f).sum ≤ m * l.length
  | [], _ => by simp
  | p :: l, h => by
    have h1 := h p (by simp)
    have h2 := sum_le f m h0 l (fun q hq => h q (by simp [hq]))
    simp only [List.map_cons, List.sum_cons, List.length_cons]
    have : m * ((l.length + 1 : Nat) : Int) = m * (l.length : Int) + m := by
      rw [Int.natCast_add, Int.mul_add]
      simp
    omega
theorem trimUpto_le {C : ChainS} {S : PoolS} {ps : List (Int × SlotS)} (h : ∀ p ∈ ps, (C.set S p.1).length ≤ 100000) (hl : ps.length ≤ 4096) (j : Nat) : 0 ≤ trimUpto C S ps j ∧ trimUpto C S ps j ≤ 409700000 := by
  unfold trimUpto
  have h1 := sum_le (fun p => 1 + ((C.set S p.1).length : Int)) 100001 (by omega) (ps.take (min j (ps.length - 1))) (fun p hp => by
    have := h p (List.mem_of_mem_take hp)
    omega)
  have h2 : (ps.take (min j (ps.length - 1))).length ≤ 4096 := by rw [List.length_take]; omega
  omega
theorem trimUpto_step {C : ChainS} {S : PoolS} {ps : List (Int × SlotS)} {j : Nat} {p : Int × SlotS} (hp : ps[j]? = some p) (hj : j < ps.length - 1) : trimUpto C S ps (j + 1) = trimUpto C S ps j + (1 + ((C.set S p.1).length : Int)) := by
  unfold trimUpto
  rw [Nat.min_eq_left (by omega), Nat.min_eq_left (by omega), take_snoc hp]
  simp
theorem trimUpto_last {C : ChainS} {S : PoolS} {ps : List (Int × SlotS)} {j : Nat} (hj : ¬ j < ps.length - 1) : trimUpto C S ps (j + 1) = trimUpto C S ps j := by
  unfold trimUpto
  rw [Nat.min_eq_right (by omega), Nat.min_eq_right (by omega)]
def Tr2 (X : StoreS) (pss : List (List (Int × SlotS))) (w : World) (k : Nat) (out i : Value) (wr : World) : Prop :=
  ∃ j : Nat, j ≤ pss.length ∧ i = .int .i64 (j : Int) ∧ k = pss.length - j ∧ wr.ownsRow w.heap.size 3 1 out j (ints ((List.range j).map (trimPart X pss))) ∧ Only [] w wr
def Tr3 (C : ChainS) (S : PoolS) (ps : List (Int × SlotS)) (w : World) (k : Nat) (n fr i : Value) (wr : World) : Prop :=
  ∃ j : Nat, j ≤ ps.length ∧ i = .int .i64 (j : Int) ∧ k = ps.length - j ∧ n = .int .i64 (trimUpto C S ps j) ∧ fr = .int .i64 (if j = 0 then -1 else 0) ∧ Only [] w wr
set_option maxRecDepth 100000 in
set_option maxHeartbeats 6400000 in
theorem trims_any (w : World) (Y : StoreL) (ed : Option Nat) (D : Nat → List Nat) (X : StoreS) (h : StoreIn w Y ed D X) (pss : List (List (Int × SlotS))) (ha : Audits X pss) (n : Nat) (ht : TrimsOk X pss n) :
    Calls Tryz.prog 21 #[ptr Y.sb] w (NewInts ((List.range pss.length).map (trimPart X pss)) w) := by
  have hlo := looks_any w Y ed D X h ha.slots ha.gens
  have hn : Y.n = pss.length := by rw [ha.n, h.chains]
  have hpt := fun W (ho : Only [] w W) => getParts W Y (h.new ho).fixed
  rw [hn] at hpt
  have hno := h.ok.n
  rw [hn] at hno
  have hck := fun W (ho : Only [] w W) => getClock W Y (h.new ho).fixed
  have hnw := fun W (ho : Only [] w W) => clockNow W Y.clock X.clock (h.new ho).clock
  have hlc := fun W (ho : Only [] w W) => clockLeases W Y.clock X.clock (h.new ho).clock
  rw [ht.leases] at hlc
  have hn64 := ht.n
  have HA := Lib.hid ha; have HT := Lib.hid ht
  have H := Lib.hid h; have HPT := Lib.hid hpt; have HNO := Lib.hid hno; have HCK := Lib.hid hck; have HNW := Lib.hid hnw; have HLC := Lib.hid hlc; have HN := Lib.hid hn
  unfold NewInts at HLC
  unfold NewInts
  unfold ptr at *
  clear h ha ht hn hpt hno hck hnw hlc
  generalize hcn : X.clock.now = now at *
  have HCN := Lib.hid hcn
  clear hcn
  go_enter Tryz.func21, Tryz.ntmps21
  go_wp2_with (first | (go_at_call 55; refine hlo.mono ?_; rintro e w1 ⟨lk, b, c, rfl, hl1, hg1, hg2, ho1⟩; have HL1 := Lib.hid hl1; have HO1 := Lib.hid ho1; clear hl1 hg1 hg2 ho1) | (go_at_call 59; refine (HCK.out w1 HO1.out).mono ?_; rintro e w1 ⟨rfl, rfl⟩) | (go_at_call 60; refine (HNW.out w1 HO1.out).mono ?_; rintro e w1 ⟨rfl, rfl⟩) | (go_at_call 61; refine (HLC.out w1 HO1.out).mono ?_; rintro e w2 ⟨sv2, rfl, hown2, ho2⟩; obtain ⟨A2, c2, rfl, hr2, _⟩ := row_of_own hown2; rw [List.length_replicate]; have HR2 := Lib.hid hr2; have HO2 := Lib.hid ho2; clear ho2 hown2 hr2))
  go_loopg [5, 25] n (fun k l5 i wr => l5 = .int .i64 now ∧ IzRel n w2 k i wr)
  case atStart => exact ⟨rfl, 0, by omega, rfl, by omega, rfl⟩
  case round =>
    obtain ⟨rfl, j, hj, rfl, rfl, rfl⟩ := hrel
    by_cases hjn : j < n
    · obtain ⟨gk2, hgk⟩ : ∃ gk2, n - j = gk2 + 1 := ⟨n - j - 1, by omega⟩
      obtain ⟨b2, off, hA, hc⟩ := HR2.out j (.int .i64 0) (by simp [ints, hjn])
      subst hA
      have hj0 : (0 : Int) ≤ (j : Int) := by omega
      have hj1 : (j : Int) < (n : Int) := by omega
      have HGK := Lib.hid hgk; have HJN := Lib.hid hjn
      clear hgk hjn
      go_wp2_with fail
      go_roundg gk2
      case measure => have := HGK.out; omega
      case rel =>
        have hjl := HJN.out
        have hg := HGK.out
        exact ⟨rfl, j + 1, by omega, by first | (rw [IntWalk.wrap64_in ((j : Int) + 1) (by omega)]; rfl) | rfl, by omega, rfl⟩
    · have hje : j = n := by omega
      subst hje
      go_wp2_with (go_at_call 12; refine (HPT.out wr (HO1.out.trans HO2.out)).mono ?_; rintro e wr ⟨rfl, rfl⟩)
      obtain ⟨w3, hw3⟩ : ∃ w3, w3 = wr := ⟨_, rfl⟩
      subst hw3
      go_loopg [8, 38] pss.length (fun k out i wr => Tr2 X pss w3 k out i wr)
      case atStart => exact ⟨0, by omega, rfl, by omega, World.ownsRow_nil _ _ _ _, Only.refl _ _⟩
      case round =>
        obtain ⟨i, hj, rfl, rfl, hown, hor⟩ := hrel
        have HOWN := Lib.hid hown; have HOR := Lib.hid hor
        obtain ⟨hno1, hno2⟩ := HNO.out
        by_cases hjn : i < pss.length
        · obtain ⟨gk2, hgk⟩ : ∃ gk2, pss.length - i = gk2 + 1 := ⟨pss.length - i - 1, by omega⟩
          have hpj : pss[i]? = some pss[i] := List.getElem?_eq_getElem hjn
          have hpv : partV pss i = pss[i].map (verOf i) := by unfold partV; rw [hpj]; rfl
          generalize pss[i] = ps at hpj hpv
          obtain ⟨C, hC, hcv, hlf, hpl⟩ := HA.out.vers i ps hpj
          have hon : Only [] w wr := (HO1.out.trans HO2.out).trans hor
          have hvs := versionsOf_any wr Y ed D X (H.out.new hon) lk b c (HL1.out.only (HO2.out.trans hor) (by simp) (by simp)) i C hC ps hcv hlf hpl
          have hstm := HT.out.stamps i ps hpj
          rw [HCN.out] at hstm
          obtain ⟨hsl, hsets⟩ := HT.out.sets i ps C hpj hC
          have hin : i < Y.n := by rw [HN.out]; exact hjn
          have hch := fun W (ho : Only [] w W) => getChain W Y (H.out.new ho).fixed i hin
          have hset := fun W (ho : Only [] w W) hh => set_any W (Y.chain i) Y.pool X.pool Y.clock.cb Y.base (D i) C (H.out.new ho).pool ((H.out.new ho).chain i C hC) H.out.slots hsl hh
          have htp : trimPart X pss i = trimUpto C X.pool ps ps.length := by unfold trimPart; rw [hC, hpj]
          obtain ⟨oA, oc, hov, _, _⟩ := row_of_own hown
          subst hov
          have hj0 : (0 : Int) ≤ (i : Int) := by omega
          have hj1 : (i : Int) < (pss.length : Int) := by omega
          have HM1 := Lib.hid (show i + 1 ≤ maxLen from by unfold maxLen; omega)
          have HM2 := Lib.hid (show (i + 1) * 8 ≤ 140737488355328 from by omega)
          have HPJ := Lib.hid hpj; have HGK := Lib.hid hgk; have HJN := Lib.hid hjn; have HTP := Lib.hid htp; have HON := Lib.hid hon; have HSTM := Lib.hid hstm; have HSETS := Lib.hid hsets; have HCH := Lib.hid hch; have HSET := Lib.hid hset; have HPL := Lib.hid hpl
          unfold NewVers ptr at hvs
          unfold NewInts at HSET
          unfold ptr at HCH HSET
          clear hpj hpv hcv hlf hpl hC hgk hjn hor hon hstm hsets hsl hch hset htp hown
          go_wp2_with (go_at_call 62; refine hvs.mono ?_; rintro e w4 ⟨v2, els, rfl, he2, hr2, ho2⟩; obtain ⟨A3, c3, rfl, _, _⟩ := row_of_own hr2.own; have hll : els.length = ps.length := (by have := congrArg List.length he2; simpa using this); have HE2 := Lib.hid he2; have HR3 := Lib.hid hr2; have HO4 := Lib.hid ho2; have HLL := Lib.hid hll; clear he2 hr2 ho2)
          try rw [hll]
          clear hll
          obtain ⟨wb, hwb⟩ : ∃ wb, wb = wr := ⟨_, rfl⟩
          subst hwb
          go_loopg [10, 11, 46] ps.length (fun k n fr i wr => Tr3 C X.pool ps w4 k n fr i wr)
          case atStart => exact ⟨0, by omega, rfl, by omega, by simp [trimUpto], rfl, Only.refl _ _⟩
          case round =>
            obtain ⟨j, hjj, rfl, rfl, rfl, rfl, hor⟩ := hrel
            have HOR4 := Lib.hid hor
            have hplm := HPL.out
            have htb := trimUpto_le (j := j) HSETS.out hplm
            by_cases hjn : j < ps.length
            · obtain ⟨gk3, hgk⟩ : ∃ gk3, ps.length - j = gk3 + 1 := ⟨ps.length - j - 1, by omega⟩
              have hpp : ps[j]? = some ps[j] := List.getElem?_eq_getElem hjn
              generalize ps[j] = p at hpp
              obtain ⟨x, hx, hxe⟩ : ∃ x, els[j]? = some x ∧ x.1 = verOf i p := by
                have h1 := congrArg (fun l : List VersionS => l[j]?) HE2.out
                simp only [List.getElem?_map, hpp, Option.map_some] at h1
                obtain ⟨x, hx, e⟩ := Option.map_eq_some_iff.1 h1
                exact ⟨x, hx, e⟩
              obtain ⟨g, cc, hge, hgc⟩ := HR3.out.cells hx
              rw [HLL.out] at hge
              injection hge with hge _ hge2
              subst hge hge2
              obtain ⟨⟨xh, xp, xn, xs, xl⟩, xb, xc⟩ := x
              obtain ⟨ph, pslot⟩ := p
              simp only [verOf] at hxe
              injection hxe with e1 e2 e3 e4 e5
              subst e1 e2 e3 e4 e5
              have d0 := cell_only hor (hgc 0 _ rfl) (by simp)
              have d1 := cell_only hor (hgc 1 _ rfl) (by simp)
              have d2 := cell_only hor (hgc 2 _ rfl) (by simp)
              have d3 := cell_only hor (hgc 3 _ rfl) (by simp)
              have d4 := cell_only hor (hgc 4 _ rfl) (by simp)
              rw [Nat.add_zero] at d0
              obtain ⟨hm0, hmn⟩ := HSTM.out _ (List.mem_of_getElem? hpp)
              have hsl := HSETS.out _ (List.mem_of_getElem? hpp)
              dsimp only at d0 d1 d2 d3 d4 hm0 hmn hsl
              rw [List.length_singleton] at d4
              have hqm : (pslot.mark == 0) = false := by simp [hm0]
              generalize pslot.mark = mk at *
              generalize pslot.node.b = nb at *
              have hj0' : (0 : Int) ≤ (j : Int) := by omega
              have hj1' : (j : Int) < (ps.length : Int) := by omega
              obtain ⟨WW, hWW⟩ : ∃ WW, wr.alloc (.cells #[.int .i64 xh, .int .i64 (i : Int), .int .i64 nb, .int .i64 mk, .slice (some ⟨xb, 0, none⟩) 1 xc] 145) = WW := ⟨_, rfl⟩
              have how4 : Only [] w4 WW := by rw [← hWW]; exact hor.alloc _
              have hz : Blk WW wr.heap.size [.int .i64 xh, .int .i64 (i : Int), .int .i64 nb, .int .i64 mk, .slice (some ⟨xb, 0, none⟩) 1 xc] 145 := by rw [← hWW]; exact Blk.new wr _ 145
              have z0 := hz.cell (i := 0) rfl
              have z3 := hz.cell (i := 3) rfl
              have HOW := Lib.hid ((HON.out.trans HO4.out).trans how4)
              have HOW4 := Lib.hid how4
              have HPP := Lib.hid hpp; have HGK3 := Lib.hid hgk; have HJN3 := Lib.hid hjn
              clear hor hpp hx hgc hm0 how4 hz hgk hjn
              by_cases hlt : j < ps.length - 1
              · have hst := Lib.hid (trimUpto_step (C := C) (S := X.pool) HPP.out hlt)
                have hq : (j : Int) < (ps.length : Int) - 1 := by omega
                clear hlt
                by_cases hjz : j = 0
                · subst hjz
                  go_wp2_with fail
                  go_region_held3 (fun W => W.cell? ⟨wr.heap.size, 0, none⟩ = some (.int .i64 xh))
                    (first | with_reducible exact cell_only ho5 z0 (by simp) | (go_keep; done))
                    (first | (go_simp; go_at_call 63; refine (HCH.out _ (HOW.out.drew')).mono ?_; rintro e W ⟨rfl, rfl⟩) | (go_simp; go_at_call 64; refine (HSET.out _ (HOW.out.drew') _).mono ?_; rintro e w5 ⟨sv5, rfl, hown5, ho5'⟩; obtain ⟨A5, c5, rfl, _, _⟩ := row_of_own hown5; have ho5 : Only [] WW w5 := ⟨ho5'.os, ho5'.tape, ho5'.output, ho5'.size, ho5'.block⟩; have HO5 := Lib.hid ho5; clear hown5 ho5'))
                  go_wp2_with fail
                  go_roundg gk3
                  case measure => have := HGK3.out; omega
                  case rel =>
                    have hjl := HJN3.out
                    have hg := HGK3.out
                    have e1 : IntKind.i64.wrap (1 + ((C.set X.pool xh).length : Int)) = 1 + ((C.set X.pool xh).length : Int) := IntWalk.i64_in _ (by omega)
                    have e2 : IntKind.i64.wrap (trimUpto C X.pool ps 0 + (1 + ((C.set X.pool xh).length : Int))) = trimUpto C X.pool ps 0 + (1 + ((C.set X.pool xh).length : Int)) := IntWalk.i64_in _ (by omega)
                    exact ⟨0 + 1, by omega, by first | (rw [IntWalk.wrap64_in ((0 : Int) + 1) (by omega)]; rfl) | rfl, by omega, by rw [e1, e2, hst.out], by first | rfl | simp, HOW4.out.trans HO5.out⟩
                · have hjp : (if j = 0 then (-1 : Int) else 0) = 0 := if_neg hjz
                  rw [hjp]
                  go_wp2_with fail
                  go_region_held3 (fun W => W.cell? ⟨wr.heap.size, 0, none⟩ = some (.int .i64 xh))
                    (first | with_reducible exact cell_only ho5 z0 (by simp) | (go_keep; done))
                    (first | (go_simp; go_at_call 63; refine (HCH.out _ (HOW.out.drew')).mono ?_; rintro e W ⟨rfl, rfl⟩) | (go_simp; go_at_call 64; refine (HSET.out _ (HOW.out.drew') _).mono ?_; rintro e w5 ⟨sv5, rfl, hown5, ho5'⟩; obtain ⟨A5, c5, rfl, _, _⟩ := row_of_own hown5; have ho5 : Only [] WW w5 := ⟨ho5'.os, ho5'.tape, ho5'.output, ho5'.size, ho5'.block⟩; have HO5 := Lib.hid ho5; clear hown5 ho5'))
                  go_wp2_with fail
                  go_roundg gk3
                  case measure => have := HGK3.out; omega
                  case rel =>
                    have hjl := HJN3.out
                    have hg := HGK3.out
                    have e1 : IntKind.i64.wrap (1 + ((C.set X.pool xh).length : Int)) = 1 + ((C.set X.pool xh).length : Int) := IntWalk.i64_in _ (by omega)
                    have e2 : IntKind.i64.wrap (trimUpto C X.pool ps j + (1 + ((C.set X.pool xh).length : Int))) = trimUpto C X.pool ps j + (1 + ((C.set X.pool xh).length : Int)) := IntWalk.i64_in _ (by omega)
                    exact ⟨j + 1, by omega, by first | (rw [IntWalk.wrap64_in ((j : Int) + 1) (by omega)]; rfl) | rfl, by omega, by rw [e1, e2, hst.out], by first | rfl | simp, HOW4.out.trans HO5.out⟩
              · have hst := Lib.hid (trimUpto_last (C := C) (S := X.pool) hlt)
                have hq : ¬ (j : Int) < (ps.length : Int) - 1 := by omega
                clear hlt
                by_cases hjz : j = 0
                · subst hjz
                  go_wp2_with fail
                  go_roundg gk3
                  case measure => have := HGK3.out; omega
                  case rel =>
                    have hjl := HJN3.out
                    have hg := HGK3.out
                    exact ⟨0 + 1, by omega, by first | (rw [IntWalk.wrap64_in ((0 : Int) + 1) (by omega)]; rfl) | rfl, by omega, by rw [hst.out], by first | rfl | simp, HOW4.out⟩
                · have hjp : (if j = 0 then (-1 : Int) else 0) = 0 := if_neg hjz
                  rw [hjp]
                  go_wp2_with fail
                  go_roundg gk3
                  case measure => have := HGK3.out; omega
                  case rel =>
                    have hjl := HJN3.out
                    have hg := HGK3.out
                    exact ⟨j + 1, by omega, by first | (rw [IntWalk.wrap64_in ((j : Int) + 1) (by omega)]; rfl) | rfl, by omega, by rw [hst.out], by first | rfl | simp, HOW4.out⟩
            · have hje : j = ps.length := by omega
              subst hje
              have hown4 := own_only HOWN.out (HO4.out.trans hor) (by simp)
              have HOWN4 := Lib.hid hown4
              have HRN := Lib.hid (row_new wr [.int .i64 (trimUpto C X.pool ps ps.length)] 3)
              have HBS := Lib.hid (show w3.heap.size ≤ (wr.alloc (.cells #[.int .i64 (trimUpto C X.pool ps ps.length)] 3)).heap.size from Nat.le_trans (Nat.le_trans HOR.out.size (Nat.le_trans HO4.out.size hor.size)) (size_alloc_le _ _))
              clear hor hown4
              generalize (if ps.length = 0 then (-1 : Int) else 0) = frv
              go_wp2_with (at_builtin; refine wpList_append_is rfl (.tmp 85) (.tmp 87) rfl elemInt rfl (HOWN4.out.alloc _) _ 1 _ [.int .i64 (trimUpto C X.pool ps ps.length)] rfl HRN.out rfl (by simp [Value.oneCell']) HM1.out HM2.out HBS.out (fun e => by cases e) ?_; intro v6 w6 hown6 hg6 hat6; obtain ⟨A6, c6, rfl, _, _⟩ := row_of_own hown6; have HW6 := Lib.hid hown6; have HG6 := Lib.hid (show World.grownBy _ w6 (Value.slice oA i oc).ownBlock from hg6); clear hown6 hg6 hat6)
              go_roundg gk2
              case measure => have := HGK.out; omega
              case rel =>
                have hjl := HJN.out
                have hg := HGK.out
                refine ⟨i + 1, by omega, by first | (rw [IntWalk.wrap64_in ((i : Int) + 1) (by omega)]; rfl) | rfl, by omega, ?_, ((HOR.out.trans (HO4.out.trans HOR4.out)).alloc _).grown HG6.out (fun k hk => .inl (HOWN.out.lt k hk).1)⟩
                rw [List.range_succ, List.map_append, List.map_singleton, HTP.out, ints_append]
                exact HW6.out
        · have hje : i = pss.length := by omega
          subst hje
          clear hown hor
          go_wp2_with fail
          go_ret
          exact ⟨_, rfl, by rw [List.length_map, List.length_range]; exact own_base HOWN.out (HO1.out.trans HO2.out).size, (HO1.out.trans HO2.out).trans HOR.out⟩
end Go.Proofs.YteeefedoffplmaaGreat
