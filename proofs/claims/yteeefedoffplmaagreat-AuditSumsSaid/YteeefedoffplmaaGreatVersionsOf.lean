/- An audit's versions of a part. Conditions: the store lies in memory; each version is in use and its tree is one leaf. -/
import Derived.Test.YteeefedoffplmaaGreatLook
import Derived.Deep.RegionHeld3
set_option linter.unusedSimpArgs false
set_option linter.unusedVariables false
namespace Go.Proofs.YteeefedoffplmaaGreat
open Go.RowKit

abbrev VEl := VersionS × Nat × Nat
def vcells (x : VEl) : List Value := [.int .i64 x.1.h, .int .i64 x.1.part, .int .i64 x.1.number, .int .i64 x.1.stamp, .slice (some ⟨x.2.1, 0, none⟩) x.1.nodes.length x.2.2]
/-- a row of versions, of the call's own. -/
structure VRow (w : World) (base : Nat) (v : Value) (l : List VEl) : Prop where
  own : w.ownsRow base 145 5 v l.length (l.flatMap vcells)
  nodes : ∀ x ∈ l, v.ownBlock ≠ some x.2.1 ∧ (base ≤ x.2.1 ∧ x.2.1 < w.heap.size) ∧ Row w (some ⟨x.2.1, 0, none⟩) (ints x.1.nodes)
theorem VRow.nil (w : World) (base : Nat) : VRow w base (.slice none 0 0) [] := ⟨World.ownsRow_nil _ _ _ _, by simp⟩
theorem VRow.new {w w' : World} {base : Nat} {v : Value} {l : List VEl} (h : VRow w base v l) (ho : Only [] w w') : VRow w' base v l :=
  ⟨own_only h.own ho (by simp), fun x hx => ⟨(h.nodes x hx).1, ⟨(h.nodes x hx).2.1.1, Nat.lt_of_lt_of_le (h.nodes x hx).2.1.2 ho.size⟩, (h.nodes x hx).2.2.below ho.below⟩⟩
theorem row_grown {wA w5 : World} {row : Option Nat} {b : Nat} {xs : List Value} (h : Row wA (some ⟨b, 0, none⟩) xs) (hg : wA.grownBy w5 row) (hne : row ≠ some b) : Row w5 (some ⟨b, 0, none⟩) xs := fun j u hu => by
  obtain ⟨b', off, e, hc⟩ := h j u hu
  injection e with e
  injection e with e1 e2
  subst e1 e2
  refine ⟨b, 0, rfl, ?_⟩
  have := hg.block b (cell_lt hc) (fun e => hne e.symm)
  simp only [World.cell?] at hc ⊢
  rw [this]
  exact hc
theorem VRow.push {wr wA w5 : World} {base : Nat} {out v2 : Value} {els : List VEl} {x : VersionS} {g c : Nat} (h : VRow wr base out els) (ho : Only [] wr wA) (hg : wA.grownBy w5 out.ownBlock) (hown : w5.ownsRow base 145 5 v2 (els.length + 1) (els.flatMap vcells ++ vcells (x, g, c)))
    (hat : v2.ownBlock = out.ownBlock ∨ v2.ownBlock = some wA.heap.size) (hbs : base ≤ wr.heap.size) (hg1 : wr.heap.size ≤ g ∧ g < wA.heap.size) (hrow : Row wA (some ⟨g, 0, none⟩) (ints x.nodes)) : VRow w5 base v2 (els ++ [(x, g, c)]) := by
  have hol : ∀ k, out.ownBlock = some k → k < wr.heap.size := fun k hk => (h.own.lt k hk).2
  refine ⟨by simpa using hown, fun y hy => ?_⟩
  have key : ∀ b, out.ownBlock ≠ some b → b < wA.heap.size → v2.ownBlock ≠ some b := fun b h1 h2 e => by
    rcases hat with e2 | e2
    · exact h1 (e2 ▸ e)
    · rw [e2] at e
      injection e with e
      omega
  rcases List.mem_append.1 hy with hy | hy
  · obtain ⟨h1, ⟨h0, h2⟩, h3⟩ := h.nodes y hy
    have h2' := Nat.lt_of_lt_of_le h2 ho.size
    exact ⟨key _ h1 h2', ⟨h0, Nat.lt_of_lt_of_le h2' hg.size⟩, row_grown (h3.below ho.below) hg h1⟩
  · obtain rfl := List.mem_singleton.1 hy
    have hne : out.ownBlock ≠ some g := fun e => by have := hol g e; omega
    exact ⟨key _ hne hg1.2, ⟨Nat.le_trans hbs hg1.1, Nat.lt_of_lt_of_le hg1.2 hg.size⟩, row_grown hrow hg hne⟩
/-- a row of versions behind another one. -/
theorem VRow.join {wr wA w5 : World} {base base2 : Nat} {out out2 v2 : Value} {els els2 : List VEl} (h : VRow wr base out els) (ho : Only [] wr wA) (h2 : VRow wA base2 out2 els2) (hb2 : wr.heap.size ≤ base2) (hbs : base ≤ wr.heap.size) (hg : wA.grownBy w5 out.ownBlock)
    (hown : w5.ownsRow base 145 5 v2 (els.length + els2.length) (els.flatMap vcells ++ els2.flatMap vcells)) (hat : v2.ownBlock = out.ownBlock ∨ v2.ownBlock = some wA.heap.size) : VRow w5 base v2 (els ++ els2) := by
  have hol : ∀ k, out.ownBlock = some k → k < wr.heap.size := fun k hk => (h.own.lt k hk).2
  refine ⟨by simpa using hown, fun y hy => ?_⟩
  have key : ∀ b, out.ownBlock ≠ some b → b < wA.heap.size → v2.ownBlock ≠ some b := fun b h1 h2 e => by
    rcases hat with e2 | e2
    · exact h1 (e2 ▸ e)
    · rw [e2] at e
      injection e with e
      omega
  rcases List.mem_append.1 hy with hy | hy
  · obtain ⟨h1, ⟨h0, h2⟩, h3⟩ := h.nodes y hy
    have h2' := Nat.lt_of_lt_of_le h2 ho.size
    exact ⟨key _ h1 h2', ⟨h0, Nat.lt_of_lt_of_le h2' hg.size⟩, row_grown (h3.below ho.below) hg h1⟩
  · obtain ⟨_, ⟨h0, h2'⟩, h3⟩ := h2.nodes y hy
    have hne : out.ownBlock ≠ some y.2.1 := fun e => by have := hol _ e; omega
    exact ⟨key _ hne h2', ⟨by omega, Nat.lt_of_lt_of_le h2' hg.size⟩, row_grown h3 hg hne⟩
theorem own_one {w : World} {base e : Nat} {v : Value} {x : Value} (h : w.ownsRow base e 1 v 1 [x]) : ∃ g c, v = .slice (some ⟨g, 0, none⟩) 1 c := by
  rcases h.2 with ⟨_, h3⟩ | ⟨g, cap, cur, h2, _⟩
  · omega
  · exact ⟨g, cap, h2⟩
theorem cell_far5 {w w5 : World} {row : Option Nat} {b i : Nat} {v : Value} (h : w.cell? ⟨b, i, none⟩ = some v) (hg : w.grownBy w5 row) (hne : row ≠ some b) : w5.cell? ⟨b, i, none⟩ = some v := by
  have := hg.block b (cell_lt h) (fun e => hne e.symm)
  simp only [World.cell?] at h ⊢
  rw [this]
  exact h
theorem elemVer : ElemOk Tryz.prog 142 145 5 56 := elemOk_of (by kernel_rfl) (by decide) (.agg #[.int .i64 0, .int .i64 0, .int .i64 0, .int .i64 0, .slice none 0 0]) (by kernel_rfl) rfl
theorem vcells_one (x : VEl) : ∀ u ∈ vcells x, u.oneCell' = true := by
  intro u hu
  simp [vcells] at hu
  rcases hu with rfl | rfl | rfl | rfl | rfl <;> rfl
/-- a version as it is told. -/
def verOf (part : Int) (p : Int × SlotS) : VersionS := ⟨p.1, part, p.2.node.b, p.2.mark, [p.2.node.a]⟩
/-- each version is in use, and its tree is one leaf. -/
def Leafy (sl : List SlotS) (ps : List (Int × SlotS)) : Prop := ∀ p ∈ ps, LookYes sl p.1 p.2 ∧ ∃ s, LookYes sl p.2.node.a s ∧ s.node.a ≤ 0
def VnRel (part : Int) (ps : List (Int × SlotS)) (w : World) (k : Nat) (out i : Value) (wr : World) : Prop :=
  ∃ (j : Nat) (els : List VEl), j ≤ ps.length ∧ i = .int .i64 (j : Int) ∧ k = ps.length - j ∧ els.map (·.1) = (ps.take j).map (verOf part) ∧ VRow wr w.heap.size out els ∧ Only [] w wr
def NewVers (l : List VersionS) (w : World) (e : Ending) (w' : World) : Prop := ∃ v els, e = .returned v ∧ els.map (·.1) = l ∧ VRow w' w.heap.size v els ∧ Only [] w w'
set_option maxRecDepth 100000 in
set_option maxHeartbeats 3200000 in
theorem versionsOf_any (w : World) (Y : StoreL) (ed : Option Nat) (D : Nat → List Nat) (X : StoreS) (h : StoreIn w Y ed D X) (lk b c : Nat) (hl : LookAt w lk Y b c (X.pool.slots.drop 1)) (i : Nat) (C : ChainS) (hC : X.chains[i]? = some C) (ps : List (Int × SlotS)) (hps : C.versions X.pool = ps.map (·.1)) (hlf : Leafy (X.pool.slots.drop 1) ps) (hn : ps.length ≤ 4096) :
    Calls Tryz.prog 62 #[ptr lk, .int .i64 (i : Int)] w (NewVers (ps.map (verOf i)) w) := by
  have hi : i < Y.n := by rw [← h.chains]; exact (List.getElem?_eq_some_iff.1 hC).1
  have hch := getChain w Y h.fixed i hi
  have hvs := versions_any w (Y.chain i) Y.pool X.pool Y.clock.cb Y.base (D i) C h.pool (h.chain i C hC) h.slots
  rw [hps] at hvs
  have c0 := hl.blk.cell (i := 0) rfl
  generalize X.pool.slots.drop 1 = sl at *
  have HL := Lib.hid hl; have HLF := Lib.hid hlf; have HN := Lib.hid hn
  unfold NewInts at hvs
  unfold NewVers
  unfold ptr at *
  clear h hl hlf hn hps hC hi
  generalize hpl : (i : Int) = part at *
  go_enter Tryz.func62, Tryz.ntmps62
  go_wp2_with (first | (go_at_call 63; refine hch.mono ?_; rintro e w ⟨rfl, rfl⟩) | (go_at_call 70; refine hvs.mono ?_; rintro e w1 ⟨sv, rfl, hown, ho⟩; obtain ⟨A, cc, rfl, hrow, _⟩ := row_of_own hown; rw [List.length_map]; have HROW := Lib.hid hrow; have HO := Lib.hid ho; clear hown hrow ho))
  go_loopg [5, 18] ps.length (fun k out i wr => VnRel part ps w1 k out i wr)
  case atStart => exact ⟨0, [], by omega, rfl, by omega, rfl, VRow.nil _ _, Only.refl _ _⟩
  case round =>
    obtain ⟨j, els, hj, rfl, rfl, hels, hrow, hor⟩ := hrel
    have HELS := Lib.hid hels; have HVR := Lib.hid hrow; have HOR := Lib.hid hor
    have hell : els.length = j := by
      have := congrArg List.length hels
      simpa [Nat.min_eq_left hj] using this
    have hn := HN.out
    by_cases hjn : j < ps.length
    · obtain ⟨gk, hgk⟩ : ∃ gk, ps.length - j = gk + 1 := ⟨ps.length - j - 1, by omega⟩
      have hpj : ps[j]? = some ps[j] := List.getElem?_eq_getElem hjn
      generalize ps[j] = p at hpj
      obtain ⟨hy, s2, hy2, ha2⟩ := HLF.out p (List.mem_of_getElem? hpj)
      obtain ⟨b', off', hA, hq⟩ := HROW.out j (.int .i64 p.1) (by simp [ints, hpj])
      subst hA
      have hq := cell_only hor hq (by simp)
      have hat := lookAt_yes wr lk Y b c sl ((HL.out.only HO.out (by simp) (by simp)).only hor (by simp) (by simp)) p.1 p.2 hy
      have hnd := fun W (ho : Only [] wr W) => nodesLeaf_any W lk Y b c sl (((HL.out.only HO.out (by simp) (by simp)).only hor (by simp) (by simp)).only ho (by simp) (by simp)) p.2.node.a s2 hy2 ha2
      have HND := Lib.hid hnd
      obtain ⟨ph, ⟨s0, s1, s3, ⟨sa, sb, sc, sd⟩⟩⟩ := p
      obtain ⟨oA, oc, hov, _, _⟩ := row_of_own hrow.own
      rw [hell] at hov
      subst hov
      have HELL := Lib.hid hell
      have hj0 : (0 : Int) ≤ (j : Int) := by omega
      have hj1 : (j : Int) < (ps.length : Int) := by omega
      have HPJ := Lib.hid hpj; have HGK := Lib.hid hgk; have HJN := Lib.hid hjn
      unfold SlotS.apiV at hat
      unfold NewInts ptr at HND
      unfold ptr at hat
      dsimp only at hat HND
      clear hels hrow hor hpj hy hy2 ha2 hnd hell hgk hjn hch hvs
      go_wp2_with (go_at_call 121; refine hat.mono ?_; rintro e w2 ⟨rfl, ho2⟩; have HO2 := Lib.hid ho2; clear ho2)
      obtain ⟨W3, hW3⟩ : ∃ W3, w2.alloc (.cells #[.int .i64 s0, .int .i64 sa, .int .i64 sb, .int .i64 sc, .int .i64 sd, .int .i64 s1, .int .i64 s3] 220) = W3 := ⟨_, rfl⟩
      rw [hW3]
      have ho3 : Only [] wr W3 := by rw [← hW3]; exact HO2.out.alloc _
      have hb3 : Blk W3 w2.heap.size [.int .i64 s0, .int .i64 sa, .int .i64 sb, .int .i64 sc, .int .i64 sd, .int .i64 s1, .int .i64 s3] 220 := by rw [← hW3]; exact Blk.new w2 _ 220
      have k1 := hb3.cell (i := 1) rfl
      have k2 := hb3.cell (i := 2) rfl
      have k5 := hb3.cell (i := 5) rfl
      have HO3 := Lib.hid ho3
      have hpw : w1.heap.size ≤ wr.heap.size := HOR.out.size
      have HPW := Lib.hid hpw
      have HM1 := Lib.hid (show j + 1 ≤ maxLen from by unfold maxLen; omega)
      have HM2 := Lib.hid (show (j + 1) * 56 ≤ 140737488355328 from by omega)
      have HFAR := Lib.hid (show (Value.slice oA j oc).ownBlock ≠ some w2.heap.size from fun e => by
        have h1 := (HVR.out.own.lt _ e).2
        have h2 := HO2.out.size
        omega)
      clear hW3 ho3 hb3 hpw hat
      go_region_held3 (fun W => W.cell? ⟨w2.heap.size, 1, none⟩ = some (.int .i64 sa) ∧ W.cell? ⟨w2.heap.size, 2, none⟩ = some (.int .i64 sb) ∧ W.cell? ⟨w2.heap.size, 5, none⟩ = some (.int .i64 s1))
        (first | with_reducible exact ⟨cell_only ho4 k1 (by simp), cell_only ho4 k2 (by simp), cell_only ho4 k5 (by simp)⟩ | with_reducible exact ⟨cell_only (ho4.alloc _) k1 (by simp), cell_only (ho4.alloc _) k2 (by simp), cell_only (ho4.alloc _) k5 (by simp)⟩ | with_reducible exact ⟨y1, y2, y5⟩ | (go_keep; done))
        (first | (go_simp; go_at_call 122; refine (HND.out W3.drew HO3.out.drew').mono ?_; rintro e w4 ⟨nv, rfl, hnv, ho4'⟩; obtain ⟨ng, nc, rfl⟩ := own_one hnv; have ho4 : Only [] W3 w4 := ⟨ho4'.os, ho4'.tape, ho4'.output, ho4'.size, ho4'.block⟩; have HNV := Lib.hid hnv; have HO4 := Lib.hid ho4; have hown4 : w4.ownsRow w1.heap.size 145 5 (.slice oA j oc) j (els.flatMap vcells) := (by have h4 := (HVR.out.new (HO3.out.trans ho4)).own; rwa [HELL.out] at h4); have HOWN4 := Lib.hid hown4; have HBS := Lib.hid (show w1.heap.size ≤ (w4.alloc (.cells #[.int .i64 ph, .int .i64 part, .int .i64 sb, .int .i64 s1, .slice (some ⟨ng, 0, none⟩) 1 nc] 145)).heap.size from Nat.le_trans HPW.out (Nat.le_trans (HO3.out.trans ho4).size (size_alloc_le _ _))); have HRN := Lib.hid (row_new w4 [.int .i64 ph, .int .i64 part, .int .i64 sb, .int .i64 s1, .slice (some ⟨ng, 0, none⟩) 1 nc] 145); clear hnv ho4' hown4) | (refine step_append_is rfl (.tmp 29) (.tmp 43) rfl elemVer rfl (HOWN4.out.alloc _) _ 1 _ [.int .i64 ph, .int .i64 part, .int .i64 sb, .int .i64 s1, .slice (some ⟨ng, 0, none⟩) 1 nc] rfl HRN.out rfl (vcells_one (⟨ph, part, sb, s1, [sa]⟩, ng, nc)) HM1.out HM2.out HBS.out (fun e => by cases e) ?_; intro v2 w5 hown5 hg5 hat5; have y1 := cell_far5 (cell_only (ho4.alloc _) k1 (by simp)) hg5 (HFAR.out); have y2 := cell_far5 (cell_only (ho4.alloc _) k2 (by simp)) hg5 HFAR.out; have y5 := cell_far5 (cell_only (ho4.alloc _) k5 (by simp)) hg5 HFAR.out; have HW5 := Lib.hid hown5; have HG5 := Lib.hid (show (w4.alloc (.cells #[.int .i64 ph, .int .i64 part, .int .i64 sb, .int .i64 s1, .slice (some ⟨ng, 0, none⟩) 1 nc] 145)).grownBy w5 (Value.slice oA j oc).ownBlock from hg5); have HA5 := Lib.hid (show v2.ownBlock = (Value.slice oA j oc).ownBlock ∨ v2.ownBlock = some (w4.alloc (.cells #[.int .i64 ph, .int .i64 part, .int .i64 sb, .int .i64 s1, .slice (some ⟨ng, 0, none⟩) 1 nc] 145)).heap.size from hat5); clear hown5 hg5 hat5))
      go_wp2_with fail
      go_roundg gk
      case measure => have := HGK.out; omega
      case rel =>
        have hjl := HJN.out
        have hg := HGK.out
        have hwn := HW5.out
        rw [← HELL.out] at hwn
        obtain ⟨l1, l2⟩ := HNV.out.lt ng rfl
        obtain ⟨rA, rc, re, hrr, _⟩ := row_of_own HNV.out
        injection re with re
        subst re
        refine ⟨j + 1, els ++ [(verOf part (ph, ⟨s0, s1, s3, ⟨sa, sb, sc, sd⟩⟩), ng, nc)], by omega, by go_num, by omega, ?_, HVR.out.push ((HO3.out.trans HO4.out).alloc _) HG5.out hwn HA5.out HPW.out ⟨Nat.le_trans HO3.out.size l1, Nat.lt_of_lt_of_le l2 (size_alloc_le _ _)⟩ (hrr.alloc _), (HOR.out.trans ((HO3.out.trans HO4.out).alloc _)).grown HG5.out (fun k hk => ?_)⟩
        · rw [List.map_append, HELS.out, take_snoc HPJ.out, List.map_append]
          rfl
        · left
          exact (HVR.out.own.lt k hk).1
    · have hje : j = ps.length := by omega
      subst hje
      go_wp2_with fail
      go_ret
      refine ⟨_, els, rfl, ?_, ⟨own_base HVR.out.own HO.out.size, fun x hx => ⟨(HVR.out.nodes x hx).1, ⟨Nat.le_trans HO.out.size (HVR.out.nodes x hx).2.1.1, (HVR.out.nodes x hx).2.1.2⟩, (HVR.out.nodes x hx).2.2⟩⟩, HO.out.trans HOR.out⟩
      rw [HELS.out, List.take_length]
end Go.Proofs.YteeefedoffplmaaGreat
