/- The epoch's Collect, for worker 0: the walk. Conditions: as in Collect. -/
import Derived.Test.YteeefedoffplmaaGreatCollect
namespace Go.Proofs.YteeefedoffplmaaGreat
open Go.RowKit

def coX (eb : Nat) (ed : Option Nat) (L : PoolL) : List Nat := eb :: (ed.toList ++ L.blocks)
structure CoInv (eb pb base : Nat) (ed : Option Nat) (L : PoolL) (now : Int) (w : World) (n : Int) (E : EpochS) (S : PoolS) (wr : World) : Prop where
  e : EpochAt wr eb pb base ed E
  p : PoolAt wr L S
  o : Only (coX eb ed L) w wr
  c : Blk wr w.heap.size [.int .i64 now] 3
  now : E.now = now
  n0 : 0 ≤ n
  most : n + E.list.length ≤ 100000
def CoRel (eb pb base : Nat) (ed : Option Nat) (L : PoolL) (now : Int) (r : Int × EpochS × PoolS) (w : World) (k : Nat) (nV : Value) (wr : World) : Prop :=
  ∃ f n E S, k = f ∧ nV = .int .i64 n ∧ collectFrom f n (E, S) = some r ∧ CoInv eb pb base ed L now w n E S wr
def Collected (eb pb base : Nat) (ed : Option Nat) (L : PoolL) (r : Int × EpochS × PoolS) (w : World) (e : Ending) (w' : World) : Prop :=
  e = .returned (I2 r.1) ∧ EpochAt w' eb pb base ed r.2.1 ∧ PoolAt w' L r.2.2 ∧ Only (coX eb ed L) w w'
theorem collectFrom_zero (n : Int) (x : EpochS × PoolS) : collectFrom 0 n x = none := rfl
theorem collectFrom_none {k : Nat} {n : Int} {E : EpochS} {S : PoolS} (h : E.list.findIdx? (ripeB E.now) = none) : collectFrom (k + 1) n (E, S) = some (n, E, S) := by
  unfold collectFrom
  have : (fun x : Int × Int => decide (x.2 + 2 ≤ E.now)) = ripeB E.now := rfl
  rw [this, h]
theorem collectFrom_some {k : Nat} {n : Int} {E : EpochS} {S : PoolS} {i : Nat} {r : Int × EpochS × PoolS} (h : E.list.findIdx? (ripeB E.now) = some i) (hr : collectFrom (k + 1) n (E, S) = some r) :
    ∃ x S', E.list[i]? = some x ∧ S.give x.1 = some S' ∧ collectFrom k (n + 1) ({ E with list := E.list.eraseIdx i }, S') = some r := by
  unfold collectFrom at hr
  have : (fun x : Int × Int => decide (x.2 + 2 ≤ E.now)) = ripeB E.now := rfl
  rw [this, h] at hr
  simp only [Option.bind_eq_bind, Option.bind_eq_some_iff] at hr
  obtain ⟨x, hx, S', hS, hr⟩ := hr
  exact ⟨x, S', hx, hS, hr⟩
theorem waitCells_erase (l : List (Int × Int)) (i : Nat) : (waitCells l).take (i * 2) ++ (waitCells l).drop ((i + 1) * 2) = waitCells (l.eraseIdx i) := by
  induction l generalizing i with
  | nil => simp [waitCells]
  | cons x l ih =>
    cases i with
    | zero => simp [waitCells]
    | succ i =>
      have h1 : (i + 1) * 2 = i * 2 + 2 := by omega
      have h2 : (i + 1 + 1) * 2 = (i + 1) * 2 + 2 := by omega
      have := ih i
      rw [h1] at this
      rw [h2, h1]
      simp only [waitCells, List.flatMap_cons, List.eraseIdx_cons_succ, List.cons_append, List.nil_append, List.take_succ_cons, List.drop_succ_cons] at this ⊢
      rw [this]
theorem waitCells_one (l : List (Int × Int)) : ∀ u ∈ waitCells l, u.oneCell' = true := by
  intro u hu
  obtain ⟨x, _, hx⟩ := List.mem_flatMap.1 hu
  simp at hx
  rcases hx with rfl | rfl <;> rfl
theorem CoInv.step {eb pb base : Nat} {ed : Option Nat} {L : PoolL} {now : Int} {w wr w1 wG w2 : World} {n : Int} {E : EpochS} {S S' : PoolS} (h : CoInv eb pb base ed L now w n E S wr) (hlt : ∀ k ∈ L.all, k < base) (hne : eb ∉ L.all) (hed : ∀ k, ed = some k → base ≤ k ∧ k < w.heap.size) (hroom : base ≤ w.heap.size)
    {lv v2 : Value} (hlv : lv.ownBlock = ed) (hb : Blk wr eb (epochCells pb E lv) 185) (ho1 : Only [] wr w1) (hpG : PoolAt wG L S') (hoG : Only L.blocks w1 wG) {i : Nat} (hi : i < E.list.length)
    (hown2 : w2.ownsRow base 229 2 v2 (E.list.length - 1) (waitCells (E.list.eraseIdx i))) (hv2 : v2.ownBlock = lv.ownBlock) (hg2 : wG.grownBy w2 lv.ownBlock) :
    CoInv eb pb base ed L now w (n + 1) { E with list := E.list.eraseIdx i } S' (w2.setCell ⟨eb, 12, none⟩ v2) := by
  have hebL : eb ∉ L.blocks := fun e => hne (by simp [PoolL.all]; simp [PoolL.blocks] at e; simp [e])
  have hx : ∀ k ∈ coX eb ed L, k < w.heap.size := by
    intro k hk
    simp only [coX, List.mem_cons, List.mem_append, Option.mem_toList] at hk
    rcases hk with rfl | hk | hk
    · have := h.e.lt; omega
    · exact (hed k hk).2
    · have := hlt k (by simp [PoolL.blocks] at hk; simp [PoolL.all]; exact .inr hk)
      omega
  have hoall : Only (coX eb ed L) wr (w2.setCell ⟨eb, 12, none⟩ v2) := by
    have h1 : Only (coX eb ed L) wr wG := (ho1.mono (fun k hk => by simp at hk)).trans (hoG.mono (fun k hk => by simp [coX, hk]))
    have h2 := h1.grown hg2 (fun k hk => .inr (by rw [hlv] at hk; simp [coX, hk]))
    exact h2.setCell (p := ⟨eb, 12, none⟩) (.inl (by simp [coX])) v2
  have hwe : ∀ k, lv.ownBlock = some k → base ≤ k := fun k hk => (hed k (hlv ▸ hk)).1
  have hb2 : Blk w2 eb (epochCells pb E lv) 185 := blk_grown ((hb.only ho1 (by simp)).only hoG hebL) hg2 (fun e => by have := hwe _ e; have := h.e.lt; omega)
  have hlen : (E.list.eraseIdx i).length = E.list.length - 1 := by rw [List.length_eraseIdx]; simp [hi]
  refine ⟨⟨⟨v2, hb2.set 12 v2, ?_, hv2.trans hlv⟩, h.e.lt, Nat.le_trans h.e.room hoall.size, h.e.workers, h.e.now, h.e.at0, h.e.deep, fun x hx => h.e.ok x (List.mem_of_mem_eraseIdx hx)⟩, ?_, h.o.trans ?_, ?_, h.now, ?_, ?_⟩
  · show World.ownsRow _ _ _ _ _ (E.list.eraseIdx i).length (waitCells (E.list.eraseIdx i))
    rw [hlen]
    refine own_only hown2 ((Only.refl [eb] _).setCell (p := ⟨eb, 12, none⟩) (.inl (by simp)) v2) (fun k hk => ?_)
    have := (hown2.lt k hk).1
    have := h.e.lt
    simp
    omega
  · have hp2 : PoolAt w2 L S' := hpG.only (X := lv.ownBlock.toList) ((Only.refl _ _).grown hg2 (fun k hk => .inr (by simp [hk]))) (fun k hk hm => by
      have := hlt k hk
      have := hwe k (by simpa using hm)
      omega)
    exact hp2.only (X := [eb]) ((Only.refl _ _).setCell (p := ⟨eb, 12, none⟩) (.inl (by simp)) v2) (fun k hk hm => by
      simp at hm
      subst hm
      exact hne hk)
  · exact ⟨hoall.os, hoall.tape, hoall.output, hoall.size, hoall.block⟩
  · exact h.c.only hoall (fun e => by have := hx _ e; omega)
  · have := h.n0; omega
  · show n + 1 + ((E.list.eraseIdx i).length : Int) ≤ 100000
    rw [hlen]
    have := h.most
    omega
set_option maxRecDepth 100000 in
set_option maxHeartbeats 1600000 in
theorem collect_any (w : World) (eb pb base : Nat) (ed : Option Nat) (L : PoolL) (E : EpochS) (S : PoolS) (he : EpochAt w eb pb base ed E) (hp : PoolAt w L S) (hpb : L.pb = pb) (hlt : ∀ k ∈ L.all, k < base) (hne : eb ∉ L.all) (r : Int × EpochS × PoolS) (hr : collect E S = some r) (hmost : E.list.length ≤ 100000) :
    Calls Tryz.prog 74 #[ptr eb, .pointer none] w (Collected eb pb base ed L r w) := by
  subst hpb
  have hmine := mine_any w eb L.pb base ed E he
  have hl : Calls Tryz.prog 51 #[.pointer (some ⟨eb, 2, none⟩)] w fun e w' => e = .returned (.int .i64 E.now) ∧ w = w' := by
    obtain ⟨lv, hb, _⟩ := he.ex
    exact atomLoad eb 2 E.now w (hb.cell rfl)
  have hstart : CoRel eb L.pb base ed L E.now r w (E.list.length + 1) (.int .i64 0) (w.alloc (.cells #[.int .i64 E.now] 3)) :=
    ⟨_, 0, E, S, rfl, rfl, hr, ⟨he.only (X := []) ((Only.refl _ _).alloc _) (by simp) (by simp), hp.alloc _, (Only.refl _ _).alloc _, Blk.new w [.int .i64 E.now] 3, rfl, by omega, by omega⟩⟩
  have HST := Lib.hid hstart
  have hroom : base ≤ w.heap.size := he.room
  have heb : eb < base := he.lt
  have HLT := Lib.hid hlt; have HNE := Lib.hid hne
  have hed : ∀ k, ed = some k → base ≤ k := ed_ge he
  have hedl : ∀ k, ed = some k → k < w.heap.size := by
    obtain ⟨lv, hb, hown, hee⟩ := he.ex
    intro k hk
    exact (hown.lt k (hee.trans hk)).2
  have HED := Lib.hid hed; have HEDL := Lib.hid hedl
  unfold ptr at hmine ⊢
  generalize hfu : E.list.length + 1 = fuel at HST
  clear hp hr hmost hstart hne hlt hed hedl hfu he
  generalize E.now = now at *
  go_enter Tryz.func74, Tryz.ntmps74
  go_wp2_with (first | (go_at_call 132; refine hmine.mono ?_; rintro e w' ⟨rfl, rfl⟩) | (go_at_call 71; refine (step_nil _).mono ?_; rintro e w' ⟨rfl, rfl⟩) | (go_at_call 51; refine hl.mono ?_; rintro e w' ⟨rfl, rfl⟩))
  go_loopg [8] fuel (fun k nV wr => CoRel eb L.pb base ed L now r w k nV wr)
  case atStart => exact HST.out
  case round =>
    obtain ⟨k, n, E', S', rfl, rfl, hco, hinv⟩ := hrel
    have hn0 := hinv.n0
    have hmost := hinv.most
    cases gk with
    | zero => rw [collectFrom_zero] at hco; cases hco
    | succ k =>
      obtain ⟨lv, hb, hown, hee⟩ := hinv.e.ex
      obtain ⟨A, cap, hlv, hrow, hnil⟩ := row_of_own hown
      have hnow := hinv.now
      have c12 : wr.cell? ⟨eb, 12, none⟩ = some lv := hb.cell rfl
      rw [hlv] at c12
      have hix := indexWait wr E'.list A cap w.heap.size now hrow (by omega) (hinv.c.cell rfl) hinv.e.ok
      have HINV := Lib.hid hinv; have HB := Lib.hid hb; have HOWN := Lib.hid hown; have HEE := Lib.hid hee; have HLV := Lib.hid hlv; have HROW := Lib.hid hrow
      cases hf : E'.list.findIdx? (ripeB now) with
      | none =>
        have hres := collectFrom_none (k := k) (n := n) (S := S') (by rw [hnow]; exact hf)
        rw [hco] at hres
        have hres := Option.some.inj hres
        rw [hf] at hix
        have HRES := Lib.hid hres
        unfold ptr at hix
        unfold idxI at hix
        clear hres hinv hb hown hee hlv hrow hnil hnow hco hf
        go_wp2_with (go_at_call 136; refine hix.mono ?_; rintro e w1 ⟨rfl, ho⟩; have HO := Lib.hid ho; clear ho)
        go_ret2
        exact ⟨by rw [HRES.out]; rfl, by rw [HRES.out]; exact HINV.out.e.only HO.out (by simp) (by simp), by rw [HRES.out]; exact HINV.out.p.only HO.out (by simp), HINV.out.o.trans (HO.out.mono (by simp))⟩
      | some i =>
        obtain ⟨x, S2, hx, hS, hco2⟩ := collectFrom_some (by rw [hnow]; exact hf) hco
        obtain ⟨hil, hxe⟩ := List.getElem?_eq_some_iff.1 hx
        rw [hf] at hix
        have hg : (waitCells E'.list)[i * 2 + 0]? = some (.int .i64 x.1) := flatMap_get _ 2 (fun _ => rfl) E'.list i x hx 0 (by omega)
        obtain ⟨b, off, hA, h1⟩ := hrow (i * 2 + 0) _ hg
        subst hA
        rw [Nat.add_zero] at h1
        have c0 : wr.cell? ⟨eb, 0, none⟩ = some (ptr L.pb) := hb.cell rfl
        have hil' : (i : Int) < E'.list.length := by omega
        have HCO := Lib.hid hco2; have HIL := Lib.hid hil; have HS := Lib.hid hS
        unfold ptr at hix c0
        unfold idxI at hix
        have HIX := Lib.hid hix
        clear hinv hb hown hee hlv hrow hnil hnow hco hf hco2 hx hxe hil hix hS hg
        generalize x.1 = xh at *
        generalize hll : E'.list.length = len at *
        have HLL := Lib.hid hll
        clear hll
        go_wp2_with (go_at_call 136; refine HIX.out.mono ?_; rintro e w1 ⟨rfl, ho⟩; have HO1 := Lib.hid ho; have c0 := cell_below ho.below c0; have c12 := cell_below ho.below c12; have h1 := cell_below ho.below h1; clear ho)
        refine wp_region_still_tail 13 (by kernel_rfl) (by kernel_rfl) ?_
        simp only [List.take_succ_cons, List.take_zero, List.drop_succ_cons, List.drop_zero]
        change wpStill _ _ (World.drew _) (fun a' => wpList _ _ _ _ a' (World.drew _)) _ _
        iterate 13 still_step
        refine wpStill_nil ?_
        have hebL : eb ∉ L.blocks := fun e => HNE.out (by simp [PoolL.all]; simp [PoolL.blocks] at e; simp [e])
        have HEBL := Lib.hid hebL
        have hgv := give_any w1.drew L S' ((HINV.out.p.only HO1.out (by simp)).drew) xh S2 HS.out
        have hown0 := HOWN.out
        rw [HLV.out] at hown0
        have HOWN0 := Lib.hid hown0
        unfold ptr at hgv
        clear hebL hown0
        go_wp2_with (first | (go_at_call 138; refine hgv.mono ?_; rintro e wG ⟨rfl, hpG, hoG⟩; have hbG := (HB.out.only HO1.out (by simp)).drew.only hoG HEBL.out; have c12 := hbG.cell (i := 12) rfl; rw [HLV.out] at c12; have hoG1 : Only L.blocks w1 wG := ⟨hoG.os, hoG.tape, hoG.output, hoG.size, hoG.block⟩; have HPG := Lib.hid hpG; have HOG := Lib.hid hoG1; have HBG := Lib.hid hbG; clear hpG hoG hoG1 hbG hgv) | (go_at_call 139; refine (deleteWait _ base _ len (waitCells E'.list) (own_only (own_only HOWN0.out HO1.out (by simp)) HOG.out (fun k hk hm => by have h1 := HED.out k (by rw [← HEE.out, HLV.out]; exact hk); have h2 := HLT.out k (by simp [PoolL.blocks] at hm; simp [PoolL.all]; exact .inr hm); omega)) (waitCells_one _) i HIL.out (by omega)).mono ?_; rintro e w2 ⟨v2, rfl, hown2, hv2, hg2⟩; obtain ⟨A2, cc2, rfl, _, _⟩ := row_of_own hown2; have hb2 := blk_grown HBG.out hg2 (fun e => by have h1 := HED.out eb (by rw [← HEE.out, HLV.out]; exact e); omega); have d12 := hb2.cell (i := 12) rfl; have f12 := hb2.frozen 12; have HW2 := Lib.hid hown2; have HV2 := Lib.hid hv2; have HG2 := Lib.hid hg2; clear hown2 hv2 hg2 hb2))
        go_roundg k
        case measure => omega
        case rel => exact ⟨k, n + 1, _, S2, rfl, by go_num, HCO.out, CoInv.step HINV.out HLT.out HNE.out (fun k hk => ⟨HED.out k hk, HEDL.out k hk⟩) hroom HEE.out HB.out HO1.out HPG.out HOG.out (by rw [HLL.out]; exact HIL.out) (by rw [HLL.out, ← waitCells_erase]; exact HW2.out) (by rw [HV2.out, HLV.out]) (by rw [HLV.out]; exact HG2.out)⟩
end Go.Proofs.YteeefedoffplmaaGreat
