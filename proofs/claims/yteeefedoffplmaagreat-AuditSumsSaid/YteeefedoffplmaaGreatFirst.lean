/- A chain's First. Conditions: pool and chain lie in memory; first of the plain chain answers. -/
import Derived.Test.YteeefedoffplmaaGreatSets
namespace Go.Proofs.YteeefedoffplmaaGreat
open Go.RowKit

theorem idxW_pack {i t : Int} (hi : 0 ≤ i) (hi' : i ≤ 1048575) (ht : 0 ≤ t) (ht' : t ≤ 1099511627775) : idxW (packW i t) = i ∧ tagW (packW i t) = t := by
  have hb : isWordB (packW i t) = true := by
    rw [isWordB_iff]
    unfold packW T40
    omega
  unfold idxW tagW
  rw [if_pos hb, if_pos hb]
  unfold packW T40
  omega
/-- what Take leaves of its slot. -/
theorem take_at {S S' : PoolS} {x : NodeS} {link h : Int} (ht : S.take x link = some (h, S')) {s : SlotS} (hs : S'.at h = some s) : s.mark = 0 ∧ s.link = link ∧ s.node = x := by
  obtain ⟨n, m, s0, hn, h1, h2, h3, hnx, hs0, hg0, hg, hw, rfl, rfl⟩ := take_spec ht
  obtain ⟨k, hk, hk1, hks, _⟩ := at_spec hs
  rw [(idxW_pack (by omega) (by omega) (by omega) (by omega)).1] at hk
  obtain rfl : n = k := by omega
  rw [PoolS.with_get ({ S with head := packW m ((tagW S.head + 1) % T40) } : PoolS) hs0] at hks
  injection hks with hks
  subst hks
  exact ⟨rfl, rfl, rfl⟩
theorem cell_only {X : List Nat} {w w' : World} (ho : Only X w w') {b i : Nat} {v : Value} (h : w.cell? ⟨b, i, none⟩ = some v) (hb : b ∉ X) : w'.cell? ⟨b, i, none⟩ = some v := by
  have := ho.block b (block_lt_of_cell h) hb
  simp only [World.cell?] at h ⊢
  rw [this]
  exact h
structure Far (X : ChainL) (L : PoolL) (base : Nat) : Prop where
  xb : X.xb ∉ L.all
  sb : X.sb ∉ L.all
  lt : ∀ k ∈ L.all, k < base
theorem blocks_all {L : PoolL} {k : Nat} (h : k ∈ L.blocks) : k ∈ L.all := by
  simp only [PoolL.blocks, PoolL.all, List.mem_cons, List.not_mem_nil, or_false] at h ⊢
  exact .inr h
def chX (X : ChainL) (L : PoolL) : List Nat := X.xb :: X.sb :: L.blocks
/-- what First and its like leave. -/
def Chained (X : ChainL) (L : PoolL) (cb base : Nat) (D : List Nat) (C' : ChainS) (S' : PoolS) (w : World) (r : Value) (e : Ending) (w' : World) : Prop :=
  e = .returned r ∧ PoolAt w' L S' ∧ ChainAt w' X L.pb cb base D C' ∧ Only (chX X L) w w'
theorem ChainAt.pool {w w' : World} {X : ChainL} {L : PoolL} {pb cb base : Nat} {D : List Nat} {C : ChainS} (h : ChainAt w X pb cb base D C) (hf : Far X L base) (ho : Only L.blocks w w') : ChainAt w' X pb cb base D C :=
  h.only ho (fun e => hf.xb (blocks_all e)) (fun e => hf.sb (blocks_all e)) (fun k hk e => by have := hf.lt k (blocks_all e); have := (h.dlt k hk).1; omega)
set_option maxRecDepth 100000 in
set_option maxHeartbeats 1600000 in
theorem first_any (w : World) (X : ChainL) (L : PoolL) (S : PoolS) (cb base : Nat) (D : List Nat) (C : ChainS) (hp : PoolAt w L S) (hc : ChainAt w X L.pb cb base D C) (hf : Far X L base) (x : NodeS) (hx : x.Ok) (h : Int) (C' : ChainS) (S' : PoolS) (hS : C.first S x = some (h, C', S')) :
    Calls Tryz.prog 245 #[ptr X.xb, .pointer none, x.val] w (Chained X L cb base D C' S' w (I2 h)) := by
  simp only [ChainS.first, Option.bind_eq_bind, Option.bind_eq_some_iff] at hS
  obtain ⟨⟨h', S1⟩, ht, S2, hm, hS⟩ := hS
  simp only at hm hS
  split at hS
  case isFalse => cases hS
  case isTrue hcond =>
  obtain ⟨hh0, hil⟩ := hcond
  simp only [Option.some.injEq, Prod.mk.injEq] at hS
  obtain ⟨rfl, rfl, rfl⟩ := hS
  obtain ⟨i, hi⟩ : ∃ i : Nat, idxW h' = i := ⟨(idxW h').toNat, by have := (idxW_bound h').1; omega⟩
  have hin : i < C.sets.length := by omega
  have hi2 : (idxW h').toNat = i := by omega
  rw [hi2]
  obtain ⟨s1, hs1⟩ : ∃ s1, S1.at h' = some s1 := by
    unfold PoolS.setMark at hm
    cases ha : S1.at h' with
    | none => simp [ha] at hm
    | some s => exact ⟨s, rfl⟩
  have hmark := (take_at ht hs1).1
  have hpa := (hp.alloc (.cells #[.int .i64 x.a, .int .i64 x.b, .int .i64 x.c, .int .i64 x.d] 218)).drew
  have htake := take_any _ L S hpa x hx 0 ⟨by omega, by omega⟩ h' S1 ht
  obtain ⟨rows, er, b1, _, _⟩ := hc.ex
  have c0 : (w.alloc (.cells #[.int .i64 x.a, .int .i64 x.b, .int .i64 x.c, .int .i64 x.d] 218)).cell? ⟨X.xb, 0, none⟩ = some (ptr L.pb) := (b1.alloc _).cell rfl
  have HC := Lib.hid hc; have HF := Lib.hid hf; have HT := Lib.hid htake; have HM := Lib.hid hm; have HS1 := Lib.hid hs1; have HMK := Lib.hid hmark; have HIN := Lib.hid hin; have HH0 := Lib.hid hh0; have HIX := Lib.hid fun W => calls_rev (index_is hi W)
  unfold NodeS.val at HT ⊢
  unfold I2 at HT ⊢
  unfold ptr at HT c0 ⊢
  clear hp hc hf hpa htake ht hm hs1 hmark hin hh0 hi hi2 hil b1 er hx
  obtain ⟨xa, xb', xc, xd⟩ := x
  go_enter Tryz.func245, Tryz.ntmps245
  go_wp2_with fail
  have hxb : X.xb ∉ L.blocks := fun e => HF.out.xb (blocks_all e)
  have hbx : w.heap.size ∉ L.blocks := fun e => by have := HF.out.lt _ (blocks_all e); have := HC.out.room; omega
  have HXB := Lib.hid hxb; have HBX := Lib.hid hbx
  clear hxb hbx
  go_region_held3 (fun W => W.cell? ⟨X.xb, 0, none⟩ = some (.pointer (some ⟨L.pb, 0, none⟩)) ∧ W.cell? ⟨w.heap.size, 0, none⟩ = some (.int .i64 xa) ∧ W.cell? ⟨w.heap.size, 1, none⟩ = some (.int .i64 xb') ∧ W.cell? ⟨w.heap.size, 2, none⟩ = some (.int .i64 xc) ∧ W.cell? ⟨w.heap.size, 3, none⟩ = some (.int .i64 xd))
    (first | exact ⟨cell_only ho2 c0 HXB.out, cell_only ho2 (cell_new w #[.int .i64 xa, .int .i64 xb', .int .i64 xc, .int .i64 xd] 218 0 _ rfl) HBX.out, cell_only ho2 (cell_new w #[.int .i64 xa, .int .i64 xb', .int .i64 xc, .int .i64 xd] 218 1 _ rfl) HBX.out, cell_only ho2 (cell_new w #[.int .i64 xa, .int .i64 xb', .int .i64 xc, .int .i64 xd] 218 2 _ rfl) HBX.out, cell_only ho2 (cell_new w #[.int .i64 xa, .int .i64 xb', .int .i64 xc, .int .i64 xd] 218 3 _ rfl) HBX.out⟩ | (go_keep; done))
    (first | (go_simp; go_at_call 214; refine HT.out.mono ?_; rintro e w2 ⟨rfl, hp2, ho2⟩; have HP2 := Lib.hid hp2; have ho2' : Only L.blocks w w2 := ((Only.refl _ _).alloc _).trans ⟨ho2.os, ho2.tape, ho2.output, ho2.size, ho2.block⟩; have HO2 := Lib.hid ho2'; have HC2 := Lib.hid (HC.out.pool HF.out ho2')))
  go_wp2_with fail
  obtain ⟨rows2, er2, d1, d2, _⟩ := HC2.out.ex
  have hlen2 : rows2.length = C.sets.length := by rw [er2]; simp
  have c3 : w2.cell? ⟨X.xb, 3, none⟩ = some (sliceOf X.sb C.sets.length) := by rw [← hlen2]; exact d1.cell rfl
  have hin := HIN.out
  obtain ⟨r2, hr2⟩ : ∃ r2, rows2[i]? = some r2 := ⟨_, List.getElem?_eq_getElem (by omega)⟩
  have e0 : w2.cell? ⟨X.sb, i * 2, none⟩ = some (.int .i64 r2.1) := d2.cell (i := i * 2 + 0) ((flatMap_get srowCells 2 (fun _ => rfl) rows2 i r2 hr2 0 (by omega)).trans rfl)
  have e1 : w2.cell? ⟨X.sb, i * 2 + 1, none⟩ = some r2.2.2 := d2.cell (i := i * 2 + 1) ((flatMap_get srowCells 2 (fun _ => rfl) rows2 i r2 hr2 1 (by omega)).trans rfl)
  have f0 := d2.frozen (i * 2)
  have f1 := d2.frozen (i * 2 + 1)
  have e1' : (w2.setCell ⟨X.sb, i * 2, none⟩ (.int .i64 h')).cell? ⟨X.sb, i * 2 + 1, none⟩ = some r2.2.2 := (World.cell?_setCell_other w2 ⟨X.sb, i * 2, none⟩ ⟨X.sb, i * 2 + 1, none⟩ (.int .i64 h') (by simp)).trans e1
  have hc3 := HC2.out.setSet hin h' [] (.slice none 0 0) (World.ownsRow_nil _ _ _ _) (by simp) (by simp [Value.ownBlock])
  have ho3 : Only [X.sb] w2 ((w2.setCell ⟨X.sb, i * 2, none⟩ (.int .i64 h')).setCell ⟨X.sb, i * 2 + 1, none⟩ (.slice none 0 0)) := ((Only.refl _ _).setCell (.inl (by simp)) _).setCell (.inl (by simp)) _
  have hp3 := HP2.out.only ho3 (fun k hk => by simp; exact fun e => HF.out.sb (e ▸ hk))
  have hcas := casMark_any _ L S1 hp3.drew h' s1 HS1.out 1 ⟨by omega, by omega⟩ S2 HM.out
  rw [HMK.out] at hcas
  have HC3 := Lib.hid hc3; have HO3 := Lib.hid ho3; have HCAS := Lib.hid hcas
  unfold sliceOf at c3
  unfold ptr B2 at HCAS
  have c0' : ((w2.setCell ⟨X.sb, i * 2, none⟩ (.int .i64 h')).setCell ⟨X.sb, i * 2 + 1, none⟩ (.slice none 0 0)).cell? ⟨X.xb, 0, none⟩ = some (ptr L.pb) := by
    obtain ⟨rows3, _, g1, _, _⟩ := hc3.ex
    exact g1.cell rfl
  unfold ptr at c0'
  clear d1 d2 hlen2 er2 hr2 hc3 ho3 hp3 hcas
  generalize C.sets.length = len at *
  refine wp_region_still_tail 9 (by kernel_rfl) (by kernel_rfl) ?_
  simp only [List.take_succ_cons, List.take_zero, List.drop_succ_cons, List.drop_zero]
  change wpStill _ _ (World.drew _) (fun a' => wpList _ _ _ _ a' (World.drew _)) _ _
  iterate 5 still_step
  still_call (HIX.out _)
  iterate 3 still_step
  refine wpStill_nil ?_
  go_wp2_with (first | (go_at_call 236; refine HCAS.out.mono ?_; rintro e w4 ⟨rfl, hp4, ho4⟩; have HP4 := Lib.hid hp4; have ho4' : Only L.blocks ((w2.setCell ⟨X.sb, i * 2, none⟩ (.int .i64 h')).setCell ⟨X.sb, i * 2 + 1, none⟩ (.slice none 0 0)) w4 := ⟨ho4.os, ho4.tape, ho4.output, ho4.size, ho4.block⟩; have hc4 := HC3.out.pool HF.out ho4'; have HC4 := Lib.hid hc4; have HO4 := Lib.hid ho4'; have hlay := lays2_any w4 X L.pb cb base _ _ hc4 h'; change Calls Tryz.prog 215 #[_, _, .int .i64 C.head, _] _ _ at hlay; rw [HH0.out] at hlay; unfold ptr at hlay; clear hp4 ho4 ho4' hc4) | (go_at_call 215; refine hlay.mono ?_; rintro e w5 ⟨rfl, hc5, ho5⟩; have HC5 := Lib.hid hc5; have HO5 := Lib.hid ho5; clear hc5 ho5 hlay))
  go_ret2
  refine ⟨rfl, HP4.out.only HO5.out (fun k hk => by simp; exact fun e => HF.out.xb (e ▸ hk)), HC5.out, ?_⟩
  exact (((HO2.out.mono (fun k hk => by simp [chX, hk])).trans (HO3.out.mono (fun k hk => by simp [chX] at hk ⊢; simp [hk]))).trans (HO4.out.mono (fun k hk => by simp [chX, hk]))).trans (HO5.out.mono (fun k hk => by simp [chX] at hk ⊢; simp [hk]))
end Go.Proofs.YteeefedoffplmaaGreat
