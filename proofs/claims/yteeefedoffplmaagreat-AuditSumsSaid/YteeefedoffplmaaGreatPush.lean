/- A chain's Push onto its newest version. Conditions: pool, clock and chain lie in memory; push of the plain chain answers. -/
import Derived.Test.YteeefedoffplmaaGreatFirst
namespace Go.Proofs.YteeefedoffplmaaGreat
open Go.RowKit

/-- what Push leaves: one row more of the chain's own. -/
def Pushed (X : ChainL) (L : PoolL) (cb base : Nat) (D : List Nat) (C' : ChainS) (S' : PoolS) (w : World) (r : Value) (e : Ending) (w' : World) : Prop :=
  ∃ D', e = .returned r ∧ PoolAt w' L S' ∧ ChainAt w' X L.pb cb base D' C' ∧ Only (chX X L) w w' ∧ ∀ k ∈ D', k ∈ D ∨ w.heap.size ≤ k
def IBI (a : Int) (b : Bool) (c : Int) : Value := .tuple #[.int .i64 a, .bool b, .int .i64 c]
set_option maxRecDepth 100000 in
set_option maxHeartbeats 1600000 in
theorem push_chain (w : World) (X : ChainL) (L : PoolL) (S : PoolS) (K : ClockL) (CK : ClockS) (base : Nat) (D : List Nat) (C : ChainS) (hp : PoolAt w L S) (hk : ClockAt w K CK) (hc : ChainAt w X L.pb K.cb base D C) (hf : Far X L base)
    (hkf : K.cb ∉ chX X L ∧ K.lb ∉ chX X L) (old : Int) (hold : In64 old) (x : NodeS) (hx : x.Ok) (l : List Int) (A : Option Addr) (c : Nat) (hr : Row w A (ints l)) (hl : l.length ≤ 100000) (hA : A = none → l.length = 0) (hAX : ∀ b off, A = some ⟨b, off, none⟩ → b ∉ L.blocks)
    (h : Int) (C' : ChainS) (S' : PoolS) (hS : C.push CK.now S old x l = some (h, C', S')) :
    Calls Tryz.prog 180 #[ptr X.xb, .pointer none, .int .i64 old, x.val, .slice A l.length c] w (Pushed X L K.cb base D C' S' w (IBI h true 0)) := by
  simp only [ChainS.push, Option.bind_eq_bind, Option.bind_eq_some_iff] at hS
  obtain ⟨⟨h', S1⟩, ht, hS⟩ := hS
  simp only at hS
  split at hS
  case isFalse => cases hS
  case isTrue hcond =>
  obtain ⟨hh0, hil⟩ := hcond
  simp only [Option.bind_eq_some_iff] at hS
  obtain ⟨⟨v, S2⟩, hse, hS⟩ := hS
  simp only [Option.some.injEq, Prod.mk.injEq] at hS
  obtain ⟨rfl, rfl, rfl⟩ := hS
  obtain ⟨i, hi⟩ : ∃ i : Nat, idxW h' = i := ⟨(idxW h').toNat, by have := (idxW_bound h').1; omega⟩
  have hin : i < C.sets.length := by omega
  have hi2 : (idxW h').toNat = i := by omega
  rw [hi2]
  have hpa := (hp.alloc (.cells #[.int .i64 x.a, .int .i64 x.b, .int .i64 x.c, .int .i64 x.d] 218)).drew
  have htake := take_any _ L S hpa x hx old hold h' S1 ht
  obtain ⟨rows, er, b1, _, _⟩ := hc.ex
  have c0 : (w.alloc (.cells #[.int .i64 x.a, .int .i64 x.b, .int .i64 x.c, .int .i64 x.d] 218)).cell? ⟨X.xb, 0, none⟩ = some (ptr L.pb) := (b1.alloc _).cell rfl
  have HC := Lib.hid hc; have HF := Lib.hid hf; have HT := Lib.hid htake; have HSE := Lib.hid hse; have HIN := Lib.hid hin; have HH0 := Lib.hid hh0; have HIX := Lib.hid fun W => index_is hi W
  have HK := Lib.hid hk; have HKF := Lib.hid hkf; have HR := Lib.hid hr; have HA := Lib.hid hA; have HAX := Lib.hid hAX; have HL := Lib.hid hl
  unfold NodeS.val at HT ⊢
  unfold I2 at HT
  unfold IBI
  unfold ptr at HT c0 ⊢
  clear hp hc hf hpa htake ht hse hin hh0 hi hi2 hil b1 er hx hk hkf hr hA hAX hold hl
  generalize hll : l.length = ln at *
  have HLL := Lib.hid hll
  clear hll
  obtain ⟨xa, xb', xc, xd⟩ := x
  go_enter Tryz.func180, Tryz.ntmps180
  go_wp2_with fail
  have hxb : X.xb ∉ L.blocks := fun e => HF.out.xb (blocks_all e)
  have hbx : w.heap.size ∉ L.blocks := fun e => by have := HF.out.lt _ (blocks_all e); have := HC.out.room; omega
  have HXB := Lib.hid hxb; have HBX := Lib.hid hbx
  clear hxb hbx
  go_region_held3 (fun W => W.cell? ⟨X.xb, 0, none⟩ = some (.pointer (some ⟨L.pb, 0, none⟩)) ∧ W.cell? ⟨w.heap.size, 0, none⟩ = some (.int .i64 xa) ∧ W.cell? ⟨w.heap.size, 1, none⟩ = some (.int .i64 xb') ∧ W.cell? ⟨w.heap.size, 2, none⟩ = some (.int .i64 xc) ∧ W.cell? ⟨w.heap.size, 3, none⟩ = some (.int .i64 xd))
    (first | exact ⟨cell_only ho2 c0 HXB.out, cell_only ho2 (cell_new w #[.int .i64 xa, .int .i64 xb', .int .i64 xc, .int .i64 xd] 218 0 _ rfl) HBX.out, cell_only ho2 (cell_new w #[.int .i64 xa, .int .i64 xb', .int .i64 xc, .int .i64 xd] 218 1 _ rfl) HBX.out, cell_only ho2 (cell_new w #[.int .i64 xa, .int .i64 xb', .int .i64 xc, .int .i64 xd] 218 2 _ rfl) HBX.out, cell_only ho2 (cell_new w #[.int .i64 xa, .int .i64 xb', .int .i64 xc, .int .i64 xd] 218 3 _ rfl) HBX.out⟩ | (go_keep; done))
    (first | (go_simp; go_at_call 214; refine HT.out.mono ?_; rintro e w2 ⟨rfl, hp2, ho2⟩; have HP2 := Lib.hid hp2; have ho2' : Only L.blocks w w2 := ((Only.refl _ _).alloc _).trans ⟨ho2.os, ho2.tape, ho2.output, ho2.size, ho2.block⟩; have HO2 := Lib.hid ho2'; have HC2 := Lib.hid (HC.out.pool HF.out ho2')))
  go_wp2_with fail
  obtain ⟨rows2, er2, d1, d2, _⟩ := HC2.out.ex
  have hlen2 : rows2.length = C.sets.length := by rw [er2]; simp
  have c3 : w2.cell? ⟨X.xb, 3, none⟩ = some (sliceOf X.sb C.sets.length) := by rw [← hlen2]; exact d1.cell rfl
  have hin := HIN.out
  obtain ⟨r2, hr2⟩ : ∃ r2, rows2[i]? = some r2 := ⟨_, List.getElem?_eq_getElem (by omega)⟩
  have e0 : w2.cell? ⟨X.sb, i * 2, none⟩ = some (.int .i64 r2.1) := d2.cell (i := i * 2 + 0) ((flatMap_get srowCells 2 (fun _ => rfl) rows2 i r2 hr2 0 (by omega)).trans rfl)
  have e1 : w2.cell? ⟨X.sb, i * 2 + 1, none⟩ = some r2.2.2 := d2.cell (i := i * 2 + 1) ((flatMap_get srowCells 2 (fun _ => rfl) rows2 i r2 hr2 1 (by omega)).trans rfl)
  have hrow2 : Row w2 A (ints l) := fun j u hu => by
    obtain ⟨b, off, hA', hc'⟩ := HR.out j u hu
    exact ⟨b, off, hA', cell_only HO2.out hc' (HAX.out b off hA')⟩
  have hcl := cloneInts A ln c (ints l) w2.drew hrow2 (by rw [ints_length, HLL.out]) (ints_one l) (by have := HL.out; omega) HA.out
  have HCL := Lib.hid hcl; have HD2 := Lib.hid d2; have HE0 := Lib.hid e0; have HE1 := Lib.hid e1
  unfold sliceOf at c3
  clear d1 d2 hlen2 er2 hr2 hrow2 hcl e0 e1
  generalize hlen : C.sets.length = len at *
  have HLEN := Lib.hid hlen
  clear hlen
  have HNE : Hid (X.xb ≠ X.sb) := Lib.hid HC.out.apart
  go_region_held3 (fun W => W.cell? ⟨X.xb, 3, none⟩ = some (.slice (some ⟨X.sb, 0, none⟩) len len))
    (first | exact cell_below hb3 c3 | exact cell_only HST.out (cell_below HB3.out c3) (by simp; exact HNE.out) | (go_keep; done))
    (first | (go_simp; go_at_call 95; refine (HIX.out _).mono ?_; rintro e w' ⟨rfl, rfl⟩) | (go_simp; go_at_call 124; refine HCL.out.mono ?_; rintro e w3 ⟨cv, rfl, hown3, hb3⟩; obtain ⟨A3, cc3, rfl, _, _⟩ := row_of_own hown3; have HB3 := Lib.hid hb3; have HOWN3 := Lib.hid hown3; have hd3 := HD2.out.drew.only (X := []) (.of_below hb3) (by simp); have he0 := cell_below hb3 HE0.out; have he1 := (World.cell?_setCell_other w3 ⟨X.sb, i * 2, none⟩ ⟨X.sb, i * 2 + 1, none⟩ (.int .i64 h') (by simp)).trans (cell_below hb3 HE1.out); have hf0 := hd3.frozen (i * 2); have hf1 := hd3.frozen (i * 2 + 1); have HST := Lib.hid (((Only.refl [X.sb] w3).setCell (p := ⟨X.sb, i * 2, none⟩) (.inl (by simp)) (.int .i64 h')).setCell (p := ⟨X.sb, i * 2 + 1, none⟩) (.inl (by simp)) (.slice A3 ln cc3))))
  have hb23 : Below w2.heap.size w2 w3 := below_undrew HB3.out
  have hc3 := HC2.out.below (.of_below hb23)
  have hbs : base ≤ w2.heap.size := HC2.out.room
  have hc4 := hc3.setSet (by rw [HLEN.out]; exact HIN.out) h' l (.slice A3 ln cc3) (by rw [HLL.out]; exact own_base HOWN3.out hbs) (by rw [HLL.out]; exact HL.out) (fun k hk hd => by
    have h1 := (HOWN3.out.lt k hk).1
    have h2 := (HC2.out.dlt k hd).2
    have h3 : w2.drew.heap.size = w2.heap.size := rfl
    omega)
  have ho4 : Only (chX X L) w ((w3.setCell ⟨X.sb, i * 2, none⟩ (.int .i64 h')).setCell ⟨X.sb, i * 2 + 1, none⟩ (.slice A3 ln cc3)) := ((HO2.out.mono (fun k hk => by simp [chX, hk])).trans (.of_below hb23)).trans (HST.out.mono (fun k hk => by simp [chX] at hk ⊢; simp [hk]))
  have hp4 := (HP2.out.only (X := []) (.of_below hb23) (by simp)).only HST.out (fun k hk => by simp; exact fun e => HF.out.sb (e ▸ hk))
  have hdn : ∀ k ∈ (Value.slice A3 ln cc3).ownBlock.toList ++ D, k ∈ D ∨ w.heap.size ≤ k := by
    intro k hk
    rcases List.mem_append.1 hk with hk | hk
    · right
      have h1 := (HOWN3.out.lt k (by simpa using hk)).1
      have h2 := HO2.out.size
      have h3 : w2.drew.heap.size = w2.heap.size := rfl
      omega
    · exact .inl hk
  have HC4 := Lib.hid hc4; have HO4 := Lib.hid ho4; have HP4 := Lib.hid hp4; have HDN := Lib.hid hdn
  have hlay : ∀ W, ChainAt W X L.pb K.cb base ((Value.slice A3 ln cc3).ownBlock.toList ++ D) { C with sets := C.sets.set i (h', l) } → Calls Tryz.prog 215 #[ptr X.xb, .pointer none, .int .i64 old, .int .i64 h'] W fun e w' => e = .returned (.bool true) ∧ ChainAt w' X L.pb K.cb base ((Value.slice A3 ln cc3).ownBlock.toList ++ D) { head := h', sets := C.sets.set i (h', l) } ∧ Only [X.xb] W w' := fun W h => by
    have q := lays2_any W X L.pb K.cb base _ _ h h'
    rw [show ({ C with sets := C.sets.set i (h', l) } : ChainS).head = old from HH0.out] at q
    exact q
  unfold ptr at hlay
  have HLAY := Lib.hid hlay
  clear hc3 hc4 ho4 hp4 hdn hlay hb23 hbs
  generalize hDD : (Value.slice A3 ln cc3).ownBlock.toList ++ D = D' at *
  clear hDD
  go_wp2_with (first | (go_at_call 215; refine (HLAY.out _ HC4.out).mono ?_; rintro e w5 ⟨rfl, hc5, ho5⟩; have ho45 := HO4.out.trans (ho5.mono (Y := chX X L) (fun k hk => by simp [chX] at hk ⊢; simp [hk])); have hp5 := HP4.out.only ho5 (fun k hk => by simp; exact fun e => HF.out.xb (e ▸ hk)); have hset := settle_any w5 X L S1 K CK base D' _ hp5 (HK.out.only ho45 HKF.out.1 HKF.out.2) hc5 h' v S2 HSE.out; unfold ptr I2 at hset; have HC5 := Lib.hid hc5; have HO5 := Lib.hid ho45; clear hc5 ho5 ho45 hp5) | (go_at_call 216; refine hset.mono ?_; rintro e w6 ⟨rfl, hp6, ho6⟩; have HP6 := Lib.hid hp6; have HO6 := Lib.hid ho6; clear hp6 ho6 hset))
  go_ret3
  exact ⟨D', rfl, HP6.out, HC5.out.pool HF.out HO6.out, HO5.out.trans (HO6.out.mono (fun k hk => by simp [chX, hk])), HDN.out⟩
end Go.Proofs.YteeefedoffplmaaGreat
