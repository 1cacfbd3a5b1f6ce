/- The clock: Now, Leases, Least. Conditions: the clock lies in memory. -/
import Derived.Test.YteeefedoffplmaaGreatAppend
import Derived.Deep.DeepCutAuto
import Derived.Deep.RegionLaw
namespace Go.Proofs.YteeefedoffplmaaGreat
open Go.RowKit

def ints (l : List Int) : List Value := l.map (Value.int .i64)
theorem ints_length (l : List Int) : (ints l).length = l.length := by simp [ints]
theorem ints_snoc (l : List Int) (x : Int) : ints (l ++ [x]) = ints l ++ [.int .i64 x] := by simp [ints]
theorem ints_one (l : List Int) : ∀ u ∈ ints l, u.oneCell' = true := by
  intro u hu
  obtain ⟨x, _, rfl⟩ := List.mem_map.1 hu
  rfl
theorem take_snoc {α : Type} {l : List α} {j : Nat} {e : α} (h : l[j]? = some e) : l.take (j + 1) = l.take j ++ [e] := by
  rw [List.take_add_one, h]
  rfl
theorem elemInt : ElemOk Tryz.prog 64 3 1 8 := elemOk_of (by kernel_rfl) (by decide) (.int .i64 0) (by kernel_rfl) rfl
theorem row_new (w : World) (cs : List Value) (t : TypeId) : Row (w.alloc (.cells cs.toArray t)) (some ⟨w.heap.size, 0, none⟩) cs := fun j u hu =>
  ⟨w.heap.size, 0, rfl, by rw [Nat.zero_add]; exact (Blk.new w cs t).cell hu⟩

structure ClockL where
  cb : Nat
  lb : Nat
structure ClockAt (w : World) (K : ClockL) (C : ClockS) : Prop where
  c : Blk w K.cb [.int .i64 C.now, sliceOf K.lb C.leases.length] 166
  l : Blk w K.lb (ints C.leases) 122
  apart : K.cb ≠ K.lb
  most : C.leases.length ≤ 64
  now : 0 ≤ C.now ∧ C.now ≤ 1099511627776
  ok : ∀ x ∈ C.leases, 0 ≤ x ∧ x ≤ 1099511627776
theorem ClockAt.only {w w' : World} {K : ClockL} {C : ClockS} (h : ClockAt w K C) {X : List Nat} (ho : Only X w w') (h1 : K.cb ∉ X) (h2 : K.lb ∉ X) : ClockAt w' K C := ⟨h.c.only ho h1, h.l.only ho h2, h.apart, h.most, h.now, h.ok⟩

theorem clockNow (w : World) (K : ClockL) (C : ClockS) (h : ClockAt w K C) : Calls Tryz.prog 60 #[ptr K.cb, .pointer none] w fun e w' => e = .returned (.int .i64 C.now) ∧ w = w' := by
  have hl := atomLoad K.cb 0 C.now w (h.c.cell rfl)
  unfold ptr
  clear h
  go_enter Tryz.func60, Tryz.ntmps60
  go_wp2_with (first | (go_at_call 71; refine (step_nil _).mono ?_; rintro e w' ⟨rfl, rfl⟩) | (go_at_call 51; refine hl.mono ?_; rintro e w' ⟨rfl, rfl⟩))
  go_ret
  exact ⟨rfl, rfl⟩

/-- a list of ints that a call makes anew. -/
def NewInts (l : List Int) (w : World) (e : Ending) (w' : World) : Prop := ∃ v, e = .returned v ∧ w'.ownsRow w.heap.size 3 1 v l.length (ints l) ∧ Only [] w w'
def LsRel (C : ClockS) (w : World) (k : Nat) (out i : Value) (wr : World) : Prop :=
  ∃ j : Nat, j ≤ C.leases.length ∧ i = .int .i64 j ∧ k = C.leases.length - j ∧ wr.ownsRow w.heap.size 3 1 out j (ints (C.leases.take j)) ∧ Only [] w wr
set_option maxRecDepth 100000 in
set_option maxHeartbeats 800000 in
theorem clockLeases (w : World) (K : ClockL) (C : ClockS) (h : ClockAt w K C) : Calls Tryz.prog 61 #[ptr K.cb] w (NewInts C.leases w) := by
  have H := Lib.hid h
  have c1 : w.cell? ⟨K.cb, 1, none⟩ = some (sliceOf K.lb C.leases.length) := h.c.cell rfl
  have hm := h.most
  unfold ptr
  unfold sliceOf at c1
  clear h
  go_enter Tryz.func61, Tryz.ntmps61
  go_wp2_with fail
  go_loopg [3, 10] C.leases.length (fun k out i wr => LsRel C w k out i wr)
  case atStart => exact ⟨0, Nat.zero_le _, rfl, rfl, World.ownsRow_nil _ _ 3 1, Only.refl _ _⟩
  case round =>
    obtain ⟨j, hj, rfl, rfl, hown, ho⟩ := hrel
    have HO := Lib.hid ho
    have HW := Lib.hid hown
    clear ho hown c1
    by_cases hlt : j < C.leases.length
    · obtain ⟨x, hx⟩ : ∃ x, C.leases[j]? = some x := ⟨_, List.getElem?_eq_getElem hlt⟩
      have hK := H.out.only HO.out (by simp) (by simp)
      have c1 : wr.cell? ⟨K.cb, 1, none⟩ = some (sliceOf K.lb C.leases.length) := hK.c.cell rfl
      have hl := atomLoad K.lb j x wr (hK.l.cell (by simp [ints, hx]))
      unfold sliceOf at c1
      have HX := Lib.hid hx
      clear hK hx
      have hlt' : (j : Int) < C.leases.length := by omega
      go_wp2_with (first | (go_at_call 51; refine hl.mono ?_; rintro e w' ⟨rfl, rfl⟩) | (at_builtin; (refine wpList_append_is rfl (.tmp 13) (.tmp 21) rfl elemInt rfl (HW.out.alloc (.cells #[.int .i64 x] 3)) _ 1 _ [.int .i64 x] rfl (row_new _ _ _) rfl (by simp [Value.oneCell']) (by unfold maxLen; omega) (by omega) (by have := HO.out.size; simp; omega) (fun e => by cases e) ?_); intro v2 w2 hown2 hg2 hat2; have HW2 := Lib.hid hown2; have HO2 := Lib.hid ((HO.out.alloc _).grown hg2 (fun k hk => .inl (HW.out.lt k hk).1)); clear hown2 hg2 hat2))
      go_roundg (C.leases.length - (j + 1))
      case measure => omega
      case rel => exact ⟨j + 1, by omega, by go_num, rfl, by rw [take_snoc HX.out, ints_snoc]; exact HW2.out, HO2.out⟩
    · have hjl : j = C.leases.length := by omega
      have HJ := Lib.hid hjl
      clear hjl
      go_wp2_with fail
      go_ret
      refine ⟨_, rfl, ?_, HO.out⟩
      have := HW.out
      rw [HJ.out, List.take_length] at this
      exact this
def minL (m : Int) (l : List Int) : Int := l.foldl (fun m x => if x = 0 then m else min m (x - 1)) m
def LtRel (C : ClockS) (k : Nat) (m i : Value) (w wr : World) : Prop :=
  ∃ j : Nat, j ≤ C.leases.length ∧ i = .int .i64 j ∧ k = C.leases.length - j ∧ m = .int .i64 (minL C.now (C.leases.take j)) ∧ w = wr
theorem minL_snoc (m : Int) (l : List Int) (x : Int) : minL m (l ++ [x]) = if x = 0 then minL m l else min (minL m l) (x - 1) := by simp [minL]
set_option maxRecDepth 100000 in
set_option maxHeartbeats 800000 in
theorem clockLeast (w : World) (K : ClockL) (C : ClockS) (h : ClockAt w K C) : Calls Tryz.prog 129 #[ptr K.cb, .pointer none] w fun e w' => e = .returned (.int .i64 C.least) ∧ w = w' := by
  have H := Lib.hid h
  have c1 : w.cell? ⟨K.cb, 1, none⟩ = some (sliceOf K.lb C.leases.length) := h.c.cell rfl
  have hm := h.most
  have hnow := clockNow w K C h
  unfold ptr at hnow ⊢
  unfold sliceOf at c1
  clear h
  go_enter Tryz.func129, Tryz.ntmps129
  go_wp2_with (go_at_call 60; refine hnow.mono ?_; rintro e w' ⟨rfl, rfl⟩)
  go_loopg [5, 16] C.leases.length (fun k m i wr => LtRel C k m i w wr)
  case atStart => exact ⟨0, Nat.zero_le _, rfl, rfl, rfl, rfl⟩
  case round =>
    obtain ⟨j, hj, rfl, rfl, rfl, rfl⟩ := hrel
    by_cases hlt : j < C.leases.length
    · obtain ⟨x, hx⟩ : ∃ x, C.leases[j]? = some x := ⟨_, List.getElem?_eq_getElem hlt⟩
      have hl := atomLoad K.lb j x w (H.out.l.cell (by simp [ints, hx]))
      have hxo := H.out.ok x (List.mem_of_getElem? hx)
      have HX := Lib.hid hx
      have hs := Lib.hid (minL_snoc C.now (C.leases.take j) x)
      clear hx
      generalize hmm : minL C.now (C.leases.take j) = mm at *
      have HMM := Lib.hid hmm
      clear hmm
      have hlt' : (j : Int) < C.leases.length := by omega
      by_cases hx0 : x = 0
      · subst hx0
        go_wp2_with (first | (go_at_call 71; refine (step_nil _).mono ?_; rintro e w' ⟨rfl, rfl⟩) | (go_at_call 51; refine hl.mono ?_; rintro e w' ⟨rfl, rfl⟩))
        go_roundg (C.leases.length - (j + 1))
        case measure => omega
        case rel => exact ⟨j + 1, by omega, by go_num, rfl, by rw [take_snoc HX.out, hs.out]; simp, rfl⟩
      · have hq : (x != 0) = true := by simp [hx0]
        have HX0 := Lib.hid hx0
        clear hx0
        obtain ⟨o1, o2⟩ := hxo
        go_wp2_with (first | (go_at_call 71; refine (step_nil _).mono ?_; rintro e w' ⟨rfl, rfl⟩) | (go_at_call 51; refine hl.mono ?_; rintro e w' ⟨rfl, rfl⟩))
        all_goals
          go_roundg (C.leases.length - (j + 1))
          case measure => omega
          case rel => exact ⟨j + 1, by omega, by go_num, rfl, by rw [take_snoc HX.out, hs.out, if_neg HX0.out]; congr 1; omega, rfl⟩
    · have hjl : j = C.leases.length := by omega
      have HJ := Lib.hid hjl
      clear hjl
      go_wp2_with fail
      go_ret
      exact ⟨ret_int (by rw [HJ.out, List.take_length]; rfl), rfl⟩
end Go.Proofs.YteeefedoffplmaaGreat

/- The epoch, for worker 0: Enter, Leave, Retire, Advance, At, Waiting. Conditions: the epoch lies in memory; nobody but worker 0 was ever within. -/
namespace Go.Proofs.YteeefedoffplmaaGreat
open Go.RowKit

def zI : Value := .int .i64 0
def nilS : Value := .slice none 0 0
def epochCells (pb : Nat) (E : EpochS) (lv : Value) : List Value :=
  [ptr pb, .int .i64 E.workers, .int .i64 E.now, .int .i64 E.at0, zI, zI, zI, zI, zI, zI, zI, .int .i64 E.deep, lv, zI, nilS, zI, nilS, zI, nilS, zI, nilS, zI, nilS, zI, nilS, zI, nilS]
def waitCells (l : List (Int × Int)) : List Value := l.flatMap fun x => [.int .i64 x.1, .int .i64 x.2]
structure EpochAt (w : World) (eb pb base : Nat) (ed : Option Nat) (E : EpochS) : Prop where
  ex : ∃ lv, Blk w eb (epochCells pb E lv) 185 ∧ w.ownsRow base 229 2 lv E.list.length (waitCells E.list) ∧ lv.ownBlock = ed
  lt : eb < base
  room : base ≤ w.heap.size
  workers : 1 ≤ E.workers ∧ E.workers ≤ 8
  now : 0 ≤ E.now ∧ E.now ≤ 1099511627776
  at0 : 0 ≤ E.at0 ∧ E.at0 ≤ 1099511627776
  deep : 0 ≤ E.deep ∧ E.deep ≤ 1
  ok : ∀ x ∈ E.list, In64 x.1 ∧ 0 ≤ x.2 ∧ x.2 ≤ 1099511627776
theorem EpochAt.only {w w' : World} {eb pb base : Nat} {ed : Option Nat} {E : EpochS} (h : EpochAt w eb pb base ed E) {X : List Nat} (ho : Only X w w') (h1 : eb ∉ X) (h2 : ∀ k, ed = some k → k ∉ X) : EpochAt w' eb pb base ed E := by
  obtain ⟨⟨lv, hb, hown, he⟩, h3, hr, h4, h5, h6, h7, h8⟩ := h
  exact ⟨⟨lv, hb.only ho h1, own_only hown ho (fun k hk => h2 k (he ▸ hk)), he⟩, h3, Nat.le_trans hr ho.size, h4, h5, h6, h7, h8⟩
theorem ed_ge {w : World} {eb pb base : Nat} {ed : Option Nat} {E : EpochS} (h : EpochAt w eb pb base ed E) : ∀ k, ed = some k → base ≤ k := by
  obtain ⟨lv, hb, hown, he⟩ := h.ex
  intro k hk
  exact (hown.lt k (he.trans hk)).1

theorem blk_grown {w w2 : World} {b : Nat} {cs : List Value} {t : TypeId} {row : Option Nat} (h : Blk w b cs t) (hg : w.grownBy w2 row) (hne : row ≠ some b) : Blk w2 b cs t := (hg.block b h.lt (fun e => hne e.symm)).trans h
theorem elemWait : ElemOk Tryz.prog 180 229 2 16 := elemOk_of (by kernel_rfl) (by decide) (.agg #[.int .i64 0, .int .i64 0]) (by kernel_rfl) rfl
theorem waitCells_length (l : List (Int × Int)) : (waitCells l).length = l.length * 2 := flatMap_len _ 2 (fun _ => rfl) l
theorem waitCells_snoc (l : List (Int × Int)) (x : Int × Int) : waitCells (l ++ [x]) = waitCells l ++ [.int .i64 x.1, .int .i64 x.2] := by simp [waitCells]
theorem retire_fin {w wa w2 : World} {eb pb base : Nat} {ed : Option Nat} {E : EpochS} {lv v2 : Value} {x : Int} (h : EpochAt w eb pb base ed E) (hx : In64 x) (hb : Blk w eb (epochCells pb E lv) 185) (he : lv.ownBlock = ed) (hw : Only [] w wa)
    (hg : wa.grownBy w2 lv.ownBlock) (hown : w2.ownsRow base 229 2 v2 (E.list.length + 1) (waitCells E.list ++ [.int .i64 x, .int .i64 E.now])) (hat : v2.ownBlock = lv.ownBlock ∨ v2.ownBlock = some wa.heap.size) (hne : lv.ownBlock ≠ some eb) :
    EpochAt (w2.setCell ⟨eb, 12, none⟩ v2) eb pb base v2.ownBlock (E.retire x) ∧ Only (eb :: ed.toList) w (w2.setCell ⟨eb, 12, none⟩ v2) ∧ (v2.ownBlock = ed ∨ ∃ g, v2.ownBlock = some g ∧ w.heap.size ≤ g) := by
  have ho2 : Only (eb :: ed.toList) w w2 := (hw.mono (fun k hk => by simp at hk)).grown hg (fun k hk => .inr (by rw [he] at hk; simp [hk]))
  have ho3 := ho2.setCell (p := ⟨eb, 12, none⟩) (.inl (by simp)) v2
  have hb2 : Blk w2 eb (epochCells pb E lv) 185 := blk_grown (hb.only hw (by simp)) hg hne
  refine ⟨⟨⟨v2, hb2.set 12 v2, ?_, rfl⟩, h.lt, Nat.le_trans h.room ho3.size, h.workers, h.now, h.at0, h.deep, ?_⟩, ho3, ?_⟩
  · have h1 : (E.retire x).list = E.list ++ [(x, E.now)] := rfl
    rw [h1, List.length_append, List.length_singleton, waitCells_snoc]
    refine own_only hown ((Only.refl [eb] _).setCell (p := ⟨eb, 12, none⟩) (.inl (by simp)) v2) (fun k hk => ?_)
    have := (hown.lt k hk).1
    have := h.lt
    simp
    omega
  · intro y hy
    have h1 : (E.retire x).list = E.list ++ [(x, E.now)] := rfl
    rw [h1] at hy
    rcases List.mem_append.1 hy with hy | hy
    · exact h.ok y hy
    · obtain rfl := List.mem_singleton.1 hy
      exact ⟨hx, h.now⟩
  · rcases hat with hat | hat
    · exact .inl (hat.trans he)
    · exact .inr ⟨_, hat, hw.size⟩
/-- what Retire leaves: the list's row may be another. -/
def Retired (eb pb base : Nat) (ed : Option Nat) (E' : EpochS) (w : World) (e : Ending) (w' : World) : Prop :=
  ∃ ed', e = .returned (.int .i64 0) ∧ EpochAt w' eb pb base ed' E' ∧ Only (eb :: ed.toList) w w' ∧ (ed' = ed ∨ ∃ g, ed' = some g ∧ w.heap.size ≤ g)

section
variable (w : World) (eb pb base : Nat) (ed : Option Nat) (E : EpochS) (h : EpochAt w eb pb base ed E)
include h
set_option maxRecDepth 100000 in
theorem mine_any : Calls Tryz.prog 132 #[ptr eb, .pointer none] w fun e w' => e = .returned (.pointer (some ⟨eb, 11, none⟩)) ∧ w = w' := by
  obtain ⟨lv, hb, hown, he⟩ := h.ex
  obtain ⟨k1, k2⟩ := h.workers
  have c1 : w.cell? ⟨eb, 1, none⟩ = some (.int .i64 (E.workers : Int)) := hb.cell rfl
  have e1 : decide ((0 : Int) < (E.workers : Int)) = true := by simp; omega
  unfold ptr
  clear h hb hown
  generalize (E.workers : Int) = ws at *
  go_enter Tryz.func132, Tryz.ntmps132
  go_wp2_with (go_at_call 157; refine (number_nil _).mono ?_; rintro e w' ⟨rfl, rfl⟩)
  go_ret
  exact ⟨rfl, rfl⟩
def Epoched (eb pb base : Nat) (X : List Nat) (ed : Option Nat) (E' : EpochS) (w : World) (r : Value) (e : Ending) (w' : World) : Prop := e = .returned r ∧ EpochAt w' eb pb base ed E' ∧ Only X w w'
set_option maxRecDepth 100000 in
set_option maxHeartbeats 800000 in
theorem enter_any (hd : E.deep = 0) : Calls Tryz.prog 85 #[ptr eb, .pointer none] w (Epoched eb pb base [eb] ed E.enter w (.int .i64 0)) := by
  have hmine := mine_any w eb pb base ed E h
  obtain ⟨lv, hb, hown, he⟩ := h.ex
  have c11 : w.cell? ⟨eb, 11, none⟩ = some (.int .i64 0) := by rw [← hd]; exact hb.cell rfl
  have hl := atomLoad eb 2 E.now w (hb.cell rfl)
  have hnum := fun W => calls_rev (number_nil W)
  have hst := atomStore eb 3 E.at0 w.drew E.now (hb.drew.cell rfl) (hb.frozen _)
  have hb1 := hb.drew.set 3 (.int .i64 E.now)
  have d11 : (w.setCell ⟨eb, 3, none⟩ (.int .i64 E.now)).cell? ⟨eb, 11, none⟩ = some (.int .i64 0) := by rw [← hd]; exact (hb.set 3 (.int .i64 E.now)).cell rfl
  have f11 := hb.frozen 11
  have hb2 := hb1.set 11 (.int .i64 1)
  have hfin : EpochAt ((w.drew.setCell ⟨eb, 3, none⟩ (.int .i64 E.now)).setCell ⟨eb, 11, none⟩ (.int .i64 1)) eb pb base ed E.enter ∧ Only [eb] w ((w.drew.setCell ⟨eb, 3, none⟩ (.int .i64 E.now)).setCell ⟨eb, 11, none⟩ (.int .i64 1)) := by
    have ho : Only [eb] w ((w.drew.setCell ⟨eb, 3, none⟩ (.int .i64 E.now)).setCell ⟨eb, 11, none⟩ (.int .i64 1)) := ((Only.drew _ _).setCell (.inl (by simp)) _).setCell (.inl (by simp)) _
    refine ⟨⟨⟨lv, ?_, own_only hown ho (fun k hk => by have := ed_ge h k (he ▸ hk); have := h.lt; simp; omega), he⟩, h.lt, Nat.le_trans h.room ho.size, h.workers, h.now, ?_, ?_, h.ok⟩, ho⟩
    · have e1 : E.enter = { E with at0 := E.now, deep := 1 } := by simp [EpochS.enter, hd]
      rw [e1]
      exact hb2
    · simp only [EpochS.enter, hd, if_true]
      exact h.now
    · simp [EpochS.enter, hd]
  have HF := Lib.hid hfin; have HST := Lib.hid hst; have HN := Lib.hid hnum
  unfold ptr at hmine ⊢
  clear h hb hown hb1 hb2 hfin hst hd hnum
  generalize E.now = now at *
  go_enter Tryz.func85, Tryz.ntmps85
  go_wp2_with (first | (go_at_call 132; refine hmine.mono ?_; rintro e w' ⟨rfl, rfl⟩) | (go_at_call 71; refine (step_nil _).mono ?_; rintro e w' ⟨rfl, rfl⟩) | (go_at_call 51; refine hl.mono ?_; rintro e w' ⟨rfl, rfl⟩))
  refine wp_region_still_tail 7 (by kernel_rfl) (by kernel_rfl) ?_
  simp only [List.take_succ_cons, List.take_zero, List.drop_succ_cons, List.drop_zero]
  change wpStill _ _ (World.drew _) (fun a' => wpList _ _ _ _ a' (World.drew _)) _ _
  iterate 2 still_step
  still_call (HN.out _)
  iterate 4 still_step
  refine wpStill_nil ?_
  go_wp2_with (go_at_call 100; refine HST.out.mono ?_; rintro e w' ⟨rfl, rfl⟩)
  go_ret
  exact ⟨rfl, HF.out⟩
set_option maxRecDepth 100000 in
set_option maxHeartbeats 800000 in
theorem leave_any (hd : E.deep = 1) : Calls Tryz.prog 86 #[ptr eb, .pointer none] w (Epoched eb pb base [eb] ed E.leave w (.int .i64 0)) := by
  have hmine := mine_any w eb pb base ed E h
  obtain ⟨lv, hb, hown, he⟩ := h.ex
  have c11 : w.cell? ⟨eb, 11, none⟩ = some (.int .i64 1) := by rw [← hd]; exact hb.cell rfl
  have hnum := fun W => calls_rev (number_nil W)
  have hst := atomStore eb 3 E.at0 w.drew 0 (hb.drew.cell rfl) (hb.frozen _)
  have hb1 := hb.drew.set 3 (.int .i64 0)
  have d11 : (w.setCell ⟨eb, 3, none⟩ (.int .i64 0)).cell? ⟨eb, 11, none⟩ = some (.int .i64 1) := by rw [← hd]; exact (hb.set 3 (.int .i64 0)).cell rfl
  have f11 := hb.frozen 11
  have hb2 := hb1.set 11 (.int .i64 0)
  have hfin : EpochAt ((w.drew.setCell ⟨eb, 3, none⟩ (.int .i64 0)).setCell ⟨eb, 11, none⟩ (.int .i64 0)) eb pb base ed E.leave ∧ Only [eb] w ((w.drew.setCell ⟨eb, 3, none⟩ (.int .i64 0)).setCell ⟨eb, 11, none⟩ (.int .i64 0)) := by
    have ho : Only [eb] w ((w.drew.setCell ⟨eb, 3, none⟩ (.int .i64 0)).setCell ⟨eb, 11, none⟩ (.int .i64 0)) := ((Only.drew _ _).setCell (.inl (by simp)) _).setCell (.inl (by simp)) _
    have e1 : E.leave = { E with at0 := 0, deep := 0 } := by simp [EpochS.leave, hd]
    rw [e1]
    refine ⟨⟨⟨lv, ?_, own_only hown ho (fun k hk => by have := ed_ge h k (he ▸ hk); have := h.lt; simp; omega), he⟩, h.lt, Nat.le_trans h.room ho.size, h.workers, h.now, ?_, ?_, h.ok⟩, ho⟩
    · exact hb2
    · simp
    · simp
  have HF := Lib.hid hfin; have HST := Lib.hid hst; have HN := Lib.hid hnum
  unfold ptr at hmine ⊢
  clear h hb hown hb1 hb2 hfin hst hd hnum
  go_enter Tryz.func86, Tryz.ntmps86
  go_wp2_with (first | (go_at_call 132; refine hmine.mono ?_; rintro e w' ⟨rfl, rfl⟩) | (go_at_call 71; refine (step_nil _).mono ?_; rintro e w' ⟨rfl, rfl⟩))
  refine wp_region_still_tail 6 (by kernel_rfl) (by kernel_rfl) ?_
  simp only [List.take_succ_cons, List.take_zero, List.drop_succ_cons, List.drop_zero]
  change wpStill _ _ (World.drew _) (fun a' => wpList _ _ _ _ a' (World.drew _)) _ _
  iterate 2 still_step
  still_call (HN.out _)
  iterate 3 still_step
  refine wpStill_nil ?_
  go_wp2_with (go_at_call 100; refine HST.out.mono ?_; rintro e w' ⟨rfl, rfl⟩)
  go_ret
  exact ⟨rfl, HF.out⟩
set_option maxRecDepth 100000 in
set_option maxHeartbeats 800000 in
theorem retire_any (x : Int) (hx : In64 x) (hlen : E.list.length ≤ 100000) : Calls Tryz.prog 131 #[ptr eb, .pointer none, .int .i64 x] w (Retired eb pb base ed (E.retire x) w) := by
  have hmine := mine_any w eb pb base ed E h
  obtain ⟨lv, hb, hown, he⟩ := h.ex
  obtain ⟨A, c, hlv, hrow, hnil⟩ := row_of_own hown
  have c12 : w.cell? ⟨eb, 12, none⟩ = some lv := hb.cell rfl
  have hl := calls_rev (atomLoad eb 2 E.now w.drew (hb.drew.cell rfl))
  rw [hlv] at c12
  have HB := Lib.hid hb; have HOWN := Lib.hid hown; have HL := Lib.hid hl; have HLV := Lib.hid hlv
  unfold ptr at hmine ⊢
  clear hb hown hl hlv hrow hnil
  generalize hnow : E.now = now at *
  have HNOW := Lib.hid hnow
  clear hnow
  go_enter Tryz.func131, Tryz.ntmps131
  go_wp2_with (first | (go_at_call 132; refine hmine.mono ?_; rintro e w' ⟨rfl, rfl⟩) | (go_at_call 71; refine (step_nil _).mono ?_; rintro e w' ⟨rfl, rfl⟩))
  have hoa : (w.alloc (.cells #[.int .i64 x, .int .i64 now] 229)).drew.ownsRow base 229 2 (.slice A E.list.length c) E.list.length (waitCells E.list) := by
    rw [← HLV.out]
    exact HOWN.out.alloc _
  have hrE : Row (w.alloc (.cells #[.int .i64 x, .int .i64 now] 229)).drew (some ⟨w.heap.size, 0, none⟩) [.int .i64 x, .int .i64 now] := row_new w [.int .i64 x, .int .i64 now] 229
  have hbase : base ≤ (w.alloc (.cells #[.int .i64 x, .int .i64 now] 229)).drew.heap.size := by have := h.room; simp; omega
  have hne : (Value.slice A E.list.length c).ownBlock ≠ some eb := by
    intro e
    rw [← HLV.out] at e
    have := (HOWN.out.lt eb e).1
    have := h.lt
    omega
  have HNE := Lib.hid hne
  clear hne
  have c12' := cell_alloc c12 (.cells #[.int .i64 x, .int .i64 now] 229)
  have HOA := Lib.hid hoa; have HROW := Lib.hid hrE; have HBASE := Lib.hid hbase
  have H := Lib.hid h
  have HXX := Lib.hid hx
  clear hx
  clear hoa hrE hbase h
  go_region_law (first | (go_simp; go_at_call 51; refine HL.out.mono ?_; rintro e w' ⟨rfl, rfl⟩) | (refine step_append_is rfl (.tmp 19) (.tmp 26) rfl elemWait rfl HOA.out _ 1 _ [.int .i64 x, .int .i64 now] rfl HROW.out rfl (by simp [Value.oneCell']) (by unfold maxLen; omega) (by omega) HBASE.out (fun e => by cases e) ?_; intro v2 w2 hown2 hg2 hat2; obtain ⟨A2, cc2, rfl, _, _⟩ := row_of_own hown2; have hb2 := blk_grown (HB.out.alloc (.cells #[.int .i64 x, .int .i64 now] 229)).drew hg2 HNE.out; have d12 := hb2.cell (i := 12) rfl; have f12 := hb2.frozen 12; have HFIN := Lib.hid (retire_fin H.out HXX.out HB.out he ((Only.refl [] w).alloc (.cells #[.int .i64 x, .int .i64 now] 229)).drew' (by rw [HLV.out]; exact hg2) (by rw [HNOW.out]; exact hown2) (by rw [HLV.out]; exact hat2) (by rw [HLV.out]; exact HNE.out)); clear hown2 hg2 hat2 hb2))
  all_goals
    go_wp2_with fail
    go_ret
    exact ⟨_, rfl, HFIN.out⟩
end
end Go.Proofs.YteeefedoffplmaaGreat
