/- A chain in memory; settle, Top, lays. Conditions: pool, clock and chain lie in memory; the plain functions answer. -/
import Derived.Test.YteeefedoffplmaaGreatPlaces2
import Derived.Lib.SliceRun
namespace Go.Proofs.YteeefedoffplmaaGreat
open Go.RowKit

abbrev SRow := Int × List Int × Value
def srowCells (r : SRow) : List Value := [.int .i64 r.1, r.2.2]
structure ChainL where
  xb : Nat
  sb : Nat
/-- the rows of a chain's sets. -/
structure SRows (w : World) (base : Nat) (D : List Nat) (rows : List SRow) : Prop where
  own : ∀ r ∈ rows, w.ownsRow base 3 1 r.2.2 r.2.1.length (ints r.2.1) ∧ (∀ k, r.2.2.ownBlock = some k → k ∈ D) ∧ r.2.1.length ≤ 100000
  apart : ∀ (i j : Nat) (r s : SRow) (k : Nat), rows[i]? = some r → rows[j]? = some s → i ≠ j → r.2.2.ownBlock = some k → s.2.2.ownBlock ≠ some k
structure ChainAt (w : World) (X : ChainL) (pb cb base : Nat) (D : List Nat) (C : ChainS) : Prop where
  ex : ∃ rows : List SRow, C.sets = rows.map (fun r => (r.1, r.2.1)) ∧ Blk w X.xb [ptr pb, ptr cb, .int .i64 C.head, sliceOf X.sb rows.length] 191 ∧ Blk w X.sb (rows.flatMap srowCells) 226 ∧ SRows w base D rows
  apart : X.xb ≠ X.sb
  lt : X.xb < base ∧ X.sb < base
  room : base ≤ w.heap.size
  most : C.sets.length ≤ 4097
  dlt : ∀ k ∈ D, base ≤ k ∧ k < w.heap.size
theorem SRows.only {w w' : World} {base : Nat} {D : List Nat} {rows : List SRow} (h : SRows w base D rows) {Y : List Nat} (ho : Only Y w w') (hd : ∀ k ∈ D, k ∉ Y) : SRows w' base D rows :=
  ⟨fun r hr => ⟨own_only (h.own r hr).1 ho (fun k hk => hd k ((h.own r hr).2.1 k hk)), (h.own r hr).2⟩, h.apart⟩
theorem ChainAt.only {w w' : World} {X : ChainL} {pb cb base : Nat} {D : List Nat} {C : ChainS} (h : ChainAt w X pb cb base D C) {Y : List Nat} (ho : Only Y w w') (h1 : X.xb ∉ Y) (h2 : X.sb ∉ Y) (hd : ∀ k ∈ D, k ∉ Y) : ChainAt w' X pb cb base D C := by
  obtain ⟨⟨rows, e, b1, b2, b3⟩, h3, h4, h5, h6, h7⟩ := h
  exact ⟨⟨rows, e, b1.only ho h1, b2.only ho h2, b3.only ho hd⟩, h3, h4, Nat.le_trans h5 ho.size, h6, fun k hk => ⟨(h7 k hk).1, Nat.lt_of_lt_of_le (h7 k hk).2 ho.size⟩⟩
theorem ChainAt.below {w w' : World} {X : ChainL} {pb cb base : Nat} {D : List Nat} {C : ChainS} (h : ChainAt w X pb cb base D C) (ho : Only [] w w') : ChainAt w' X pb cb base D C := h.only ho (by simp) (by simp) (by simp)
theorem ChainAt.setHead {w : World} {X : ChainL} {pb cb base : Nat} {D : List Nat} {C : ChainS} (h : ChainAt w X pb cb base D C) (x : Int) : ChainAt (w.setCell ⟨X.xb, 2, none⟩ (.int .i64 x)) X pb cb base D { C with head := x } := by
  have ho : Only [X.xb] w (w.setCell ⟨X.xb, 2, none⟩ (.int .i64 x)) := (Only.refl _ _).setCell (.inl (by simp)) _
  obtain ⟨⟨rows, e, b1, b2, b3⟩, h3, h4, h5, h6, h7⟩ := h
  exact ⟨⟨rows, e, b1.set 2 _, b2.only ho (by simpa using h3.symm), b3.only ho (fun k hk => by have := (h7 k hk).1; have := h4.1; simp; omega)⟩, h3, h4, by simpa using h5, h6, fun k hk => by simpa using h7 k hk⟩

/-- what settle leaves. -/
def Settled (L : PoolL) (S' : PoolS) (w : World) (r : Value) (e : Ending) (w' : World) : Prop := e = .returned r ∧ PoolAt w' L S' ∧ Only L.blocks w w'
set_option maxRecDepth 100000 in
set_option maxHeartbeats 1600000 in
theorem settle_any (w : World) (X : ChainL) (L : PoolL) (S : PoolS) (K : ClockL) (CK : ClockS) (base : Nat) (D : List Nat) (C : ChainS) (hp : PoolAt w L S) (hk : ClockAt w K CK) (hc : ChainAt w X L.pb K.cb base D C) (h v : Int) (S' : PoolS) (hS : settle CK.now S h = some (v, S')) :
    Calls Tryz.prog 216 #[ptr X.xb, .pointer none, .int .i64 h] w (Settled L S' w (I2 v)) := by
  simp only [settle, Option.bind_eq_bind, Option.bind_eq_some_iff] at hS
  obtain ⟨s, hs, hS⟩ := hS
  obtain ⟨rows, _, b1, _, _⟩ := hc.ex
  have c0 : w.cell? ⟨X.xb, 0, none⟩ = some (ptr L.pb) := b1.cell rfl
  have c1 : w.cell? ⟨X.xb, 1, none⟩ = some (ptr K.cb) := b1.cell rfl
  have hmark := mark_any w L S hp h s hs
  have hnow := clockNow w K CK hk
  have hcn := hk.now
  by_cases hm : s.mark = 0
  · rw [if_neg (by simp [hm])] at hS
    simp only [Option.bind_eq_some_iff] at hS
    obtain ⟨S2, h2, hS⟩ := hS
    simp only [Option.some.injEq, Prod.mk.injEq] at hS
    obtain ⟨rfl, rfl⟩ := hS
    have hcas := casMark_any w L S hp h s hs CK.now ⟨by omega, by omega⟩ S2 h2
    rw [hm] at hcas hmark
    unfold I2 at hmark ⊢
    unfold B2 at hcas
    unfold ptr at *
    clear hp hk hc h2 b1 hs hm hcn
    go_enter Tryz.func216, Tryz.ntmps216
    go_wp2_with (first | (go_at_call 188; refine hmark.mono ?_; rintro e w' ⟨rfl, rfl⟩) | (go_at_call 60; refine hnow.mono ?_; rintro e w' ⟨rfl, rfl⟩) | (go_at_call 236; refine hcas.mono ?_; rintro e w1 ⟨rfl, hp, ho⟩; have HP := Lib.hid hp; have HO := Lib.hid ho; clear hp ho))
    go_ret2
    exact ⟨rfl, HP.out, HO.out⟩
  · rw [if_pos hm] at hS
    simp only [Option.some.injEq, Prod.mk.injEq] at hS
    obtain ⟨rfl, rfl⟩ := hS
    have hq : (s.mark != 0) = true := by simp [hm]
    have HP := Lib.hid hp
    unfold I2 at hmark ⊢
    unfold ptr at *
    clear hp hk hc b1 hs hm hcn
    generalize s.mark = m at *
    go_enter Tryz.func216, Tryz.ntmps216
    go_wp2_with (first | (go_at_call 188; refine hmark.mono ?_; rintro e w' ⟨rfl, rfl⟩))
    go_ret2
    exact ⟨rfl, HP.out, Only.refl _ _⟩
def I3 (a b c : Int) : Value := .tuple #[.int .i64 a, .int .i64 b, .int .i64 c]
set_option maxRecDepth 100000 in
set_option maxHeartbeats 1600000 in
theorem top_any (w : World) (X : ChainL) (L : PoolL) (S : PoolS) (K : ClockL) (CK : ClockS) (base : Nat) (D : List Nat) (C : ChainS) (hp : PoolAt w L S) (hk : ClockAt w K CK) (hc : ChainAt w X L.pb K.cb base D C) (h v : Int) (S' : PoolS) (hS : C.top CK.now S = some (h, v, S')) :
    Calls Tryz.prog 186 #[ptr X.xb, .pointer none] w (Settled L S' w (I3 h v 0)) := by
  unfold ChainS.top at hS
  by_cases h0 : C.head = 0
  · simp [h0] at hS
  · simp only [h0, if_false, Option.bind_eq_bind, Option.bind_eq_some_iff] at hS
    obtain ⟨⟨v', S2⟩, hse, hS⟩ := hS
    simp only [Option.some.injEq, Prod.mk.injEq] at hS
    obtain ⟨rfl, rfl, rfl⟩ := hS
    have hset := settle_any w X L S K CK base D C hp hk hc C.head v' S2 hse
    obtain ⟨rows, _, b1, _, _⟩ := hc.ex
    have hl := atomLoad X.xb 2 C.head w (b1.cell rfl)
    have hq : (C.head == 0) = false := by simp [h0]
    unfold I2 at hset
    unfold I3
    unfold ptr at *
    clear hp hk hc b1 hse h0
    generalize C.head = hd at *
    go_enter Tryz.func186, Tryz.ntmps186
    go_wp2_with (first | (go_at_call 71; refine (step_nil _).mono ?_; rintro e w' ⟨rfl, rfl⟩) | (go_at_call 51; refine hl.mono ?_; rintro e w' ⟨rfl, rfl⟩) | (go_at_call 216; refine hset.mono ?_; rintro e w1 ⟨rfl, hp, ho⟩; have HP := Lib.hid hp; have HO := Lib.hid ho; clear hp ho))
    go_ret3
    exact ⟨rfl, HP.out, HO.out⟩
theorem lays2_any (w : World) (X : ChainL) (pb cb base : Nat) (D : List Nat) (C : ChainS) (hc : ChainAt w X pb cb base D C) (h : Int) :
    Calls Tryz.prog 215 #[ptr X.xb, .pointer none, .int .i64 C.head, .int .i64 h] w fun e w' => e = .returned (.bool true) ∧ ChainAt w' X pb cb base D { C with head := h } ∧ Only [X.xb] w w' := by
  have hfin := hc.setHead h
  obtain ⟨rows, _, b1, _, _⟩ := hc.ex
  have hcas := atomCas X.xb 2 C.head w h (b1.cell rfl) (b1.frozen _)
  have ho : Only [X.xb] w (w.setCell ⟨X.xb, 2, none⟩ (.int .i64 h)) := (Only.refl _ _).setCell (.inl (by simp)) _
  have HF := Lib.hid hfin; have HO := Lib.hid ho
  unfold ptr
  clear hc b1 hfin ho
  generalize C.head = hd at *
  go_enter Tryz.func215, Tryz.ntmps215
  go_wp2_with (first | (go_at_call 71; refine (step_nil _).mono ?_; rintro e w' ⟨rfl, rfl⟩) | (go_at_call 135; refine hcas.mono ?_; rintro e w' ⟨rfl, rfl⟩))
  go_ret
  exact ⟨rfl, HF.out, HO.out⟩
end Go.Proofs.YteeefedoffplmaaGreat

/- slices.Clone at int; a chain's set laid down; First. Conditions: pool, clock and chain lie in memory; the plain functions answer. -/
namespace Go.Proofs.YteeefedoffplmaaGreat
open Go.RowKit

theorem made_empty (w : World) (e size : Nat) : (w.alloc (.cells #[] e)).ownsRow w.heap.size e size (.slice (some ⟨w.heap.size, 0, none⟩) 0 0) 0 [] :=
  World.ownsRow_made w #[] 0 (Nat.le_refl _) (by simp [maxLen]) (by simp)

theorem cloneInts (A : Option Addr) (n c : Nat) (xs : List Value) (w : World) (hr : Row w A xs) (hl : xs.length = n) (h1 : ∀ u ∈ xs, u.oneCell' = true) (hn : n ≤ 1000000) (hA : A = none → n = 0) :
    Calls Tryz.prog 124 #[.slice A n c] w fun r w' => ∃ v, r = .returned v ∧ w'.ownsRow w.heap.size 3 1 v n xs ∧ Below w.heap.size w w' := by
  have heq : ∀ W : World, (binOp .eql 64 (.slice A n c) (.slice none 0 0)).run Tryz.prog W = .ok (.bool A.isNone) W := fun W => Lib.run_eql_slice_nil W 64 3 A n c 0 0 (by kernel_rfl)
  cases A with
  | none =>
    obtain rfl := hA rfl
    have : xs = [] := List.eq_nil_of_length_eq_zero hl
    subst this
    clear hA hl hn h1 hr
    go_enter Tryz.func124, Tryz.ntmps124
    go_wp2
    go_ret
    exact ⟨_, rfl, World.ownsRow_nil _ _ _ _, Below.refl _ _⟩
  | some ad =>
    have HL := Lib.hid hl; clear hl hA
    have HN := Lib.hid hn; clear hn
    have H1 := Lib.hid h1; clear h1
    have HR := Lib.hid hr; clear hr
    go_enter Tryz.func124, Tryz.ntmps124
    go_wp2_with (at_builtin; refine wpList_append_is rfl (.tmp 5) (.tmp 6) rfl elemInt rfl (made_empty w 3 1) (some ad) n c xs rfl (HR.out.alloc _) (by rw [HL.out]; omega) H1.out (by have := HN.out; unfold maxLen; omega) (by have := HN.out; omega) (by simp) (fun e => by cases e) ?_; intro v1 w1 hown1 hg1 hat1)
    go_ret
    refine ⟨v1, rfl, ?_, ?_⟩
    · have := hown1
      simpa using this
    · exact ((Below.refl _ _).alloc (Nat.le_refl _) _).grown hg1 (by simp) (fun k hk => by cases hk; exact Nat.le_refl _)


theorem List.set_map_eq {α β : Type} (f : α → β) (l : List α) (i : Nat) (x : α) : (l.set i x).map f = (l.map f).set i (f x) := by rw [List.map_set]
theorem ChainAt.setSet {w : World} {X : ChainL} {pb cb base : Nat} {D : List Nat} {C : ChainS} (h : ChainAt w X pb cb base D C) {i : Nat} (hi : i < C.sets.length) (x : Int) (l : List Int) (v : Value) (hown : w.ownsRow base 3 1 v l.length (ints l)) (hl : l.length ≤ 100000) (hnew : ∀ k, v.ownBlock = some k → k ∉ D) :
    ChainAt ((w.setCell ⟨X.sb, i * 2, none⟩ (.int .i64 x)).setCell ⟨X.sb, i * 2 + 1, none⟩ v) X pb cb base (v.ownBlock.toList ++ D) { C with sets := C.sets.set i (x, l) } := by
  obtain ⟨⟨rows, e, b1, b2, b3⟩, h3, h4, h5, h6, h7⟩ := h
  have hil : i < rows.length := by rw [e] at hi; simpa using hi
  obtain ⟨r, hr⟩ : ∃ r, rows[i]? = some r := ⟨_, List.getElem?_eq_getElem hil⟩
  have ho : Only [X.sb] w ((w.setCell ⟨X.sb, i * 2, none⟩ (.int .i64 x)).setCell ⟨X.sb, i * 2 + 1, none⟩ v) := ((Only.refl _ _).setCell (.inl (by simp)) _).setCell (.inl (by simp)) _
  have s1 := b2.set (i * 2) (.int .i64 x)
  have e1 : (rows.flatMap srowCells).set (i * 2 + 0) (.int .i64 x) = (rows.set i (x, r.2.1, r.2.2)).flatMap srowCells := flatMap_set srowCells 2 (fun _ => rfl) rows i r hr 0 (.int .i64 x) (x, r.2.1, r.2.2) (by omega) rfl
  rw [Nat.add_zero] at e1
  rw [e1] at s1
  have s2 := s1.set (i * 2 + 1) v
  have hr2 : (rows.set i (x, r.2.1, r.2.2))[i]? = some (x, r.2.1, r.2.2) := by simp [hil]
  have e2 : ((rows.set i (x, r.2.1, r.2.2)).flatMap srowCells).set (i * 2 + 1) v = ((rows.set i (x, r.2.1, r.2.2)).set i (x, l, v)).flatMap srowCells := flatMap_set srowCells 2 (fun _ => rfl) _ i _ hr2 1 v (x, l, v) (by omega) rfl
  rw [e2, List.set_set] at s2
  have hd : ∀ k ∈ D, k ∉ [X.sb] := fun k hk => by have := (h7 k hk).1; have := h4.2; simp; omega
  have hvs : ∀ k, v.ownBlock = some k → base ≤ k ∧ k < w.heap.size := fun k hk => hown.lt k hk
  have b3' := b3.only ho hd
  have hown' := own_only hown ho (fun k hk => by have := (hvs k hk).1; have := h4.2; simp; omega)
  refine ⟨⟨rows.set i (x, l, v), ?_, ?_, s2, ?_, ?_⟩, h3, h4, by simpa using h5, by simpa using h6, ?_⟩
  · rw [e, List.set_map_eq]
  · have := (b1.other h3 (i * 2) (.int .i64 x)).other h3 (i * 2 + 1) v
    simpa using this
  · intro q hq
    rcases List.mem_or_eq_of_mem_set hq with hq | rfl
    · exact ⟨(b3'.own q hq).1, fun k hk => List.mem_append_right _ ((b3'.own q hq).2.1 k hk), (b3'.own q hq).2.2⟩
    · exact ⟨hown', fun k hk => List.mem_append_left _ (by rw [hk]; simp), hl⟩
  · intro a b q s k hq hs hab hk
    rw [List.getElem?_set] at hq hs
    by_cases ha : i = a
    · subst ha
      simp only [if_true, hil] at hq
      injection hq with hq
      subst hq
      rw [if_neg hab] at hs
      intro e'
      exact hnew k hk ((b3.own s (List.mem_of_getElem? hs)).2.1 k e')
    · rw [if_neg ha] at hq
      by_cases hb : i = b
      · subst hb
        simp only [if_true, hil] at hs
        injection hs with hs
        subst hs
        intro e'
        exact hnew k e' ((b3.own q (List.mem_of_getElem? hq)).2.1 k hk)
      · rw [if_neg hb] at hs
        exact b3.apart a b q s k hq hs hab hk
  · intro k hk
    rcases List.mem_append.1 hk with hk | hk
    · have := hvs k (by simpa using hk)
      simpa using this
    · simpa using h7 k hk
end Go.Proofs.YteeefedoffplmaaGreat
