/- store.New of a setup with two parts and one pair. Conditions: the pair's key is one, of the first part. -/
import Derived.Test.YteeefedoffplmaaGreatNewLoad
import Derived.Test.YteeefedoffplmaaGreatMade
import Derived.Test.YteeefedoffplmaaGreatNewPool
import Derived.Test.YteeefedoffplmaaGreatNewBoard
import Derived.Deep.DeepCutAuto
import Derived.Deep.CutBlock
set_option linter.unusedSimpArgs false
set_option linter.unusedVariables false
namespace Go.Proofs.YteeefedoffplmaaGreat
open Go.RowKit

theorem elemCh : ElemOk Tryz.prog 103 104 1 8 := elemOk_of (by kernel_rfl) (by decide) (.pointer none) (by kernel_rfl) rfl
theorem elemPt : ElemOk Tryz.prog 92 107 1 8 := elemOk_of (by kernel_rfl) (by decide) (.pointer none) (by kernel_rfl) rfl
/-- what lies while New goes on: the setup, the pool, the clock. -/
structure Nb (w W : World) (sa sc su sb : Nat) (L : PoolL) (K : ClockL) (nm : Nat) : Prop where
  st : Blk W su [.int .i64 2, .int .i64 2, .int .i64 20, .int .i64 2, .slice (some ⟨sa, 0, none⟩) 1 sc, .int .i64 0] 31
  pool : PoolAt W L (PoolS.new 20)
  clock : ClockAt W K ⟨1, List.replicate 2 0⟩
  only : Only [] w W
  low : w.heap.size ≤ su ∧ su < sb
  mid : ∀ k ∈ L.all, sb < k ∧ k < K.lb
  high : K.lb < K.cb ∧ K.cb < nm
  lt : nm < W.heap.size
theorem Nb.step {w W W' : World} {sa sc su sb nm : Nat} {L : PoolL} {K : ClockL} {X : List Nat} (h : Nb w W sa sc su sb L K nm) (ho : Only X W W') (hx : ∀ k ∈ X, k = sb ∨ nm < k) : Nb w W' sa sc su sb L K nm := by
  have h1 := h.low
  have h2 := h.high
  have hno : ∀ k, (k ≠ sb ∧ k ≤ nm) → k ∉ X := fun k hk m => by rcases hx k m with e | e <;> omega
  have hm : ∀ k ∈ L.all, k ∉ X := fun k hk => by have := h.mid k hk; exact hno k (by omega)
  have hpb := h.mid L.pb (by simp [PoolL.all])
  refine ⟨h.st.only ho (hno _ (by omega)), h.pool.only ho hm, h.clock.only ho (hno _ (by omega)) (hno _ (by omega)), ?_, h.low, h.mid, h.high, Nat.lt_of_lt_of_le h.lt ho.size⟩
  refine ((h.only.mono (Y := X) (by simp)).trans ho).fresh (fun k hk hl => ?_)
  rcases hx k hk with e | e <;> omega
/-- behind the epoch and the trie. -/
def Nb7 (w : World) (sa sc su sb : Nat) (L : PoolL) (K : ClockL) (nm : Nat) (W : World) : Prop :=
  ∃ eb ts base, Nb w W sa sc su sb L K nm ∧ EpochAt W eb L.pb base none ⟨2, 1, 0, 0, []⟩ ∧ Blk W ts [.pointer (some ⟨L.pb, 0, none⟩)] 187 ∧ nm < eb ∧ nm < ts ∧ eb ≠ ts ∧
    Blk W sb [.pointer (some ⟨L.pb, 0, none⟩), .pointer (some ⟨K.cb, 0, none⟩), .pointer (some ⟨eb, 0, none⟩), .pointer none, .pointer (some ⟨nm, 0, none⟩), .pointer (some ⟨ts, 0, none⟩), .slice none 0 0] 94
theorem fin7 {w W4 W : World} {sa sc su sb nm eb ts base : Nat} {L : PoolL} {K : ClockL} (hn : Nb w W4 sa sc su sb L K nm) (ho : Only [] W4 W) (he : EpochAt W eb L.pb base none ⟨2, 1, 0, 0, []⟩) (ht : Blk W ts [.pointer (some ⟨L.pb, 0, none⟩)] 187) (h1 : nm < eb) (h2 : nm < ts) (h3 : eb ≠ ts) (hsn : sb < nm)
    (hs : Blk W4 sb [.pointer (some ⟨L.pb, 0, none⟩), .pointer (some ⟨K.cb, 0, none⟩), .pointer none, .pointer none, .pointer (some ⟨nm, 0, none⟩), .pointer none, .slice none 0 0] 94) :
    Nb7 w sa sc su sb L K nm ((W.setCell ⟨sb, 2, none⟩ (.pointer (some ⟨eb, 0, none⟩))).setCell ⟨sb, 5, none⟩ (.pointer (some ⟨ts, 0, none⟩))) := by
  have ho2 : Only [sb] W ((W.setCell ⟨sb, 2, none⟩ (.pointer (some ⟨eb, 0, none⟩))).setCell ⟨sb, 5, none⟩ (.pointer (some ⟨ts, 0, none⟩))) := ((Only.refl _ _).setCell (.inl (by simp)) _).setCell (.inl (by simp)) _
  exact ⟨eb, ts, base, (hn.step ho (by simp)).step ho2 (fun k hk => by simp at hk; exact .inl hk), he.only ho2 (by simp; omega) (by simp), ht.only ho2 (by simp; omega), h1, h2, h3, ((hs.only ho (by simp)).set 2 _).set 5 _⟩
theorem keep_sb {W : World} {sb su : Nat} {a b : Option Value} (g0 : W.cell? ⟨sb, 0, none⟩ = a) (g1 : W.cell? ⟨su, 1, none⟩ = b) (hne : ¬ su = sb) (i : Nat) (hi : i ≠ 0) (v : Value) :
    (W.setCell ⟨sb, i, none⟩ v).cell? ⟨sb, 0, none⟩ = a ∧ (W.setCell ⟨sb, i, none⟩ v).cell? ⟨su, 1, none⟩ = b :=
  ⟨(World.cell?_setCell_other W ⟨sb, i, none⟩ ⟨sb, 0, none⟩ v (by simp [hi])).trans g0, (World.cell?_setCell_other W ⟨sb, i, none⟩ ⟨su, 1, none⟩ v (by simp [Ne.symm hne])).trans g1⟩
/-- what a round of the last loop reads. -/
abbrev S17 (sb su g7 j pb eb ld xb : Nat) (W : World) : Prop :=
  W.cell? ⟨sb, 0, none⟩ = some (.pointer (some ⟨pb, 0, none⟩)) ∧ W.cell? ⟨sb, 2, none⟩ = some (.pointer (some ⟨eb, 0, none⟩)) ∧ W.cell? ⟨sb, 3, none⟩ = some (.pointer (some ⟨ld, 0, none⟩)) ∧ W.cell? ⟨su, 0, none⟩ = some (.int .i64 2) ∧ W.cell? ⟨g7, j, none⟩ = some (.pointer (some ⟨xb, 0, none⟩))
theorem s17_only {sb su g7 j pb eb ld xb : Nat} {W W' : World} {Z : List Nat} (h : S17 sb su g7 j pb eb ld xb W) (ho : Only Z W W') (h1 : sb ∉ Z) (h2 : su ∉ Z) (h3 : g7 ∉ Z) : S17 sb su g7 j pb eb ld xb W' :=
  ⟨cell_only ho h.1 h1, cell_only ho h.2.1 h1, cell_only ho h.2.2.1 h1, cell_only ho h.2.2.2.1 h2, cell_only ho h.2.2.2.2 h3⟩
theorem s17_far {sb su g7 j pb eb ld xb : Nat} {W W' : World} {row : Option Nat} (h : S17 sb su g7 j pb eb ld xb W) (hg : W.grownBy W' row) (h1 : row ≠ some sb) (h2 : row ≠ some su) (h3 : row ≠ some g7) : S17 sb su g7 j pb eb ld xb W' :=
  ⟨cell_far5 h.1 hg h1, cell_far5 h.2.1 hg h1, cell_far5 h.2.2.1 hg h1, cell_far5 h.2.2.2.1 hg h2, cell_far5 h.2.2.2.2 hg h3⟩
theorem s17_set {sb su g7 j pb eb ld xb : Nat} {W : World} (h : S17 sb su g7 j pb eb ld xb W) (h2 : su ≠ sb) (h3 : g7 ≠ sb) (v : Value) : S17 sb su g7 j pb eb ld xb (W.setCell ⟨sb, 6, none⟩ v) :=
  ⟨(World.cell?_setCell_other W ⟨sb, 6, none⟩ ⟨sb, 0, none⟩ v (by simp)).trans h.1, (World.cell?_setCell_other W ⟨sb, 6, none⟩ ⟨sb, 2, none⟩ v (by simp)).trans h.2.1, (World.cell?_setCell_other W ⟨sb, 6, none⟩ ⟨sb, 3, none⟩ v (by simp)).trans h.2.2.1,
    (World.cell?_setCell_other W ⟨sb, 6, none⟩ ⟨su, 0, none⟩ v (fun e => h2 (by injection e with e; exact e.symm))).trans h.2.2.2.1, (World.cell?_setCell_other W ⟨sb, 6, none⟩ ⟨g7, j, none⟩ v (fun e => h3 (by injection e with e; exact e.symm))).trans h.2.2.2.2⟩
set_option maxRecDepth 100000 in
set_option maxHeartbeats 3200000 in
theorem storeNew_any (w : World) (sa sc : Nat) (k v : Int) (hk0 : w.cell? ⟨sa, 0, none⟩ = some (.int .i64 k)) (hk1 : w.cell? ⟨sa, 1, none⟩ = some (.int .i64 v)) (hk : keyB k = true) (hp : partOf k 2 = 0) :
    Calls Tryz.prog 10 #[.agg #[.int .i64 2, .int .i64 2, .int .i64 20, .int .i64 2, .slice (some ⟨sa, 0, none⟩) 1 sc, .int .i64 0]] w fun e w' =>
      ∃ Y, e = .returned (.tuple #[ptr Y.sb, .int .i64 0]) ∧ StoreIn w' Y none (fun _ => []) (StoreS.new 2 2 20 2 [(k, v)] 0) ∧ w.heap.size ≤ Y.base ∧ Only [] w w' ∧ ∀ k, k < w.heap.size → Y.col k = 0 := by
  obtain ⟨wa, hwa⟩ : ∃ wa, w.alloc (.cells #[.int .i64 2, .int .i64 2, .int .i64 20, .int .i64 2, .slice (some ⟨sa, 0, none⟩) 1 sc, .int .i64 0] 31) = wa := ⟨_, rfl⟩
  have hoa : Only [] w wa := by rw [← hwa]; exact (Only.refl _ _).alloc _
  have hsu : Blk wa w.heap.size [.int .i64 2, .int .i64 2, .int .i64 20, .int .i64 2, .slice (some ⟨sa, 0, none⟩) 1 sc, .int .i64 0] 31 := by rw [← hwa]; exact Blk.new w _ 31
  have q0 := cell_only hoa hk0 (by simp)
  have q1 := cell_only hoa hk1 (by simp)
  have hr := right_any wa sa sc k v q0 q1 hk
  have u0 := hsu.cell (i := 0) rfl
  have u1 := hsu.cell (i := 1) rfl
  have u2 := hsu.cell (i := 2) rfl
  have u3 := hsu.cell (i := 3) rfl
  have u4 := hsu.cell (i := 4) rfl
  have u5 := hsu.cell (i := 5) rfl
  have HR := Lib.hid hr; have HOA := Lib.hid hoa; have HSU := Lib.hid hsu; have HK := Lib.hid hk; have HP := Lib.hid hp; have HK0 := Lib.hid hk0; have HK1 := Lib.hid hk1
  unfold ptr at *
  clear hr hoa hsu hk hp hk0 hk1 q0 q1
  go_enter Tryz.func10, Tryz.ntmps10
  go_wp2_with (go_at_call 38; refine HR.out.mono ?_; rintro e w1 ⟨rfl, ho1⟩; have HO1 := Lib.hid ho1; have hsu1 := (HSU.out.only ho1 (by simp)).alloc (.cells #[.pointer none, .pointer none, .pointer none, .pointer none, .pointer none, .pointer none, .slice none 0 0] 94); have x2 := hsu1.cell (i := 2) rfl; clear ho1 hsu1)
  obtain ⟨W1, hW1⟩ : ∃ W1, w1.alloc (.cells #[.pointer none, .pointer none, .pointer none, .pointer none, .pointer none, .pointer none, .slice none 0 0] 94) = W1 := ⟨_, rfl⟩
  rw [hW1]
  have ho1 : Only [] w W1 := by rw [← hW1]; exact (HOA.out.trans HO1.out).alloc _
  have hsb1 : Blk W1 w1.heap.size [.pointer none, .pointer none, .pointer none, .pointer none, .pointer none, .pointer none, .slice none 0 0] 94 := by rw [← hW1]; exact Blk.new w1 _ 94
  have hsu1 : Blk W1 w.heap.size [.int .i64 2, .int .i64 2, .int .i64 20, .int .i64 2, .slice (some ⟨sa, 0, none⟩) 1 sc, .int .i64 0] 31 := by rw [← hW1]; exact (HSU.out.only HO1.out (by simp)).alloc _
  have hlt1 : w.heap.size < w1.heap.size := Nat.lt_of_lt_of_le HSU.out.lt HO1.out.size
  have hslt := hsb1.lt
  clear hW1 u0 u1 u2 u3 u4 u5 x2
  generalize w1.heap.size = sb at *
  have hpn := poolNew_any W1 20 (by omega)
  rw [show ((20 : Nat) : Int) = 20 from rfl] at hpn
  have HPN := Lib.hid hpn
  have HO2 := Lib.hid ho1; have HSB1 := Lib.hid hsb1; have HSU1 := Lib.hid hsu1
  unfold ptr at HPN
  clear hpn ho1 hsb1 hsu1
  go_wp2_with (go_at_call 39; refine HPN.out.mono ?_; rintro e w2 ⟨L, rfl, hp2, ho2, hl2⟩; have HP2 := Lib.hid hp2; have HO3 := Lib.hid ho2; have HL2 := Lib.hid hl2; have hsb2 := HSB1.out.only ho2 (by simp); have s0 := hsb2.cell (i := 0) rfl; have sf := hsb2.frozen; have hsu2 := HSU1.out.only ho2 (by simp); have hne : ¬ w.heap.size = sb := (by omega); have x3 := (hsu2.other hne 0 (.pointer (some ⟨L.pb, 0, none⟩))).cell (i := 3) rfl; clear hp2 ho2 hl2 hsb2 hsu2)
  obtain ⟨W2, hW2⟩ : ∃ W2, w2.setCell ⟨sb, 0, none⟩ (.pointer (some ⟨L.pb, 0, none⟩)) = W2 := ⟨_, rfl⟩
  rw [hW2]
  have ho2 : Only [sb] w2 W2 := by rw [← hW2]; exact (Only.refl _ _).setCell (.inl (by simp)) _
  have hlp : ∀ k ∈ L.all, sb < k ∧ k < W2.heap.size := fun k hk => ⟨by have := HL2.out k hk; omega, Nat.lt_of_lt_of_le (HP2.out.lt k hk) ho2.size⟩
  have hp2 : PoolAt W2 L (PoolS.new 20) := HP2.out.only ho2 (fun k hk e => by have := (hlp k hk).1; simp at e; omega)
  have hsb2 : Blk W2 sb [.pointer (some ⟨L.pb, 0, none⟩), .pointer none, .pointer none, .pointer none, .pointer none, .pointer none, .slice none 0 0] 94 := by rw [← hW2]; exact (HSB1.out.only HO3.out (by simp)).set 0 _
  have hsu2 : Blk W2 w.heap.size [.int .i64 2, .int .i64 2, .int .i64 20, .int .i64 2, .slice (some ⟨sa, 0, none⟩) 1 sc, .int .i64 0] 31 := by rw [← hW2]; exact (HSU1.out.only HO3.out (by simp)).other (by omega) _ _
  have hoo : Only [] w W2 := (((HO2.out.trans HO3.out).mono (Y := [sb]) (by simp)).trans ho2).fresh (fun k hk hl => by simp at hk; omega)
  have hcn := clockNew_any W2 2 (by omega)
  rw [show ((2 : Nat) : Int) = 2 from rfl] at hcn
  have HCN := Lib.hid hcn; have HLP := Lib.hid hlp; have HP3 := Lib.hid hp2; have HSB2 := Lib.hid hsb2; have HSU2 := Lib.hid hsu2; have HO4 := Lib.hid hoo
  unfold ptr at HCN
  clear hW2 ho2 hlp hp2 hsb2 hsu2 hoo hcn s0 sf x3
  go_wp2_with (go_at_call 40; refine HCN.out.mono ?_; rintro e w3 ⟨rfl, hp3, ho3⟩; have HC3 := Lib.hid hp3; have HO5 := Lib.hid ho3; have hsb3 := HSB2.out.only ho3 (by simp); have s0 := hsb3.cell (i := 1) rfl; have sf := hsb3.frozen; clear hp3 ho3 hsb3)
  obtain ⟨K, hK⟩ : ∃ K : ClockL, K = ⟨W2.heap.size + 1, W2.heap.size⟩ := ⟨_, rfl⟩
  obtain ⟨W3, hW3⟩ : ∃ W3, w3.setCell ⟨sb, 1, none⟩ (.pointer (some ⟨W2.heap.size + 1, 0, none⟩)) = W3 := ⟨_, rfl⟩
  rw [hW3]
  have ho3 : Only [sb] w3 W3 := by rw [← hW3]; exact (Only.refl _ _).setCell (.inl (by simp)) _
  have hsbl : sb < W2.heap.size := HSB2.out.lt
  have hc3 : ClockAt W3 K ⟨1, List.replicate 2 0⟩ := by rw [hK]; exact HC3.out.only ho3 (by simp; omega) (by simp; omega)
  have hp3 : PoolAt W3 L (PoolS.new 20) := (HP3.out.only HO5.out (by simp)).only ho3 (fun k hk e => by have := (HLP.out k hk).1; simp at e; omega)
  have hsb3 : Blk W3 sb [.pointer (some ⟨L.pb, 0, none⟩), .pointer (some ⟨K.cb, 0, none⟩), .pointer none, .pointer none, .pointer none, .pointer none, .slice none 0 0] 94 := by rw [← hW3, hK]; exact (HSB2.out.only HO5.out (by simp)).set 1 _
  have hsu3 : Blk W3 w.heap.size [.int .i64 2, .int .i64 2, .int .i64 20, .int .i64 2, .slice (some ⟨sa, 0, none⟩) 1 sc, .int .i64 0] 31 := by rw [← hW3]; exact (HSU2.out.only HO5.out (by simp)).other (by omega) _ _
  have hoo : Only [] w W3 := (((HO4.out.trans HO5.out).mono (Y := [sb]) (by simp)).trans ho3).fresh (fun k hk hl => by simp at hk; omega)
  have hk1 : K.lb < K.cb := by rw [hK]; simp
  have hk2 : K.cb < W3.heap.size := by have := hc3.c.lt; exact this
  have hk3 : ∀ k ∈ L.all, sb < k ∧ k < K.lb := by rw [hK]; exact HLP.out
  have hbn := boardNew_any W3
  have HBN := Lib.hid hbn; have HK3 := Lib.hid hk3; have HC4 := Lib.hid hc3; have HP4 := Lib.hid hp3; have HSB3 := Lib.hid hsb3; have HSU3 := Lib.hid hsu3; have HO6 := Lib.hid hoo
  unfold ptr at HBN
  clear hW3 hK ho3 hc3 hp3 hsb3 hsu3 hoo hk3 hbn s0 sf
  go_wp2_with (go_at_call 41; refine HBN.out.mono ?_; rintro e w4 ⟨nm, nt, rfl, hb1, hb2, hb3, hb4, hb5, ho4⟩; have HB1 := Lib.hid hb1; have HB2 := Lib.hid hb2; have HB5 := Lib.hid hb5; have HO7 := Lib.hid ho4; have hsb4 := HSB3.out.only ho4 (by simp); have s0 := hsb4.cell (i := 4) rfl; have sf := hsb4.frozen; clear hb1 hb2 hb3 hb4 hb5 ho4 hsb4)
  obtain ⟨W4, hW4⟩ : ∃ W4, w4.setCell ⟨sb, 4, none⟩ (.pointer (some ⟨nm, 0, none⟩)) = W4 := ⟨_, rfl⟩
  rw [hW4]
  have ho4 : Only [sb] w4 W4 := by rw [← hW4]; exact (Only.refl _ _).setCell (.inl (by simp)) _
  have hsk : sb < K.lb := by have := HK3.out L.pb (by simp [PoolL.all]); omega
  have hnm : K.cb < nm := by have := HB2.out; omega
  have hnb : Nb w W4 sa sc w.heap.size sb L K nm := by
    have hsb' : nm ≠ sb := by omega
    have ho5 : Only [sb] W3 W4 := (HO7.out.mono (by simp)).trans ho4
    refine ⟨HSU3.out.only ho5 (by simp; omega), HP4.out.only ho5 (fun k hk e => by have := (HK3.out k hk).1; simp at e; omega), HC4.out.only ho5 (by simp; omega) (by simp; omega), ((HO6.out.mono (Y := [sb]) (by simp)).trans ho5).fresh (fun k hk hl => by simp at hk; omega), ⟨Nat.le_refl _, hlt1⟩, HK3.out, ⟨hk1, hnm⟩, Nat.lt_of_lt_of_le HB5.out.lt ho4.size⟩
  have hsb4 : Blk W4 sb [.pointer (some ⟨L.pb, 0, none⟩), .pointer (some ⟨K.cb, 0, none⟩), .pointer none, .pointer none, .pointer (some ⟨nm, 0, none⟩), .pointer none, .slice none 0 0] 94 := by rw [← hW4]; exact (HSB3.out.only HO7.out (by simp)).set 4 _
  have hen := fun W => epochNew_any W L.pb 2 (by omega)
  rw [show ((2 : Nat) : Int) = 2 from rfl] at hen
  have htr := fun W => trieNew_any W L.pb
  have hsn : sb < nm := by omega
  have d0 := hsb4.cell (i := 0) rfl
  have d2 := hsb4.cell (i := 2) rfl
  have d5 := hsb4.cell (i := 5) rfl
  have df := hsb4.frozen
  have e1 := hnb.st.cell (i := 1) rfl
  have hnl := hnb.lt
  have HEN := Lib.hid hen; have HTR := Lib.hid htr; have HNB := Lib.hid hnb; have HSB4 := Lib.hid hsb4
  unfold ptr at HEN HTR
  clear hW4 ho4 hen htr hnb hsb4 s0 sf hk1 hk2
  go_cut [] (fun wx => Nb7 w sa sc w.heap.size sb L K nm wx)
  case first =>
    have hne : ¬ w.heap.size = sb := by omega
    go_region_held3 (fun W => W.cell? ⟨sb, 0, none⟩ = some (.pointer (some ⟨L.pb, 0, none⟩)) ∧ W.cell? ⟨w.heap.size, 1, none⟩ = some (.int .i64 2))
      (first | with_reducible exact ⟨cell_only hx5 d0 (by simp), cell_only hx5 e1 (by simp)⟩ | with_reducible exact ⟨cell_only hx6 d0 (by simp), cell_only hx6 e1 (by simp)⟩ | with_reducible exact keep_sb g0 g1 hne _ (by decide) _ | with_reducible exact keep_sb (keep_sb g0 g1 hne _ (by decide) _).1 (keep_sb g0 g1 hne _ (by decide) _).2 hne _ (by decide) _ | (go_keep; done))
      (first | (go_simp; go_at_call 42; refine (HEN.out _).mono ?_; rintro e w5 ⟨rfl, he5, ho5⟩; have HE5 := Lib.hid he5; have HO51 := Lib.hid ho5; have hx5 : Only [] W4 w5 := ⟨ho5.os, ho5.tape, ho5.output, ho5.size, ho5.block⟩; have HX5 := Lib.hid hx5; have g0 := cell_only hx5 d0 (by simp); have g1 := cell_only hx5 e1 (by simp); have g2 := cell_only hx5 d2 (by simp); have g5 := cell_only hx5 d5 (by simp); have gf := (HSB4.out.only hx5 (by simp)).frozen; clear he5 ho5) | (go_simp; go_at_call 42; refine (HEN.out _).mono ?_; rintro e w5 ⟨rfl, he5, ho5⟩; have HE5 := Lib.hid he5; have HO51 := Lib.hid ho5; have hx5 : Only [] W4 w5 := HX6.out.trans ho5; have HX5 := Lib.hid hx5; have g0 := cell_only hx5 d0 (by simp); have g1 := cell_only hx5 e1 (by simp); have g2 := cell_only hx5 d2 (by simp); have g5 := cell_only hx5 d5 (by simp); have gf := (HSB4.out.only hx5 (by simp)).frozen; clear he5 ho5) | (go_simp; go_at_call 43; refine (HTR.out _).mono ?_; rintro e w6 ⟨ts, rfl, ht6, hl6, ho6⟩; have HT6 := Lib.hid ht6; have HL6 := Lib.hid hl6; have HO61 := Lib.hid ho6; have hx6 : Only [] W4 w6 := ⟨ho6.os, ho6.tape, ho6.output, ho6.size, ho6.block⟩; have HX6 := Lib.hid hx6; have g0 := cell_only hx6 d0 (by simp); have g1 := cell_only hx6 e1 (by simp); have g2 := cell_only hx6 d2 (by simp); have g5 := cell_only hx6 d5 (by simp); have gf := (HSB4.out.only hx6 (by simp)).frozen; clear ht6 hl6 ho6) | (go_simp; go_at_call 43; refine (HTR.out _).mono ?_; rintro e w6 ⟨ts, rfl, ht6, hl6, ho6⟩; have HT6 := Lib.hid ht6; have HL6 := Lib.hid hl6; have HO61 := Lib.hid ho6; have hx6 : Only [] W4 w6 := HX5.out.trans ho6; have HX6 := Lib.hid hx6; have g0 := cell_only hx6 d0 (by simp); have g1 := cell_only hx6 e1 (by simp); have g2 := cell_only hx6 d2 (by simp); have g5 := cell_only hx6 d5 (by simp); have gf := (HSB4.out.only hx6 (by simp)).frozen; clear ht6 hl6 ho6))
    go_wp2_with fail
    go_meet
    have hw5 : W4.heap.size ≤ w5.heap.size := HX5.out.size
    have hl6 := HL6.out
    have hel : W4.heap.size < w5.heap.size := HE5.out.ex.elim fun lv h => h.1.lt
    exact fin7 HNB.out hx6 (HE5.out.only HO61.out (by simp) (by simp)) HT6.out hnl (by omega) (by change W4.heap.size ≠ ts; omega) hsn HSB4.out
  case rest =>
    obtain ⟨eb, ts, be, hn, he, ht, h1, h2, h3, hs⟩ := hcut
    have u0 := hn.st.cell (i := 0) rfl
    have d0 := hs.cell (i := 0) rfl
    have d1 := hs.cell (i := 1) rfl
    have hch := fun W (ho : Only [] wc W) => chainNew_any W L (PoolS.new 20) K.cb (hn.pool.only ho (by simp)) (by decide)
    have hls : (PoolS.new 20).slots.length = 21 := by decide
    unfold NewChain at hch
    rw [hls] at hch
    have HCH := Lib.hid hch; have HN := Lib.hid hn; have HE := Lib.hid he; have HT := Lib.hid ht; have HS := Lib.hid hs
    have HM1 := Lib.hid (show 0 + 1 ≤ maxLen from by unfold maxLen; omega)
    have HM2 := Lib.hid (show (0 + 1) * 8 ≤ 140737488355328 from by omega)
    have HM3 := Lib.hid (show 1 + 1 ≤ maxLen from by unfold maxLen; omega)
    have HM4 := Lib.hid (show (1 + 1) * 8 ≤ 140737488355328 from by omega)
    unfold ptr at HCH
    clear hch hn he ht hs hls d2 d5 df e1
    go_wp2_with fail
    refine wp_loop_rounds 3 ?_
    rw [rounds_succ]
    go_wp2_with fail
    have d0a := Lib.hid d0; have d1a := Lib.hid d1
    go_region_held3 (fun W => W.cell? ⟨sb, 0, none⟩ = some (.pointer (some ⟨L.pb, 0, none⟩)) ∧ W.cell? ⟨sb, 1, none⟩ = some (.pointer (some ⟨K.cb, 0, none⟩)))
      (first | with_reducible exact ⟨cell_only hx5 d0 (by simp), cell_only hx5 d1 (by simp)⟩ | with_reducible exact ⟨cell_only (hx5.alloc _) d0 (by simp), cell_only (hx5.alloc _) d1 (by simp)⟩ | with_reducible exact ⟨y1, y2⟩ | (go_keep; done))
      (first | (go_simp; go_at_call 44; refine (HCH.out _ ((Only.refl [] wc).drew')).mono ?_; rintro e w5 ⟨X0, b0, rfl, hx0, hx1, hx2, ho5⟩; have HX0 := Lib.hid hx0; have HX1 := Lib.hid hx1; have HX2 := Lib.hid hx2; have hx5 : Only [] wc w5 := ⟨ho5.os, ho5.tape, ho5.output, ho5.size, ho5.block⟩; have HX5 := Lib.hid hx5; have HRN := Lib.hid (row_new w5 [.pointer (some ⟨X0.xb, 0, none⟩)] 104); have HBS := Lib.hid (show w.heap.size ≤ (w5.alloc (.cells #[.pointer (some ⟨X0.xb, 0, none⟩)] 104)).heap.size from Nat.le_trans HN.out.only.size (Nat.le_trans hx5.size (size_alloc_le _ _))); clear hx0 hx1 hx2 ho5) | (refine step_append_is rfl (.tmp 64) (.tmp 76) rfl elemCh rfl (World.ownsRow_nil _ w.heap.size 104 1) _ 1 _ [.pointer (some ⟨X0.xb, 0, none⟩)] rfl HRN.out rfl (by simp [Value.oneCell']) HM1.out HM2.out HBS.out (fun e => by cases e) ?_; intro v5 w6 hown5 hg5 hat5; obtain ⟨g5, c5, rfl⟩ := own_some hown5 (by omega); have hg5' : World.grownBy (w5.alloc (.cells #[.pointer (some ⟨X0.xb, 0, none⟩)] 104)) w6 none := hg5; have y1 := cell_far5 (cell_only (HX5.out.alloc _) d0a.out (by simp)) hg5' (by simp); have y2 := cell_far5 (cell_only (HX5.out.alloc _) d1a.out (by simp)) hg5' (by simp); have HOWN6 := Lib.hid hown5; have HG5 := Lib.hid hg5'; have HAT5 := Lib.hid (show some g5 = none ∨ some g5 = some (w5.alloc (.cells #[.pointer (some ⟨X0.xb, 0, none⟩)] 104)).heap.size from hat5); clear hown5 hg5 hg5' hat5))
    have hsl := HN.out.lt
    have ho6 : Only [] wc w6 := (HX5.out.alloc _).grown HG5.out (fun k hk => by cases hk)
    have hg5l : nm < g5 := by
      rcases HAT5.out with e | e
      · cases e
      · injection e with e
        rw [e]
        exact Nat.lt_of_lt_of_le hsl (Nat.le_trans HX5.out.size (size_alloc_le _ _))
    have hch := fun W (ho : Only [] w6 W) => HCH.out W (ho6.trans ho)
    have HCH2 := Lib.hid hch
    have HOWN7 := Lib.hid (show w6.ownsRow w.heap.size 104 1 (.slice (some ⟨g5, 0, none⟩) 1 c5) 1 [.pointer (some ⟨X0.xb, 0, none⟩)] from HOWN6.out)
    have hgsb : ¬ g5 = sb := by omega
    have HGS := Lib.hid (show some g5 ≠ some sb from fun e => by injection e with e; omega)
    have HO6 := Lib.hid ho6
    have HX06 := Lib.hid (show ChainAt w6 X0 L.pb K.cb b0 [] ⟨0, List.replicate 21 (0, [])⟩ from (HX2.out.below ((Only.refl _ _).alloc _)).below ((Only.refl _ _).grown HG5.out (fun k hk => by cases hk)))
    have HBS6 := Lib.hid (show w.heap.size ≤ w6.heap.size from Nat.le_trans HN.out.only.size ho6.size)
    have y1a := Lib.hid y1; have y2a := Lib.hid y2
    have u0a := cell_only ho6 u0 (by simp)
    clear hch ho6 d0 d1 hx5 u0
    go_wp2_with fail
    rw [rounds_succ]
    go_wp2_with fail
    go_region_held3 (fun W => W.cell? ⟨sb, 0, none⟩ = some (.pointer (some ⟨L.pb, 0, none⟩)) ∧ W.cell? ⟨sb, 1, none⟩ = some (.pointer (some ⟨K.cb, 0, none⟩)))
      (first | with_reducible exact ⟨cell_only hx7 y1 (by simp), cell_only hx7 y2 (by simp)⟩ | with_reducible exact ⟨cell_only (hx7.alloc _) y1 (by simp), cell_only (hx7.alloc _) y2 (by simp)⟩ | with_reducible exact ⟨z1, z2⟩ | (go_keep; done))
      (first | (go_simp; go_at_call 44; refine (HCH2.out _ ((Only.refl [] w6).drew')).mono ?_; rintro e w7 ⟨X1, b1, rfl, hx0, hx1, hx2, ho5⟩; have HX10 := Lib.hid hx0; have HX11 := Lib.hid hx1; have HX12 := Lib.hid hx2; have hx7 : Only [] w6 w7 := ⟨ho5.os, ho5.tape, ho5.output, ho5.size, ho5.block⟩; have HX7 := Lib.hid hx7; have HRN1 := Lib.hid (row_new w7 [.pointer (some ⟨X1.xb, 0, none⟩)] 104); have HBS1 := Lib.hid (show w.heap.size ≤ (w7.alloc (.cells #[.pointer (some ⟨X1.xb, 0, none⟩)] 104)).heap.size from Nat.le_trans HBS6.out (Nat.le_trans hx7.size (size_alloc_le _ _))); have HOWN8 := Lib.hid ((own_only HOWN7.out hx7 (fun k hk => by simp)).alloc (.cells #[.pointer (some ⟨X1.xb, 0, none⟩)] 104)); clear hx0 hx1 hx2 ho5) | (refine step_append_is rfl (.tmp 64) (.tmp 76) rfl elemCh rfl HOWN8.out _ 1 _ [.pointer (some ⟨X1.xb, 0, none⟩)] rfl HRN1.out rfl (by simp [Value.oneCell']) HM3.out HM4.out HBS1.out (fun e => by cases e) ?_; intro v5 w8 hown5 hg5 hat5; obtain ⟨g7, c7, rfl⟩ := own_some hown5 (by omega); have hg5' : World.grownBy (w7.alloc (.cells #[.pointer (some ⟨X1.xb, 0, none⟩)] 104)) w8 (some g5) := hg5; have z1 := cell_far5 (cell_only (HX7.out.alloc _) y1a.out (by simp)) hg5' HGS.out; have z2 := cell_far5 (cell_only (HX7.out.alloc _) y2a.out (by simp)) hg5' HGS.out; have HOWN9 := Lib.hid hown5; have HG7 := Lib.hid hg5'; have HAT7 := Lib.hid (show some g7 = some g5 ∨ some g7 = some (w7.alloc (.cells #[.pointer (some ⟨X1.xb, 0, none⟩)] 104)).heap.size from hat5); clear hown5 hg5 hg5' hat5))
    have hx0l : X0.xb < w5.heap.size ∧ X0.sb < w5.heap.size := ⟨Nat.lt_of_lt_of_le HX2.out.lt.1 HX2.out.room, Nat.lt_of_lt_of_le HX2.out.lt.2 HX2.out.room⟩
    have hx1l : X1.xb < w7.heap.size ∧ X1.sb < w7.heap.size := ⟨Nat.lt_of_lt_of_le HX12.out.lt.1 HX12.out.room, Nat.lt_of_lt_of_le HX12.out.lt.2 HX12.out.room⟩
    have hg5b : w5.heap.size < g5 := by
      rcases HAT5.out with e | e
      · cases e
      · injection e with e
        simp at e
        omega
    have hx0g : wc.heap.size ≤ X0.xb ∧ wc.heap.size ≤ X0.sb := ⟨HX0.out, HX1.out⟩
    have hx1g : w6.heap.size ≤ X1.xb ∧ w6.heap.size ≤ X1.sb := ⟨HX10.out, HX11.out⟩
    have hg5w : g5 < w6.heap.size := (HOWN6.out.lt g5 rfl).2
    have hw78 : w7.heap.size ≤ w8.heap.size := Nat.le_trans (size_alloc_le _ _) HG7.out.size
    have ho8 : Only [g5] w6 w8 := ((HX7.out.alloc _).mono (Y := [g5]) (by simp)).grown HG7.out (fun k hk => by cases hk; exact .inr (by simp))
    have hoc8 : Only [] wc w8 := ((HO6.out.mono (Y := [g5]) (by simp)).trans ho8).fresh (fun k hk hl => by simp at hk; have := HX5.out.size; omega)
    have hn8 := HN.out.step hoc8 (by simp)
    have he8 := HE.out.only hoc8 (by simp) (by simp)
    have ht8 := HT.out.only hoc8 (by simp)
    have hs8 := HS.out.only hoc8 (by simp)
    have hx08 := HX06.out.only ho8 (by simp; omega) (by simp; omega) (by simp)
    have hx18 : ChainAt w8 X1 L.pb K.cb b1 [] ⟨0, List.replicate 21 (0, [])⟩ := (HX12.out.below ((Only.refl _ _).alloc (.cells #[.pointer (some ⟨X1.xb, 0, none⟩)] 104))).only (Y := [g5]) ((Only.refl _ _).grown HG7.out (fun k hk => by cases hk; exact .inr (by simp))) (by simp; omega) (by simp; omega) (by simp)
    have r0 := own_cell HOWN9.out (j := 0) rfl
    have r1 := own_cell HOWN9.out (j := 1) rfl
    have k0 := cell_only hn8.only HK0.out (by simp)
    have k1 := cell_only hn8.only HK1.out (by simp)
    have hln := fun W (ho : Only [] w8 W) => loadNew_any W L.pb X0.xb X1.xb g7 c7 sa sc k v (cell_only ho r0 (by simp)) (cell_only ho r1 (by simp)) (cell_only ho k0 (by simp)) (cell_only ho k1 (by simp)) HK.out HP.out
    have v4 := hn8.st.cell (i := 4) rfl
    have v5 := hn8.st.cell (i := 5) rfl
    have s3 := hs8.cell (i := 3) rfl
    have hg7l : g7 < w8.heap.size := (HOWN9.out.lt g7 rfl).2
    have hw56 : w5.heap.size ≤ w6.heap.size := Nat.le_trans (size_alloc_le _ _) HG5.out.size
    have ht1 : eb < wc.heap.size ∧ ts < wc.heap.size := ⟨HE.out.ex.elim fun lv h => h.1.lt, HT.out.lt⟩
    have HLN := Lib.hid hln; have HN8 := Lib.hid hn8; have HE8 := Lib.hid he8; have HT8 := Lib.hid ht8; have HS8 := Lib.hid hs8; have HX08 := Lib.hid hx08; have HX18 := Lib.hid hx18; have HR0 := Lib.hid r0; have HR1 := Lib.hid r1
    unfold ptr at HLN
    have hne : ¬ w.heap.size = sb := by omega
    clear hln hn8 he8 ht8 hs8 hx08 hx18 r0 r1 k0 k1 ho8 hoc8 y1 y2 u0a hx7
    go_wp2_with fail
    rw [rounds_succ]
    go_wp2_with fail
    go_region_held3 (fun W => W.cell? ⟨sb, 0, none⟩ = some (.pointer (some ⟨L.pb, 0, none⟩)) ∧ W.cell? ⟨w.heap.size, 4, none⟩ = some (.slice (some ⟨sa, 0, none⟩) 1 sc) ∧ W.cell? ⟨w.heap.size, 5, none⟩ = some (.int .i64 0))
      (first | with_reducible exact ⟨f0, f4, f5⟩ | with_reducible exact ⟨(World.cell?_setCell_other w9 ⟨sb, 3, none⟩ ⟨sb, 0, none⟩ _ (by simp)).trans f0, (World.cell?_setCell_other w9 ⟨sb, 3, none⟩ ⟨w.heap.size, 4, none⟩ _ (by simp)).trans f4, (World.cell?_setCell_other w9 ⟨sb, 3, none⟩ ⟨w.heap.size, 5, none⟩ _ (by simp)).trans f5⟩ | (go_keep; done))
      ((go_simp; go_at_call 45; refine (HLN.out _ ((Only.refl [] w8).drew')).mono ?_; rintro e w9 ⟨ld, lt, lp0, lp1, lg, lc, lq, lqc, rfl, hb1, hb2, hb3, hb4, hb5, hb6, hb7, hb8, hb9, hb10, hb11, ho9'⟩; have ho9 : Only [] w8 w9 := ⟨ho9'.os, ho9'.tape, ho9'.output, ho9'.size, ho9'.block⟩; have f0 := cell_only ho9 z1 (by simp); have f4 := cell_only ho9 v4 (by simp); have f5 := cell_only ho9 v5 (by simp); have f3 := cell_only ho9 s3 (by simp); have ff := (HS8.out.only ho9 (by simp)).frozen; have HB1 := Lib.hid hb1; have HB2 := Lib.hid hb2; have HB3 := Lib.hid hb3; have HB4 := Lib.hid hb4; have HB5 := Lib.hid hb5; have HB6 := Lib.hid hb6; have HB7 := Lib.hid hb7; have HB8 := Lib.hid hb8; have HB9 := Lib.hid hb9; have HB10 := Lib.hid hb10; have HB11 := Lib.hid hb11; have HO9 := Lib.hid ho9; clear hb1 hb2 hb3 hb4 hb5 hb6 hb7 hb8 hb9 hb10 hb11 ho9'))
    obtain ⟨W9, hW9⟩ : ∃ W9, w9.setCell ⟨sb, 3, none⟩ (.pointer (some ⟨ld, 0, none⟩)) = W9 := ⟨_, rfl⟩
    rw [hW9]
    have hl9 : w8.heap.size ≤ ld ∧ w8.heap.size ≤ lt ∧ w8.heap.size ≤ lp0 ∧ w8.heap.size ≤ lp1 ∧ w8.heap.size ≤ lg ∧ w8.heap.size ≤ lq := HB9.out
    have hos9 : Only [sb] w9 W9 := by rw [← hW9]; exact (Only.refl _ _).setCell (.inl (by simp)) _
    have ho89 : Only [sb] w8 W9 := (HO9.out.mono (by simp)).trans hos9
    have hsz : nm < w8.heap.size := HN8.out.lt
    have hg7b : ¬ g7 = sb := by
      rcases HAT7.out with e | e
      · injection e with e; omega
      · injection e with e; simp at e; omega
    have hcl : wc.heap.size ≤ w8.heap.size := by have := HO6.out.size; have := HX7.out.size; omega
    have hn9 := HN8.out.step ho89 (by simp)
    have he9 := HE8.out.only ho89 (by simp; omega) (by simp)
    have ht9 := HT8.out.only ho89 (by simp; omega)
    have hs9 : Blk W9 sb [.pointer (some ⟨L.pb, 0, none⟩), .pointer (some ⟨K.cb, 0, none⟩), .pointer (some ⟨eb, 0, none⟩), .pointer (some ⟨ld, 0, none⟩), .pointer (some ⟨nm, 0, none⟩), .pointer (some ⟨ts, 0, none⟩), .slice none 0 0] 94 := by rw [← hW9]; exact (HS8.out.only HO9.out (by simp)).set 3 _
    have hx09 := HX08.out.only ho89 (by simp; omega) (by simp; omega) (by simp)
    have hx19 := HX18.out.only ho89 (by simp; omega) (by simp; omega) (by simp)
    have ha1 := HB1.out.only hos9 (by simp; omega)
    have ha2 := HB2.out.only hos9 (by simp; omega)
    have ha3 := HB3.out.only hos9 (by simp; omega)
    have ha4 := HB4.out.only hos9 (by simp; omega)
    have ha5 := cell_only hos9 HB5.out (by simp; omega)
    have ha6 := cell_only hos9 HB6.out (by simp; omega)
    have ha7 := cell_only hos9 HB7.out (by simp; omega)
    have ha8 := cell_only hos9 HB8.out (by simp; omega)
    have r0 := cell_only ho89 HR0.out (by simp; omega)
    have r1 := cell_only ho89 HR1.out (by simp; omega)
    have hS0 : S17 sb w.heap.size g7 0 L.pb eb ld X0.xb W9 := ⟨hs9.cell rfl, hs9.cell rfl, hs9.cell rfl, hn9.st.cell rfl, r0⟩
    have hS1 : S17 sb w.heap.size g7 1 L.pb eb ld X1.xb W9 := ⟨hs9.cell rfl, hs9.cell rfl, hs9.cell rfl, hn9.st.cell rfl, r1⟩
    have HN9 := Lib.hid hn9; have HE9 := Lib.hid he9; have HT9 := Lib.hid ht9; have HS9 := Lib.hid hs9; have HX09 := Lib.hid hx09; have HX19 := Lib.hid hx19; have HA1 := Lib.hid ha1; have HA2 := Lib.hid ha2; have HA3 := Lib.hid ha3; have HA4 := Lib.hid ha4; have HA5 := Lib.hid ha5; have HA6 := Lib.hid ha6; have HA7 := Lib.hid ha7; have HA8 := Lib.hid ha8
    have HS0 := Lib.hid hS0; have HS1 := Lib.hid hS1
    have d6 := hs9.cell (i := 6) rfl
    obtain ⟨s0, s2, s3, su0, sg0⟩ := hS0
    have hl79 : lp0 < W9.heap.size ∧ lp1 < W9.heap.size ∧ ld < W9.heap.size ∧ lt < W9.heap.size ∧ g7 < W9.heap.size ∧ sb < W9.heap.size ∧ w8.heap.size ≤ W9.heap.size := ⟨ha3.lt, ha4.lt, ha1.lt, ha2.lt, cell_lt r0, hs9.lt, ho89.size⟩
    obtain ⟨l9a, l9b, l9c, l9d, l9e, l9f, l9g⟩ := hl79
    have hpn := fun i xb W => partNew_any W i 2 L.pb eb xb ld
    have hpn0 := hpn 0 X0.xb
    have hpn1 := hpn 1 X1.xb
    rw [show ((0 : Nat) : Int) = 0 from rfl, show ((2 : Nat) : Int) = 2 from rfl] at hpn0
    rw [show ((1 : Nat) : Int) = 1 from rfl, show ((2 : Nat) : Int) = 2 from rfl] at hpn1
    have HPN0 := Lib.hid hpn0; have HPN1 := Lib.hid hpn1
    have HBW := Lib.hid (show w.heap.size ≤ W9.heap.size from hn9.only.size)
    unfold ptr at HPN0 HPN1
    clear hW9 hl9 hos9 ho89 hn9 he9 ht9 hs9 hx09 hx19 ha1 ha2 ha3 ha4 ha5 ha6 ha7 ha8 r0 r1 hS1 hpn hpn0 hpn1 z1 z2 v4 v5 ho9 f0 f4 f5 f3 ff
    go_wp2_with fail
    refine wp_loop_rounds 3 ?_
    rw [rounds_succ]
    go_upto_block 3 with fail
    have HSB0 := HS9
    have HBW0 := HBW
    go_cut [6, 96] (fun s6 s96 wx => s96 = .int .i64 0 ∧ (∃ pt0 pg0 gp cp : Nat, Only [sb] W9 wx ∧ Blk wx pt0 [.pointer (some ⟨X0.xb, 0, none⟩), .int .i64 0, .int .i64 2, .pointer (some ⟨L.pb, 0, none⟩), .pointer (some ⟨pg0, 0, none⟩), .pointer (some ⟨eb, 0, none⟩), .pointer (some ⟨ld, 0, none⟩)] 152 ∧ Blk wx pg0 [.pointer (some ⟨L.pb, 0, none⟩)] 187 ∧ (W9.heap.size ≤ pt0 ∧ W9.heap.size ≤ pg0 ∧ W9.heap.size ≤ gp ∧ pt0 ≠ pg0 ∧ gp ≠ pt0 ∧ gp ≠ pg0) ∧ wx.ownsRow w.heap.size 107 1 (.slice (some ⟨gp, 0, none⟩) 1 cp) 1 [.pointer (some ⟨pt0, 0, none⟩)] ∧ Blk wx sb [.pointer (some ⟨L.pb, 0, none⟩), .pointer (some ⟨K.cb, 0, none⟩), .pointer (some ⟨eb, 0, none⟩), .pointer (some ⟨ld, 0, none⟩), .pointer (some ⟨nm, 0, none⟩), .pointer (some ⟨ts, 0, none⟩), .slice (some ⟨gp, 0, none⟩) 1 cp] 94))
    case first =>
      go_wp2_with fail
      refine wp_region_held_drew (S := (fun W => W.cell? ⟨sb, 0, none⟩ = some (.pointer (some ⟨L.pb, 0, none⟩)) ∧ W.cell? ⟨sb, 2, none⟩ = some (.pointer (some ⟨eb, 0, none⟩)) ∧ W.cell? ⟨sb, 3, none⟩ = some (.pointer (some ⟨ld, 0, none⟩)) ∧ W.cell? ⟨w.heap.size, 0, none⟩ = some (.int .i64 2) ∧ W.cell? ⟨g7, 0, none⟩ = some (.pointer (some ⟨X0.xb, 0, none⟩)))) (by kernel_rfl) ?_ (fun hHeld => ?_)
      · (try dsimp only); first | with_reducible exact m10 | with_reducible exact s17_only m10 ((Only.refl [] _).alloc _) (by simp) (by simp) (by simp) | with_reducible exact m11 | with_reducible exact s17_set m11 hne hg7b _ | (go_keep; done)
      refine wpAnyH_take (i := 0) (v := ?_) (by simp only [List.getElem?_toArray, List.getElem?_cons_succ, List.getElem?_cons_zero]; rfl) (by kernel_rfl) (by kernel_rfl) (by kernel_rfl) (by exact fun _ _ _ h => h) (Or.inl ⟨by rfl, ?_⟩) (by assumption) ?_
      rotate_left
      · intro w hSw; (try dsimp only at hSw); go_simp; try with_reducible rfl
      try simp only [Act.put, List.setIfInBounds_toArray, List.set_cons_zero, List.set_cons_succ]
      refine wpAnyH_take (i := 1) (v := ?_) (by simp only [List.getElem?_toArray, List.getElem?_cons_succ, List.getElem?_cons_zero]; rfl) (by kernel_rfl) (by kernel_rfl) (by kernel_rfl) (by exact fun _ _ _ h => h) (Or.inl ⟨by rfl, ?_⟩) (by assumption) ?_
      rotate_left
      · intro w hSw; (try dsimp only at hSw); go_simp; try with_reducible rfl
      try simp only [Act.put, List.setIfInBounds_toArray, List.set_cons_zero, List.set_cons_succ]
      refine wpAnyH_take (i := 2) (v := ?_) (by simp only [List.getElem?_toArray, List.getElem?_cons_succ, List.getElem?_cons_zero]; rfl) (by kernel_rfl) (by kernel_rfl) (by kernel_rfl) (by exact fun _ _ _ h => h) (Or.inl ⟨by rfl, ?_⟩) (by assumption) ?_
      rotate_left
      · intro w hSw; (try dsimp only at hSw); go_simp; try with_reducible rfl
      try simp only [Act.put, List.setIfInBounds_toArray, List.set_cons_zero, List.set_cons_succ]
      refine wpAnyH_take (i := 3) (v := ?_) (by simp only [List.getElem?_toArray, List.getElem?_cons_succ, List.getElem?_cons_zero]; rfl) (by kernel_rfl) (by kernel_rfl) (by kernel_rfl) (by exact fun _ _ _ h => h) (Or.inl ⟨by rfl, ?_⟩) (by assumption) ?_
      rotate_left
      · intro w hSw; (try dsimp only at hSw); go_simp; try with_reducible rfl
      try simp only [Act.put, List.setIfInBounds_toArray, List.set_cons_zero, List.set_cons_succ]
      refine wpAnyH_take (i := 5) (v := ?_) (by simp only [List.getElem?_toArray, List.getElem?_cons_succ, List.getElem?_cons_zero]; rfl) (by kernel_rfl) (by kernel_rfl) (by kernel_rfl) (by exact fun _ _ _ h => h) (Or.inl ⟨by rfl, ?_⟩) (by assumption) ?_
      rotate_left
      · intro w hSw; (try dsimp only at hSw); go_simp; try with_reducible rfl
      try simp only [Act.put, List.setIfInBounds_toArray, List.set_cons_zero, List.set_cons_succ]
      refine wpAnyH_take (i := 6) (v := ?_) (by simp only [List.getElem?_toArray, List.getElem?_cons_succ, List.getElem?_cons_zero]; rfl) (by kernel_rfl) (by kernel_rfl) (by kernel_rfl) (by exact fun _ _ _ h => h) (Or.inl ⟨by rfl, ?_⟩) (by assumption) ?_
      rotate_left
      · intro w hSw; (try dsimp only at hSw); go_simp; try with_reducible rfl
      try simp only [Act.put, List.setIfInBounds_toArray, List.set_cons_zero, List.set_cons_succ]
      refine wpAnyH_take (i := 7) (v := ?_) (by simp only [List.getElem?_toArray, List.getElem?_cons_succ, List.getElem?_cons_zero]; rfl) (by kernel_rfl) (by kernel_rfl) (by kernel_rfl) (by exact fun _ _ _ h => h) (Or.inl ⟨by rfl, ?_⟩) (by assumption) ?_
      rotate_left
      · intro w hSw; (try dsimp only at hSw); go_simp; try with_reducible rfl
      try simp only [Act.put, List.setIfInBounds_toArray, List.set_cons_zero, List.set_cons_succ]
      refine wpAnyH_take (i := 8) (v := ?_) (by simp only [List.getElem?_toArray, List.getElem?_cons_succ, List.getElem?_cons_zero]; rfl) (by kernel_rfl) (by kernel_rfl) (by kernel_rfl) (by exact fun _ _ _ h => h) (Or.inl ⟨by rfl, ?_⟩) (by assumption) ?_
      rotate_left
      · intro w hSw; (try dsimp only at hSw); go_simp; try with_reducible rfl
      try simp only [Act.put, List.setIfInBounds_toArray, List.set_cons_zero, List.set_cons_succ]
      refine wpAnyH_take (i := 9) (v := ?_) (by simp only [List.getElem?_toArray, List.getElem?_cons_succ, List.getElem?_cons_zero]; rfl) (by kernel_rfl) (by kernel_rfl) (by kernel_rfl) (by exact fun _ _ _ h => h) (Or.inl ⟨by rfl, ?_⟩) (by assumption) ?_
      rotate_left
      · intro w hSw; (try dsimp only at hSw); go_simp; try with_reducible rfl
      try simp only [Act.put, List.setIfInBounds_toArray, List.set_cons_zero, List.set_cons_succ]
      refine wpAnyH_take (i := 10) (v := ?_) (by simp only [List.getElem?_toArray, List.getElem?_cons_succ, List.getElem?_cons_zero]; rfl) (by kernel_rfl) (by kernel_rfl) (by kernel_rfl) (by exact fun _ _ _ h => h) (Or.inl ⟨by rfl, ?_⟩) (by assumption) ?_
      rotate_left
      · intro w hSw; (try dsimp only at hSw); go_simp; try with_reducible rfl
      try simp only [Act.put, List.setIfInBounds_toArray, List.set_cons_zero, List.set_cons_succ]
      refine wpAnyH_take (i := 11) (v := ?_) (by simp only [List.getElem?_toArray, List.getElem?_cons_succ, List.getElem?_cons_zero]; rfl) (by kernel_rfl) (by kernel_rfl) (by kernel_rfl) (by exact fun _ _ _ h => h) (Or.inl ⟨by rfl, ?_⟩) (by assumption) ?_
      rotate_left
      · intro w hSw; (try dsimp only at hSw); go_simp; try with_reducible rfl
      try simp only [Act.put, List.setIfInBounds_toArray, List.set_cons_zero, List.set_cons_succ]
      refine wpAnyH_take (i := 12) (v := ?_) (by simp only [List.getElem?_toArray, List.getElem?_cons_succ, List.getElem?_cons_zero]; rfl) (by kernel_rfl) (by kernel_rfl) (by kernel_rfl) (by exact fun _ _ _ h => h) (Or.inl ⟨by rfl, ?_⟩) (by assumption) ?_
      rotate_left
      · intro w hSw; (try dsimp only at hSw); go_simp; try with_reducible rfl
      try simp only [Act.put, List.setIfInBounds_toArray, List.set_cons_zero, List.set_cons_succ]
      refine wpAnyH_take (i := 13) (v := ?_) (by simp only [List.getElem?_toArray, List.getElem?_cons_succ, List.getElem?_cons_zero]; rfl) (by kernel_rfl) (by kernel_rfl) (by kernel_rfl) (by exact fun _ _ _ h => h) (Or.inl ⟨by rfl, ?_⟩) (by assumption) ?_
      rotate_left
      · intro w hSw; (try dsimp only at hSw); go_simp; try with_reducible rfl
      try simp only [Act.put, List.setIfInBounds_toArray, List.set_cons_zero, List.set_cons_succ]
      refine wpAnyH_take (i := 14) (v := ?_) (by simp only [List.getElem?_toArray, List.getElem?_cons_succ, List.getElem?_cons_zero]; rfl) (by kernel_rfl) (by kernel_rfl) (by kernel_rfl) (by exact fun _ _ _ h => h) (Or.inl ⟨by rfl, ?_⟩) (by assumption) ?_
      rotate_left
      · intro w hSw; (try dsimp only at hSw); go_simp; try with_reducible rfl
      try simp only [Act.put, List.setIfInBounds_toArray, List.set_cons_zero, List.set_cons_succ]
      refine wpAnyH_take (i := 15) (v := ?_) (by simp only [List.getElem?_toArray, List.getElem?_cons_succ, List.getElem?_cons_zero]; rfl) (by kernel_rfl) (by kernel_rfl) (by kernel_rfl) (by exact fun _ _ _ h => h) (Or.inl ⟨by rfl, ?_⟩) (by assumption) ?_
      rotate_left
      · intro w hSw; (try dsimp only at hSw); go_simp; try with_reducible rfl
      try simp only [Act.put, List.setIfInBounds_toArray, List.set_cons_zero, List.set_cons_succ]
      refine wpAnyH_take (i := 16) (v := ?_) (by simp only [List.getElem?_toArray, List.getElem?_cons_succ, List.getElem?_cons_zero]; rfl) (by kernel_rfl) (by kernel_rfl) (by kernel_rfl) (by exact fun _ _ _ h => h) (Or.inl ⟨by rfl, ?_⟩) (by assumption) ?_
      rotate_left
      · intro w hSw; (try dsimp only at hSw); go_simp; try with_reducible rfl
      try simp only [Act.put, List.setIfInBounds_toArray, List.set_cons_zero, List.set_cons_succ]
      refine wpAnyH_take (i := 17) (v := ?_) (by simp only [List.getElem?_toArray, List.getElem?_cons_succ, List.getElem?_cons_zero]; rfl) (by kernel_rfl) (by kernel_rfl) (by kernel_rfl) (by exact fun _ _ _ h => h) (Or.inl ⟨by rfl, ?_⟩) (by assumption) ?_
      rotate_left
      · intro w hSw; (try dsimp only at hSw); go_simp; try with_reducible rfl
      try simp only [Act.put, List.setIfInBounds_toArray, List.set_cons_zero, List.set_cons_succ]
      refine wpAnyH_take (i := 18) (v := ?_) (by simp only [List.getElem?_toArray, List.getElem?_cons_succ, List.getElem?_cons_zero]; rfl) (by kernel_rfl) (by kernel_rfl) (by kernel_rfl) (by exact fun _ _ _ h => h) (Or.inl ⟨by rfl, ?_⟩) (by assumption) ?_
      rotate_left
      · intro w hSw; (try dsimp only at hSw); go_simp; try with_reducible rfl
      try simp only [Act.put, List.setIfInBounds_toArray, List.set_cons_zero, List.set_cons_succ]
      refine wpAnyH_take (i := 19) (v := ?_) (by simp only [List.getElem?_toArray, List.getElem?_cons_succ, List.getElem?_cons_zero]; rfl) (by kernel_rfl) (by kernel_rfl) (by kernel_rfl) (by exact fun _ _ _ h => h) (Or.inl ⟨by rfl, ?_⟩) (by assumption) ?_
      rotate_left
      · intro w hSw; (try dsimp only at hSw); go_simp; try with_reducible rfl
      try simp only [Act.put, List.setIfInBounds_toArray, List.set_cons_zero, List.set_cons_succ]
      refine wpAnyH_take (i := 20) (v := ?_) (by simp only [List.getElem?_toArray, List.getElem?_cons_succ, List.getElem?_cons_zero]; rfl) (by kernel_rfl) (by kernel_rfl) (by kernel_rfl) (by exact fun _ _ _ h => h) (Or.inl ⟨by rfl, ?_⟩) (by assumption) ?_
      rotate_left
      · intro w hSw; (try dsimp only at hSw); go_simp; try with_reducible rfl
      try simp only [Act.put, List.setIfInBounds_toArray, List.set_cons_zero, List.set_cons_succ]
      refine wpAnyH_take (i := 21) (v := ?_) (by simp only [List.getElem?_toArray, List.getElem?_cons_succ, List.getElem?_cons_zero]; rfl) (by kernel_rfl) (by kernel_rfl) (by kernel_rfl) (by exact fun _ _ _ h => h) (Or.inl ⟨by rfl, ?_⟩) (by assumption) ?_
      rotate_left
      · intro w hSw; (try dsimp only at hSw); go_simp; try with_reducible rfl
      try simp only [Act.put, List.setIfInBounds_toArray, List.set_cons_zero, List.set_cons_succ]
      refine wpAnyH_take (i := 22) (v := ?_) (by simp only [List.getElem?_toArray, List.getElem?_cons_succ, List.getElem?_cons_zero]; rfl) (by kernel_rfl) (by kernel_rfl) (by kernel_rfl) (by exact fun _ _ _ h => h) (Or.inl ⟨by rfl, ?_⟩) (by assumption) ?_
      rotate_left
      · intro w hSw; (try dsimp only at hSw); go_simp; try with_reducible rfl
      try simp only [Act.put, List.setIfInBounds_toArray, List.set_cons_zero, List.set_cons_succ]
      refine wpAnyH_take (i := 23) (v := ?_) (by simp only [List.getElem?_toArray, List.getElem?_cons_succ, List.getElem?_cons_zero]; rfl) (by kernel_rfl) (by kernel_rfl) (by kernel_rfl) (by exact fun _ _ _ h => h) (Or.inl ⟨by rfl, ?_⟩) (by assumption) ?_
      rotate_left
      · intro w hSw; (try dsimp only at hSw); go_simp; try with_reducible rfl
      try simp only [Act.put, List.setIfInBounds_toArray, List.set_cons_zero, List.set_cons_succ]
      refine wpAnyH_take (i := 24) (v := ?_) (by simp only [List.getElem?_toArray, List.getElem?_cons_succ, List.getElem?_cons_zero]; rfl) (by kernel_rfl) (by kernel_rfl) (by kernel_rfl) (by exact fun _ _ _ h => h) (Or.inl ⟨by rfl, ?_⟩) (by assumption) ?_
      rotate_left
      · intro w hSw; (try dsimp only at hSw); go_simp; try with_reducible rfl
      try simp only [Act.put, List.setIfInBounds_toArray, List.set_cons_zero, List.set_cons_succ]
      refine wpAnyH_take (i := 25) (v := ?_) (by simp only [List.getElem?_toArray, List.getElem?_cons_succ, List.getElem?_cons_zero]; rfl) (by kernel_rfl) (by kernel_rfl) (by kernel_rfl) (by exact fun _ _ _ h => h) (Or.inl ⟨by rfl, ?_⟩) (by assumption) ?_
      rotate_left
      · intro w hSw; (try dsimp only at hSw); go_simp; try with_reducible rfl
      try simp only [Act.put, List.setIfInBounds_toArray, List.set_cons_zero, List.set_cons_succ]
      refine wpAnyH_take (i := 26) (v := ?_) (by simp only [List.getElem?_toArray, List.getElem?_cons_succ, List.getElem?_cons_zero]; rfl) (by kernel_rfl) (by kernel_rfl) (by kernel_rfl) (by exact fun _ _ _ h => h) (Or.inl ⟨by rfl, ?_⟩) (by assumption) ?_
      rotate_left
      · intro w hSw; (try dsimp only at hSw); go_simp; try with_reducible rfl
      try simp only [Act.put, List.setIfInBounds_toArray, List.set_cons_zero, List.set_cons_succ]
      refine wpAnyH_ready (rs := [4, 27]) (by kernel_rfl) (by simp) ?_
      refine AllReadyH.cons (by simp only [List.getElem?_toArray, List.getElem?_cons_succ, List.getElem?_cons_zero]; rfl) (fun K hK => ?_) (AllReadyH.cons (by simp only [List.getElem?_toArray, List.getElem?_cons_succ, List.getElem?_cons_zero]; rfl) (fun K hK => ?_) AllReadyH.nil)
      go_simp
      refine hK.out _ _ ?_ (fun hHeld => ?_)
      · (try dsimp only); first | with_reducible exact m10 | with_reducible exact s17_only m10 ((Only.refl [] _).alloc _) (by simp) (by simp) (by simp) | with_reducible exact m11 | with_reducible exact s17_set m11 hne hg7b _ | (go_keep; done)
      clear hK K
      try simp only [Act.put, List.setIfInBounds_toArray, List.set_cons_zero, List.set_cons_succ]
      refine wpAnyH_ready (rs := [27]) (by kernel_rfl) (by simp) ?_
      refine AllReadyH.cons (by simp only [List.getElem?_toArray, List.getElem?_cons_succ, List.getElem?_cons_zero]; rfl) (fun K hK => ?_) AllReadyH.nil
      go_simp; go_at_call 46; refine (HPN0.out _).mono ?_; rintro e w10 ⟨pt0, pg0, rfl, hb1, hb2, hb3, hb4, hb5, ho9'⟩; have ho10 : Only [] W9 w10 := ⟨ho9'.os, ho9'.tape, ho9'.output, ho9'.size, ho9'.block⟩; have m10 := s17_only HS0.out ho10 (by simp) (by simp) (by simp); have M100 := Lib.hid m10; have e6 := cell_only ho10 d6 (by simp); have e6b := cell_only (ho10.alloc (.cells #[.pointer (some ⟨pt0, 0, none⟩)] 107)) d6 (by simp); have HP10 := Lib.hid hb1; have HP20 := Lib.hid hb2; have HP30 := Lib.hid hb3; have HP40 := Lib.hid hb4; have HP50 := Lib.hid hb5; have HO100 := Lib.hid ho10; have HRNP0 := Lib.hid (row_new w10 [.pointer (some ⟨pt0, 0, none⟩)] 107); have HBSP0 := Lib.hid (show w.heap.size ≤ (w10.alloc (.cells #[.pointer (some ⟨pt0, 0, none⟩)] 107)).heap.size from Nat.le_trans HBW0.out (Nat.le_trans ho10.size (size_alloc_le _ _))); clear hb1 hb2 hb3 hb4 hb5 ho9'
      refine hK.out _ _ ?_ (fun hHeld => ?_)
      · (try dsimp only); first | with_reducible exact m10 | with_reducible exact s17_only m10 ((Only.refl [] _).alloc _) (by simp) (by simp) (by simp) | with_reducible exact m11 | with_reducible exact s17_set m11 hne hg7b _ | (go_keep; done)
      clear hK K
      try simp only [Act.put, List.setIfInBounds_toArray, List.set_cons_zero, List.set_cons_succ]
      refine wpAnyH_ready (rs := [28]) (by kernel_rfl) (by simp) ?_
      refine AllReadyH.cons (by simp only [List.getElem?_toArray, List.getElem?_cons_succ, List.getElem?_cons_zero]; rfl) (fun K hK => ?_) AllReadyH.nil
      go_simp
      refine hK.out _ _ ?_ (fun hHeld => ?_)
      · (try dsimp only); first | with_reducible exact m10 | with_reducible exact s17_only m10 ((Only.refl [] _).alloc _) (by simp) (by simp) (by simp) | with_reducible exact m11 | with_reducible exact s17_set m11 hne hg7b _ | (go_keep; done)
      clear hK K
      try simp only [Act.put, List.setIfInBounds_toArray, List.set_cons_zero, List.set_cons_succ]
      refine wpAnyH_ready (rs := [29]) (by kernel_rfl) (by simp) ?_
      refine AllReadyH.cons (by simp only [List.getElem?_toArray, List.getElem?_cons_succ, List.getElem?_cons_zero]; rfl) (fun K hK => ?_) AllReadyH.nil
      refine step_append_is rfl (.tmp 103) (.tmp 127) rfl elemPt rfl (World.ownsRow_nil _ w.heap.size 107 1) _ 1 _ [.pointer (some ⟨pt0, 0, none⟩)] rfl HRNP0.out rfl (by simp [Value.oneCell']) HM1.out HM2.out HBSP0.out (fun e => by cases e) ?_; intro v5 w11 hown5 hg5 hat5; obtain ⟨gp, cp, rfl⟩ := own_some hown5 (by omega); have hg5' : World.grownBy (w10.alloc (.cells #[.pointer (some ⟨pt0, 0, none⟩)] 107)) w11 none := hg5; have m11 := s17_far (s17_only M100.out ((Only.refl [] w10).alloc (.cells #[.pointer (some ⟨pt0, 0, none⟩)] 107)) (by simp) (by simp) (by simp)) hg5' (by simp) (by simp) (by simp); have hb11 := blk_grown (HSB0.out.only (HO100.out.alloc (.cells #[.pointer (some ⟨pt0, 0, none⟩)] 107)) (by simp)) hg5' (by simp); have f6 := hb11.cell (i := 6) rfl; have ff := hb11.frozen; have HB110 := Lib.hid hb11; have HOWNP0 := Lib.hid hown5; have HGP0 := Lib.hid hg5'; have HATP0 := Lib.hid (show some gp = none ∨ some gp = some (w10.alloc (.cells #[.pointer (some ⟨pt0, 0, none⟩)] 107)).heap.size from hat5); clear hown5 hg5 hg5' hat5 hb11
      refine hK.out _ _ ?_ (fun hHeld => ?_)
      · (try dsimp only); first | with_reducible exact m10 | with_reducible exact s17_only m10 ((Only.refl [] _).alloc _) (by simp) (by simp) (by simp) | with_reducible exact m11 | with_reducible exact s17_set m11 hne hg7b _ | (go_keep; done)
      clear hK K
      try simp only [Act.put, List.setIfInBounds_toArray, List.set_cons_zero, List.set_cons_succ]
      refine wpAnyH_take (i := 30) (v := ?_) (by simp only [List.getElem?_toArray, List.getElem?_cons_succ, List.getElem?_cons_zero]; rfl) (by kernel_rfl) (by kernel_rfl) (by kernel_rfl) (by exact fun _ _ _ h => h) (Or.inl ⟨by rfl, ?_⟩) (by assumption) ?_
      rotate_left
      · intro w hSw; (try dsimp only at hSw); go_simp; try with_reducible rfl
      try simp only [Act.put, List.setIfInBounds_toArray, List.set_cons_zero, List.set_cons_succ]
      refine wpAnyH_take (i := 31) (v := ?_) (by simp only [List.getElem?_toArray, List.getElem?_cons_succ, List.getElem?_cons_zero]; rfl) (by kernel_rfl) (by kernel_rfl) (by kernel_rfl) (by exact fun _ _ _ h => h) (Or.inl ⟨by rfl, ?_⟩) (by assumption) ?_
      rotate_left
      · intro w hSw; (try dsimp only at hSw); go_simp; try with_reducible rfl
      try simp only [Act.put, List.setIfInBounds_toArray, List.set_cons_zero, List.set_cons_succ]
      refine wpAnyH_ready (rs := [32]) (by kernel_rfl) (by simp) ?_
      refine AllReadyH.cons (by simp only [List.getElem?_toArray, List.getElem?_cons_succ, List.getElem?_cons_zero]; rfl) (fun K hK => ?_) AllReadyH.nil
      go_simp
      refine hK.out _ _ ?_ (fun hHeld => ?_)
      · (try dsimp only); first | with_reducible exact m10 | with_reducible exact s17_only m10 ((Only.refl [] _).alloc _) (by simp) (by simp) (by simp) | with_reducible exact m11 | with_reducible exact s17_set m11 hne hg7b _ | (go_keep; done)
      clear hK K
      try simp only [Act.put, List.setIfInBounds_toArray, List.set_cons_zero, List.set_cons_succ]
      refine wpAnyH_done (by kernel_rfl) ?_ _
      rotate_left 1
      go_simp; go_at_call 46; refine (HPN0.out _).mono ?_; rintro e w10 ⟨pt0, pg0, rfl, hb1, hb2, hb3, hb4, hb5, ho9'⟩; have ho10 : Only [] W9 w10 := ⟨ho9'.os, ho9'.tape, ho9'.output, ho9'.size, ho9'.block⟩; have m10 := s17_only HS0.out ho10 (by simp) (by simp) (by simp); have M100 := Lib.hid m10; have e6 := cell_only ho10 d6 (by simp); have e6b := cell_only (ho10.alloc (.cells #[.pointer (some ⟨pt0, 0, none⟩)] 107)) d6 (by simp); have HP10 := Lib.hid hb1; have HP20 := Lib.hid hb2; have HP30 := Lib.hid hb3; have HP40 := Lib.hid hb4; have HP50 := Lib.hid hb5; have HO100 := Lib.hid ho10; have HRNP0 := Lib.hid (row_new w10 [.pointer (some ⟨pt0, 0, none⟩)] 107); have HBSP0 := Lib.hid (show w.heap.size ≤ (w10.alloc (.cells #[.pointer (some ⟨pt0, 0, none⟩)] 107)).heap.size from Nat.le_trans HBW0.out (Nat.le_trans ho10.size (size_alloc_le _ _))); clear hb1 hb2 hb3 hb4 hb5 ho9'
      refine hK.out _ _ ?_ (fun hHeld => ?_)
      · (try dsimp only); first | with_reducible exact m10 | with_reducible exact s17_only m10 ((Only.refl [] _).alloc _) (by simp) (by simp) (by simp) | with_reducible exact m11 | with_reducible exact s17_set m11 hne hg7b _ | (go_keep; done)
      clear hK K
      try simp only [Act.put, List.setIfInBounds_toArray, List.set_cons_zero, List.set_cons_succ]
      refine wpAnyH_ready (rs := [4, 28]) (by kernel_rfl) (by simp) ?_
      refine AllReadyH.cons (by simp only [List.getElem?_toArray, List.getElem?_cons_succ, List.getElem?_cons_zero]; rfl) (fun K hK => ?_) (AllReadyH.cons (by simp only [List.getElem?_toArray, List.getElem?_cons_succ, List.getElem?_cons_zero]; rfl) (fun K hK => ?_) AllReadyH.nil)
      go_simp
      refine hK.out _ _ ?_ (fun hHeld => ?_)
      · (try dsimp only); first | with_reducible exact m10 | with_reducible exact s17_only m10 ((Only.refl [] _).alloc _) (by simp) (by simp) (by simp) | with_reducible exact m11 | with_reducible exact s17_set m11 hne hg7b _ | (go_keep; done)
      clear hK K
      try simp only [Act.put, List.setIfInBounds_toArray, List.set_cons_zero, List.set_cons_succ]
      refine wpAnyH_ready (rs := [28]) (by kernel_rfl) (by simp) ?_
      refine AllReadyH.cons (by simp only [List.getElem?_toArray, List.getElem?_cons_succ, List.getElem?_cons_zero]; rfl) (fun K hK => ?_) AllReadyH.nil
      go_simp
      refine hK.out _ _ ?_ (fun hHeld => ?_)
      · (try dsimp only); first | with_reducible exact m10 | with_reducible exact s17_only m10 ((Only.refl [] _).alloc _) (by simp) (by simp) (by simp) | with_reducible exact m11 | with_reducible exact s17_set m11 hne hg7b _ | (go_keep; done)
      clear hK K
      try simp only [Act.put, List.setIfInBounds_toArray, List.set_cons_zero, List.set_cons_succ]
      refine wpAnyH_ready (rs := [29]) (by kernel_rfl) (by simp) ?_
      refine AllReadyH.cons (by simp only [List.getElem?_toArray, List.getElem?_cons_succ, List.getElem?_cons_zero]; rfl) (fun K hK => ?_) AllReadyH.nil
      refine step_append_is rfl (.tmp 103) (.tmp 127) rfl elemPt rfl (World.ownsRow_nil _ w.heap.size 107 1) _ 1 _ [.pointer (some ⟨pt0, 0, none⟩)] rfl HRNP0.out rfl (by simp [Value.oneCell']) HM1.out HM2.out HBSP0.out (fun e => by cases e) ?_; intro v5 w11 hown5 hg5 hat5; obtain ⟨gp, cp, rfl⟩ := own_some hown5 (by omega); have hg5' : World.grownBy (w10.alloc (.cells #[.pointer (some ⟨pt0, 0, none⟩)] 107)) w11 none := hg5; have m11 := s17_far (s17_only M100.out ((Only.refl [] w10).alloc (.cells #[.pointer (some ⟨pt0, 0, none⟩)] 107)) (by simp) (by simp) (by simp)) hg5' (by simp) (by simp) (by simp); have hb11 := blk_grown (HSB0.out.only (HO100.out.alloc (.cells #[.pointer (some ⟨pt0, 0, none⟩)] 107)) (by simp)) hg5' (by simp); have f6 := hb11.cell (i := 6) rfl; have ff := hb11.frozen; have HB110 := Lib.hid hb11; have HOWNP0 := Lib.hid hown5; have HGP0 := Lib.hid hg5'; have HATP0 := Lib.hid (show some gp = none ∨ some gp = some (w10.alloc (.cells #[.pointer (some ⟨pt0, 0, none⟩)] 107)).heap.size from hat5); clear hown5 hg5 hg5' hat5 hb11
      refine hK.out _ _ ?_ (fun hHeld => ?_)
      · (try dsimp only); first | with_reducible exact m10 | with_reducible exact s17_only m10 ((Only.refl [] _).alloc _) (by simp) (by simp) (by simp) | with_reducible exact m11 | with_reducible exact s17_set m11 hne hg7b _ | (go_keep; done)
      clear hK K
      try simp only [Act.put, List.setIfInBounds_toArray, List.set_cons_zero, List.set_cons_succ]
      refine wpAnyH_take (i := 30) (v := ?_) (by simp only [List.getElem?_toArray, List.getElem?_cons_succ, List.getElem?_cons_zero]; rfl) (by kernel_rfl) (by kernel_rfl) (by kernel_rfl) (by exact fun _ _ _ h => h) (Or.inl ⟨by rfl, ?_⟩) (by assumption) ?_
      rotate_left
      · intro w hSw; (try dsimp only at hSw); go_simp; try with_reducible rfl
      try simp only [Act.put, List.setIfInBounds_toArray, List.set_cons_zero, List.set_cons_succ]
      refine wpAnyH_take (i := 31) (v := ?_) (by simp only [List.getElem?_toArray, List.getElem?_cons_succ, List.getElem?_cons_zero]; rfl) (by kernel_rfl) (by kernel_rfl) (by kernel_rfl) (by exact fun _ _ _ h => h) (Or.inl ⟨by rfl, ?_⟩) (by assumption) ?_
      rotate_left
      · intro w hSw; (try dsimp only at hSw); go_simp; try with_reducible rfl
      try simp only [Act.put, List.setIfInBounds_toArray, List.set_cons_zero, List.set_cons_succ]
      refine wpAnyH_ready (rs := [32]) (by kernel_rfl) (by simp) ?_
      refine AllReadyH.cons (by simp only [List.getElem?_toArray, List.getElem?_cons_succ, List.getElem?_cons_zero]; rfl) (fun K hK => ?_) AllReadyH.nil
      go_simp
      refine hK.out _ _ ?_ (fun hHeld => ?_)
      · (try dsimp only); first | with_reducible exact m10 | with_reducible exact s17_only m10 ((Only.refl [] _).alloc _) (by simp) (by simp) (by simp) | with_reducible exact m11 | with_reducible exact s17_set m11 hne hg7b _ | (go_keep; done)
      clear hK K
      try simp only [Act.put, List.setIfInBounds_toArray, List.set_cons_zero, List.set_cons_succ]
      refine wpAnyH_done (by kernel_rfl) ?_ _
      rotate_left 1
      go_simp
      refine hK.out _ _ ?_ (fun hHeld => ?_)
      · (try dsimp only); first | with_reducible exact m10 | with_reducible exact s17_only m10 ((Only.refl [] _).alloc _) (by simp) (by simp) (by simp) | with_reducible exact m11 | with_reducible exact s17_set m11 hne hg7b _ | (go_keep; done)
      clear hK K
      try simp only [Act.put, List.setIfInBounds_toArray, List.set_cons_zero, List.set_cons_succ]
      refine wpAnyH_ready (rs := [4]) (by kernel_rfl) (by simp) ?_
      refine AllReadyH.cons (by simp only [List.getElem?_toArray, List.getElem?_cons_succ, List.getElem?_cons_zero]; rfl) (fun K hK => ?_) AllReadyH.nil
      go_simp
      refine hK.out _ _ ?_ (fun hHeld => ?_)
      · (try dsimp only); first | with_reducible exact m10 | with_reducible exact s17_only m10 ((Only.refl [] _).alloc _) (by simp) (by simp) (by simp) | with_reducible exact m11 | with_reducible exact s17_set m11 hne hg7b _ | (go_keep; done)
      clear hK K
      try simp only [Act.put, List.setIfInBounds_toArray, List.set_cons_zero, List.set_cons_succ]
      refine wpAnyH_ready (rs := [29]) (by kernel_rfl) (by simp) ?_
      refine AllReadyH.cons (by simp only [List.getElem?_toArray, List.getElem?_cons_succ, List.getElem?_cons_zero]; rfl) (fun K hK => ?_) AllReadyH.nil
      refine step_append_is rfl (.tmp 103) (.tmp 127) rfl elemPt rfl (World.ownsRow_nil _ w.heap.size 107 1) _ 1 _ [.pointer (some ⟨pt0, 0, none⟩)] rfl HRNP0.out rfl (by simp [Value.oneCell']) HM1.out HM2.out HBSP0.out (fun e => by cases e) ?_; intro v5 w11 hown5 hg5 hat5; obtain ⟨gp, cp, rfl⟩ := own_some hown5 (by omega); have hg5' : World.grownBy (w10.alloc (.cells #[.pointer (some ⟨pt0, 0, none⟩)] 107)) w11 none := hg5; have m11 := s17_far (s17_only M100.out ((Only.refl [] w10).alloc (.cells #[.pointer (some ⟨pt0, 0, none⟩)] 107)) (by simp) (by simp) (by simp)) hg5' (by simp) (by simp) (by simp); have hb11 := blk_grown (HSB0.out.only (HO100.out.alloc (.cells #[.pointer (some ⟨pt0, 0, none⟩)] 107)) (by simp)) hg5' (by simp); have f6 := hb11.cell (i := 6) rfl; have ff := hb11.frozen; have HB110 := Lib.hid hb11; have HOWNP0 := Lib.hid hown5; have HGP0 := Lib.hid hg5'; have HATP0 := Lib.hid (show some gp = none ∨ some gp = some (w10.alloc (.cells #[.pointer (some ⟨pt0, 0, none⟩)] 107)).heap.size from hat5); clear hown5 hg5 hg5' hat5 hb11
      refine hK.out _ _ ?_ (fun hHeld => ?_)
      · (try dsimp only); first | with_reducible exact m10 | with_reducible exact s17_only m10 ((Only.refl [] _).alloc _) (by simp) (by simp) (by simp) | with_reducible exact m11 | with_reducible exact s17_set m11 hne hg7b _ | (go_keep; done)
      clear hK K
      try simp only [Act.put, List.setIfInBounds_toArray, List.set_cons_zero, List.set_cons_succ]
      refine wpAnyH_take (i := 30) (v := ?_) (by simp only [List.getElem?_toArray, List.getElem?_cons_succ, List.getElem?_cons_zero]; rfl) (by kernel_rfl) (by kernel_rfl) (by kernel_rfl) (by exact fun _ _ _ h => h) (Or.inl ⟨by rfl, ?_⟩) (by assumption) ?_
      rotate_left
      · intro w hSw; (try dsimp only at hSw); go_simp; try with_reducible rfl
      try simp only [Act.put, List.setIfInBounds_toArray, List.set_cons_zero, List.set_cons_succ]
      refine wpAnyH_take (i := 31) (v := ?_) (by simp only [List.getElem?_toArray, List.getElem?_cons_succ, List.getElem?_cons_zero]; rfl) (by kernel_rfl) (by kernel_rfl) (by kernel_rfl) (by exact fun _ _ _ h => h) (Or.inl ⟨by rfl, ?_⟩) (by assumption) ?_
      rotate_left
      · intro w hSw; (try dsimp only at hSw); go_simp; try with_reducible rfl
      try simp only [Act.put, List.setIfInBounds_toArray, List.set_cons_zero, List.set_cons_succ]
      refine wpAnyH_ready (rs := [32]) (by kernel_rfl) (by simp) ?_
      refine AllReadyH.cons (by simp only [List.getElem?_toArray, List.getElem?_cons_succ, List.getElem?_cons_zero]; rfl) (fun K hK => ?_) AllReadyH.nil
      go_simp
      refine hK.out _ _ ?_ (fun hHeld => ?_)
      · (try dsimp only); first | with_reducible exact m10 | with_reducible exact s17_only m10 ((Only.refl [] _).alloc _) (by simp) (by simp) (by simp) | with_reducible exact m11 | with_reducible exact s17_set m11 hne hg7b _ | (go_keep; done)
      clear hK K
      try simp only [Act.put, List.setIfInBounds_toArray, List.set_cons_zero, List.set_cons_succ]
      refine wpAnyH_done (by kernel_rfl) ?_ _
      all_goals
        go_wp2_with fail
        go_meet
        refine ⟨rfl, pt0, pg0, gp, cp, ?_⟩
        have hgn : Only [] w10 w11 := ((Only.refl _ _).alloc (.cells #[.pointer (some ⟨pt0, 0, none⟩)] 107)).grown HGP0.out (fun k hk => by cases hk)
        have hos : Only [sb] w11 (w11.setCell ⟨sb, 6, none⟩ (.slice (some ⟨gp, 0, none⟩) (0 + 1) cp)) := (Only.refl _ _).setCell (.inl (by simp)) _
        have h1 : W9.heap.size ≤ pt0 := HP10.out
        have h2 : W9.heap.size ≤ pg0 := HP20.out
        have h3 := HP40.out.lt
        have h4 := HP50.out.lt
        have h5 : w10.heap.size < gp := by
          rcases HATP0.out with e | e
          · cases e
          · injection e with e; simp at e; omega
        exact ⟨((HO100.out.trans hgn).mono (by simp)).trans hos, (HP40.out.only hgn (by simp)).only hos (by simp; omega), (HP50.out.only hgn (by simp)).only hos (by simp; omega), ⟨h1, h2, by omega, HP30.out, by omega, by omega⟩, own_only HOWNP0.out hos (fun k hk => by cases hk; simp; omega), HB110.out.set 6 _⟩
    case rest =>
      obtain ⟨rfl, pt0, pg0, gp, cp, hpo, hp0, hp1, ⟨hp2, hp3, hp4, hp5, hp6, hp7⟩, hpw, hps⟩ := hcut
      obtain ⟨wp, hwp⟩ : ∃ wp, wp = wc := ⟨_, rfl⟩
      subst hwp
      have hn1 := HN9.out.step hpo (by simp)
      have d6p := hps.cell (i := 6) rfl
      have hgg : ¬ gp = sb ∧ ¬ gp = w.heap.size ∧ ¬ gp = g7 := ⟨by omega, by omega, by omega⟩
      have HGN := Lib.hid (show some gp ≠ some sb ∧ some gp ≠ some w.heap.size ∧ some gp ≠ some g7 from ⟨fun e => by injection e with e; exact hgg.1 e, fun e => by injection e with e; exact hgg.2.1 e, fun e => by injection e with e; exact hgg.2.2 e⟩)
      have HS1p := Lib.hid (show S17 sb w.heap.size g7 1 L.pb eb ld X1.xb wp from ⟨hps.cell rfl, hps.cell rfl, hps.cell rfl, hn1.st.cell rfl, cell_only hpo HS1.out.2.2.2.2 (by simp; omega)⟩)
      have t2 := hps.cell (i := 2) rfl
      have t0 := hps.cell (i := 0) rfl
      have t3 := hps.cell (i := 3) rfl
      have tu := hn1.st.cell (i := 0) rfl
      have tg := HS1p.out.2.2.2.2
      have HOWN1 := Lib.hid hpw; have HBW1 := Lib.hid (show w.heap.size ≤ wp.heap.size from hn1.only.size); have HSB1 := Lib.hid hps; have HPO := Lib.hid hpo; have HQ0 := Lib.hid hp0; have HQ1 := Lib.hid hp1
      have hpl0 := hp0.lt
      have hpl1 := hp1.lt
      have hplg := (hpw.lt gp rfl).2
      have hpls := hps.lt
      clear hpo hp0 hp1 hpw hps hn1 hgg d6 s0 s2 s3 su0 sg0
      go_wp2_with fail
      rw [rounds_succ]
      go_upto_block 3 with fail
      go_cut [6, 96] (fun s6 s96 wx => s96 = .int .i64 1 ∧ (∃ pt1 pg1 gq cq : Nat, Only [sb, gp] wp wx ∧ Blk wx pt1 [.pointer (some ⟨X1.xb, 0, none⟩), .int .i64 1, .int .i64 2, .pointer (some ⟨L.pb, 0, none⟩), .pointer (some ⟨pg1, 0, none⟩), .pointer (some ⟨eb, 0, none⟩), .pointer (some ⟨ld, 0, none⟩)] 152 ∧ Blk wx pg1 [.pointer (some ⟨L.pb, 0, none⟩)] 187 ∧ (wp.heap.size ≤ pt1 ∧ wp.heap.size ≤ pg1 ∧ (gq = gp ∨ wp.heap.size ≤ gq) ∧ pt1 ≠ pg1 ∧ gq ≠ pt1 ∧ gq ≠ pg1) ∧ wx.ownsRow w.heap.size 107 1 (.slice (some ⟨gq, 0, none⟩) 2 cq) 2 [.pointer (some ⟨pt0, 0, none⟩), .pointer (some ⟨pt1, 0, none⟩)] ∧ Blk wx sb [.pointer (some ⟨L.pb, 0, none⟩), .pointer (some ⟨K.cb, 0, none⟩), .pointer (some ⟨eb, 0, none⟩), .pointer (some ⟨ld, 0, none⟩), .pointer (some ⟨nm, 0, none⟩), .pointer (some ⟨ts, 0, none⟩), .slice (some ⟨gq, 0, none⟩) 2 cq] 94))
      case first =>
        go_wp2_with fail
        refine wp_region_held_drew (S := (fun W => W.cell? ⟨sb, 0, none⟩ = some (.pointer (some ⟨L.pb, 0, none⟩)) ∧ W.cell? ⟨sb, 2, none⟩ = some (.pointer (some ⟨eb, 0, none⟩)) ∧ W.cell? ⟨sb, 3, none⟩ = some (.pointer (some ⟨ld, 0, none⟩)) ∧ W.cell? ⟨w.heap.size, 0, none⟩ = some (.int .i64 2) ∧ W.cell? ⟨g7, 1, none⟩ = some (.pointer (some ⟨X1.xb, 0, none⟩)))) (by kernel_rfl) ?_ (fun hHeld => ?_)
        · (try dsimp only); first | with_reducible exact m10 | with_reducible exact s17_only m10 ((Only.refl [] _).alloc _) (by simp) (by simp) (by simp) | with_reducible exact m11 | with_reducible exact s17_set m11 hne hg7b _ | (go_keep; done)
        refine wpAnyH_take (i := 0) (v := ?_) (by simp only [List.getElem?_toArray, List.getElem?_cons_succ, List.getElem?_cons_zero]; rfl) (by kernel_rfl) (by kernel_rfl) (by kernel_rfl) (by exact fun _ _ _ h => h) (Or.inl ⟨by rfl, ?_⟩) (by assumption) ?_
        rotate_left
        · intro w hSw; (try dsimp only at hSw); go_simp; try with_reducible rfl
        try simp only [Act.put, List.setIfInBounds_toArray, List.set_cons_zero, List.set_cons_succ]
        refine wpAnyH_take (i := 1) (v := ?_) (by simp only [List.getElem?_toArray, List.getElem?_cons_succ, List.getElem?_cons_zero]; rfl) (by kernel_rfl) (by kernel_rfl) (by kernel_rfl) (by exact fun _ _ _ h => h) (Or.inl ⟨by rfl, ?_⟩) (by assumption) ?_
        rotate_left
        · intro w hSw; (try dsimp only at hSw); go_simp; try with_reducible rfl
        try simp only [Act.put, List.setIfInBounds_toArray, List.set_cons_zero, List.set_cons_succ]
        refine wpAnyH_take (i := 2) (v := ?_) (by simp only [List.getElem?_toArray, List.getElem?_cons_succ, List.getElem?_cons_zero]; rfl) (by kernel_rfl) (by kernel_rfl) (by kernel_rfl) (by exact fun _ _ _ h => h) (Or.inl ⟨by rfl, ?_⟩) (by assumption) ?_
        rotate_left
        · intro w hSw; (try dsimp only at hSw); go_simp; try with_reducible rfl
        try simp only [Act.put, List.setIfInBounds_toArray, List.set_cons_zero, List.set_cons_succ]
        refine wpAnyH_take (i := 3) (v := ?_) (by simp only [List.getElem?_toArray, List.getElem?_cons_succ, List.getElem?_cons_zero]; rfl) (by kernel_rfl) (by kernel_rfl) (by kernel_rfl) (by exact fun _ _ _ h => h) (Or.inl ⟨by rfl, ?_⟩) (by assumption) ?_
        rotate_left
        · intro w hSw; (try dsimp only at hSw); go_simp; try with_reducible rfl
        try simp only [Act.put, List.setIfInBounds_toArray, List.set_cons_zero, List.set_cons_succ]
        refine wpAnyH_take (i := 5) (v := ?_) (by simp only [List.getElem?_toArray, List.getElem?_cons_succ, List.getElem?_cons_zero]; rfl) (by kernel_rfl) (by kernel_rfl) (by kernel_rfl) (by exact fun _ _ _ h => h) (Or.inl ⟨by rfl, ?_⟩) (by assumption) ?_
        rotate_left
        · intro w hSw; (try dsimp only at hSw); go_simp; try with_reducible rfl
        try simp only [Act.put, List.setIfInBounds_toArray, List.set_cons_zero, List.set_cons_succ]
        refine wpAnyH_take (i := 6) (v := ?_) (by simp only [List.getElem?_toArray, List.getElem?_cons_succ, List.getElem?_cons_zero]; rfl) (by kernel_rfl) (by kernel_rfl) (by kernel_rfl) (by exact fun _ _ _ h => h) (Or.inl ⟨by rfl, ?_⟩) (by assumption) ?_
        rotate_left
        · intro w hSw; (try dsimp only at hSw); go_simp; try with_reducible rfl
        try simp only [Act.put, List.setIfInBounds_toArray, List.set_cons_zero, List.set_cons_succ]
        refine wpAnyH_take (i := 7) (v := ?_) (by simp only [List.getElem?_toArray, List.getElem?_cons_succ, List.getElem?_cons_zero]; rfl) (by kernel_rfl) (by kernel_rfl) (by kernel_rfl) (by exact fun _ _ _ h => h) (Or.inl ⟨by rfl, ?_⟩) (by assumption) ?_
        rotate_left
        · intro w hSw; (try dsimp only at hSw); go_simp; try with_reducible rfl
        try simp only [Act.put, List.setIfInBounds_toArray, List.set_cons_zero, List.set_cons_succ]
        refine wpAnyH_take (i := 8) (v := ?_) (by simp only [List.getElem?_toArray, List.getElem?_cons_succ, List.getElem?_cons_zero]; rfl) (by kernel_rfl) (by kernel_rfl) (by kernel_rfl) (by exact fun _ _ _ h => h) (Or.inl ⟨by rfl, ?_⟩) (by assumption) ?_
        rotate_left
        · intro w hSw; (try dsimp only at hSw); go_simp; try with_reducible rfl
        try simp only [Act.put, List.setIfInBounds_toArray, List.set_cons_zero, List.set_cons_succ]
        refine wpAnyH_take (i := 9) (v := ?_) (by simp only [List.getElem?_toArray, List.getElem?_cons_succ, List.getElem?_cons_zero]; rfl) (by kernel_rfl) (by kernel_rfl) (by kernel_rfl) (by exact fun _ _ _ h => h) (Or.inl ⟨by rfl, ?_⟩) (by assumption) ?_
        rotate_left
        · intro w hSw; (try dsimp only at hSw); go_simp; try with_reducible rfl
        try simp only [Act.put, List.setIfInBounds_toArray, List.set_cons_zero, List.set_cons_succ]
        refine wpAnyH_take (i := 10) (v := ?_) (by simp only [List.getElem?_toArray, List.getElem?_cons_succ, List.getElem?_cons_zero]; rfl) (by kernel_rfl) (by kernel_rfl) (by kernel_rfl) (by exact fun _ _ _ h => h) (Or.inl ⟨by rfl, ?_⟩) (by assumption) ?_
        rotate_left
        · intro w hSw; (try dsimp only at hSw); go_simp; try with_reducible rfl
        try simp only [Act.put, List.setIfInBounds_toArray, List.set_cons_zero, List.set_cons_succ]
        refine wpAnyH_take (i := 11) (v := ?_) (by simp only [List.getElem?_toArray, List.getElem?_cons_succ, List.getElem?_cons_zero]; rfl) (by kernel_rfl) (by kernel_rfl) (by kernel_rfl) (by exact fun _ _ _ h => h) (Or.inl ⟨by rfl, ?_⟩) (by assumption) ?_
        rotate_left
        · intro w hSw; (try dsimp only at hSw); go_simp; try with_reducible rfl
        try simp only [Act.put, List.setIfInBounds_toArray, List.set_cons_zero, List.set_cons_succ]
        refine wpAnyH_take (i := 12) (v := ?_) (by simp only [List.getElem?_toArray, List.getElem?_cons_succ, List.getElem?_cons_zero]; rfl) (by kernel_rfl) (by kernel_rfl) (by kernel_rfl) (by exact fun _ _ _ h => h) (Or.inl ⟨by rfl, ?_⟩) (by assumption) ?_
        rotate_left
        · intro w hSw; (try dsimp only at hSw); go_simp; try with_reducible rfl
        try simp only [Act.put, List.setIfInBounds_toArray, List.set_cons_zero, List.set_cons_succ]
        refine wpAnyH_take (i := 13) (v := ?_) (by simp only [List.getElem?_toArray, List.getElem?_cons_succ, List.getElem?_cons_zero]; rfl) (by kernel_rfl) (by kernel_rfl) (by kernel_rfl) (by exact fun _ _ _ h => h) (Or.inl ⟨by rfl, ?_⟩) (by assumption) ?_
        rotate_left
        · intro w hSw; (try dsimp only at hSw); go_simp; try with_reducible rfl
        try simp only [Act.put, List.setIfInBounds_toArray, List.set_cons_zero, List.set_cons_succ]
        refine wpAnyH_take (i := 14) (v := ?_) (by simp only [List.getElem?_toArray, List.getElem?_cons_succ, List.getElem?_cons_zero]; rfl) (by kernel_rfl) (by kernel_rfl) (by kernel_rfl) (by exact fun _ _ _ h => h) (Or.inl ⟨by rfl, ?_⟩) (by assumption) ?_
        rotate_left
        · intro w hSw; (try dsimp only at hSw); go_simp; try with_reducible rfl
        try simp only [Act.put, List.setIfInBounds_toArray, List.set_cons_zero, List.set_cons_succ]
        refine wpAnyH_take (i := 15) (v := ?_) (by simp only [List.getElem?_toArray, List.getElem?_cons_succ, List.getElem?_cons_zero]; rfl) (by kernel_rfl) (by kernel_rfl) (by kernel_rfl) (by exact fun _ _ _ h => h) (Or.inl ⟨by rfl, ?_⟩) (by assumption) ?_
        rotate_left
        · intro w hSw; (try dsimp only at hSw); go_simp; try with_reducible rfl
        try simp only [Act.put, List.setIfInBounds_toArray, List.set_cons_zero, List.set_cons_succ]
        refine wpAnyH_take (i := 16) (v := ?_) (by simp only [List.getElem?_toArray, List.getElem?_cons_succ, List.getElem?_cons_zero]; rfl) (by kernel_rfl) (by kernel_rfl) (by kernel_rfl) (by exact fun _ _ _ h => h) (Or.inl ⟨by rfl, ?_⟩) (by assumption) ?_
        rotate_left
        · intro w hSw; (try dsimp only at hSw); go_simp; try with_reducible rfl
        try simp only [Act.put, List.setIfInBounds_toArray, List.set_cons_zero, List.set_cons_succ]
        refine wpAnyH_take (i := 17) (v := ?_) (by simp only [List.getElem?_toArray, List.getElem?_cons_succ, List.getElem?_cons_zero]; rfl) (by kernel_rfl) (by kernel_rfl) (by kernel_rfl) (by exact fun _ _ _ h => h) (Or.inl ⟨by rfl, ?_⟩) (by assumption) ?_
        rotate_left
        · intro w hSw; (try dsimp only at hSw); go_simp; try with_reducible rfl
        try simp only [Act.put, List.setIfInBounds_toArray, List.set_cons_zero, List.set_cons_succ]
        refine wpAnyH_take (i := 18) (v := ?_) (by simp only [List.getElem?_toArray, List.getElem?_cons_succ, List.getElem?_cons_zero]; rfl) (by kernel_rfl) (by kernel_rfl) (by kernel_rfl) (by exact fun _ _ _ h => h) (Or.inl ⟨by rfl, ?_⟩) (by assumption) ?_
        rotate_left
        · intro w hSw; (try dsimp only at hSw); go_simp; try with_reducible rfl
        try simp only [Act.put, List.setIfInBounds_toArray, List.set_cons_zero, List.set_cons_succ]
        refine wpAnyH_take (i := 19) (v := ?_) (by simp only [List.getElem?_toArray, List.getElem?_cons_succ, List.getElem?_cons_zero]; rfl) (by kernel_rfl) (by kernel_rfl) (by kernel_rfl) (by exact fun _ _ _ h => h) (Or.inl ⟨by rfl, ?_⟩) (by assumption) ?_
        rotate_left
        · intro w hSw; (try dsimp only at hSw); go_simp; try with_reducible rfl
        try simp only [Act.put, List.setIfInBounds_toArray, List.set_cons_zero, List.set_cons_succ]
        refine wpAnyH_take (i := 20) (v := ?_) (by simp only [List.getElem?_toArray, List.getElem?_cons_succ, List.getElem?_cons_zero]; rfl) (by kernel_rfl) (by kernel_rfl) (by kernel_rfl) (by exact fun _ _ _ h => h) (Or.inl ⟨by rfl, ?_⟩) (by assumption) ?_
        rotate_left
        · intro w hSw; (try dsimp only at hSw); go_simp; try with_reducible rfl
        try simp only [Act.put, List.setIfInBounds_toArray, List.set_cons_zero, List.set_cons_succ]
        refine wpAnyH_take (i := 21) (v := ?_) (by simp only [List.getElem?_toArray, List.getElem?_cons_succ, List.getElem?_cons_zero]; rfl) (by kernel_rfl) (by kernel_rfl) (by kernel_rfl) (by exact fun _ _ _ h => h) (Or.inl ⟨by rfl, ?_⟩) (by assumption) ?_
        rotate_left
        · intro w hSw; (try dsimp only at hSw); go_simp; try with_reducible rfl
        try simp only [Act.put, List.setIfInBounds_toArray, List.set_cons_zero, List.set_cons_succ]
        refine wpAnyH_take (i := 22) (v := ?_) (by simp only [List.getElem?_toArray, List.getElem?_cons_succ, List.getElem?_cons_zero]; rfl) (by kernel_rfl) (by kernel_rfl) (by kernel_rfl) (by exact fun _ _ _ h => h) (Or.inl ⟨by rfl, ?_⟩) (by assumption) ?_
        rotate_left
        · intro w hSw; (try dsimp only at hSw); go_simp; try with_reducible rfl
        try simp only [Act.put, List.setIfInBounds_toArray, List.set_cons_zero, List.set_cons_succ]
        refine wpAnyH_take (i := 23) (v := ?_) (by simp only [List.getElem?_toArray, List.getElem?_cons_succ, List.getElem?_cons_zero]; rfl) (by kernel_rfl) (by kernel_rfl) (by kernel_rfl) (by exact fun _ _ _ h => h) (Or.inl ⟨by rfl, ?_⟩) (by assumption) ?_
        rotate_left
        · intro w hSw; (try dsimp only at hSw); go_simp; try with_reducible rfl
        try simp only [Act.put, List.setIfInBounds_toArray, List.set_cons_zero, List.set_cons_succ]
        refine wpAnyH_take (i := 24) (v := ?_) (by simp only [List.getElem?_toArray, List.getElem?_cons_succ, List.getElem?_cons_zero]; rfl) (by kernel_rfl) (by kernel_rfl) (by kernel_rfl) (by exact fun _ _ _ h => h) (Or.inl ⟨by rfl, ?_⟩) (by assumption) ?_
        rotate_left
        · intro w hSw; (try dsimp only at hSw); go_simp; try with_reducible rfl
        try simp only [Act.put, List.setIfInBounds_toArray, List.set_cons_zero, List.set_cons_succ]
        refine wpAnyH_take (i := 25) (v := ?_) (by simp only [List.getElem?_toArray, List.getElem?_cons_succ, List.getElem?_cons_zero]; rfl) (by kernel_rfl) (by kernel_rfl) (by kernel_rfl) (by exact fun _ _ _ h => h) (Or.inl ⟨by rfl, ?_⟩) (by assumption) ?_
        rotate_left
        · intro w hSw; (try dsimp only at hSw); go_simp; try with_reducible rfl
        try simp only [Act.put, List.setIfInBounds_toArray, List.set_cons_zero, List.set_cons_succ]
        refine wpAnyH_take (i := 26) (v := ?_) (by simp only [List.getElem?_toArray, List.getElem?_cons_succ, List.getElem?_cons_zero]; rfl) (by kernel_rfl) (by kernel_rfl) (by kernel_rfl) (by exact fun _ _ _ h => h) (Or.inl ⟨by rfl, ?_⟩) (by assumption) ?_
        rotate_left
        · intro w hSw; (try dsimp only at hSw); go_simp; try with_reducible rfl
        try simp only [Act.put, List.setIfInBounds_toArray, List.set_cons_zero, List.set_cons_succ]
        refine wpAnyH_ready (rs := [4, 27]) (by kernel_rfl) (by simp) ?_
        refine AllReadyH.cons (by simp only [List.getElem?_toArray, List.getElem?_cons_succ, List.getElem?_cons_zero]; rfl) (fun K hK => ?_) (AllReadyH.cons (by simp only [List.getElem?_toArray, List.getElem?_cons_succ, List.getElem?_cons_zero]; rfl) (fun K hK => ?_) AllReadyH.nil)
        go_simp
        refine hK.out _ _ ?_ (fun hHeld => ?_)
        · (try dsimp only); first | with_reducible exact m10 | with_reducible exact s17_only m10 ((Only.refl [] _).alloc _) (by simp) (by simp) (by simp) | with_reducible exact m11 | with_reducible exact s17_set m11 hne hg7b _ | (go_keep; done)
        clear hK K
        try simp only [Act.put, List.setIfInBounds_toArray, List.set_cons_zero, List.set_cons_succ]
        refine wpAnyH_ready (rs := [27]) (by kernel_rfl) (by simp) ?_
        refine AllReadyH.cons (by simp only [List.getElem?_toArray, List.getElem?_cons_succ, List.getElem?_cons_zero]; rfl) (fun K hK => ?_) AllReadyH.nil
        go_simp; go_at_call 46; refine (HPN1.out _).mono ?_; rintro e w12 ⟨pt1, pg1, rfl, hb1, hb2, hb3, hb4, hb5, ho9'⟩; have ho10 : Only [] wp w12 := ⟨ho9'.os, ho9'.tape, ho9'.output, ho9'.size, ho9'.block⟩; have m10 := s17_only HS1p.out ho10 (by simp) (by simp) (by simp); have M101 := Lib.hid m10; have e6 := cell_only ho10 d6p (by simp); have e6b := cell_only (ho10.alloc (.cells #[.pointer (some ⟨pt1, 0, none⟩)] 107)) d6p (by simp); have HP11 := Lib.hid hb1; have HP21 := Lib.hid hb2; have HP31 := Lib.hid hb3; have HP41 := Lib.hid hb4; have HP51 := Lib.hid hb5; have HO101 := Lib.hid ho10; have HRNP1 := Lib.hid (row_new w12 [.pointer (some ⟨pt1, 0, none⟩)] 107); have HBSP1 := Lib.hid (show w.heap.size ≤ (w12.alloc (.cells #[.pointer (some ⟨pt1, 0, none⟩)] 107)).heap.size from Nat.le_trans HBW1.out (Nat.le_trans ho10.size (size_alloc_le _ _))); have HOWB := Lib.hid ((own_only HOWN1.out ho10 (fun k hk => by simp)).alloc (.cells #[.pointer (some ⟨pt1, 0, none⟩)] 107)); clear hb1 hb2 hb3 hb4 hb5 ho9'
        refine hK.out _ _ ?_ (fun hHeld => ?_)
        · (try dsimp only); first | with_reducible exact m10 | with_reducible exact s17_only m10 ((Only.refl [] _).alloc _) (by simp) (by simp) (by simp) | with_reducible exact m11 | with_reducible exact s17_set m11 hne hg7b _ | (go_keep; done)
        clear hK K
        try simp only [Act.put, List.setIfInBounds_toArray, List.set_cons_zero, List.set_cons_succ]
        refine wpAnyH_ready (rs := [28]) (by kernel_rfl) (by simp) ?_
        refine AllReadyH.cons (by simp only [List.getElem?_toArray, List.getElem?_cons_succ, List.getElem?_cons_zero]; rfl) (fun K hK => ?_) AllReadyH.nil
        go_simp
        refine hK.out _ _ ?_ (fun hHeld => ?_)
        · (try dsimp only); first | with_reducible exact m10 | with_reducible exact s17_only m10 ((Only.refl [] _).alloc _) (by simp) (by simp) (by simp) | with_reducible exact m11 | with_reducible exact s17_set m11 hne hg7b _ | (go_keep; done)
        clear hK K
        try simp only [Act.put, List.setIfInBounds_toArray, List.set_cons_zero, List.set_cons_succ]
        refine wpAnyH_ready (rs := [29]) (by kernel_rfl) (by simp) ?_
        refine AllReadyH.cons (by simp only [List.getElem?_toArray, List.getElem?_cons_succ, List.getElem?_cons_zero]; rfl) (fun K hK => ?_) AllReadyH.nil
        refine step_append_is rfl (.tmp 103) (.tmp 127) rfl elemPt rfl HOWB.out _ 1 _ [.pointer (some ⟨pt1, 0, none⟩)] rfl HRNP1.out rfl (by simp [Value.oneCell']) HM3.out HM4.out HBSP1.out (fun e => by cases e) ?_; intro v5 w13 hown5 hg5 hat5; obtain ⟨gq, cq, rfl⟩ := own_some hown5 (by omega); have hg5' : World.grownBy (w12.alloc (.cells #[.pointer (some ⟨pt1, 0, none⟩)] 107)) w13 (some gp) := hg5; have m11 := s17_far (s17_only M101.out ((Only.refl [] w12).alloc (.cells #[.pointer (some ⟨pt1, 0, none⟩)] 107)) (by simp) (by simp) (by simp)) hg5' HGN.out.1 HGN.out.2.1 HGN.out.2.2; have hb11 := blk_grown (HSB1.out.only (HO101.out.alloc (.cells #[.pointer (some ⟨pt1, 0, none⟩)] 107)) (by simp)) hg5' HGN.out.1; have f6 := hb11.cell (i := 6) rfl; have ff := hb11.frozen; have HB111 := Lib.hid hb11; have HOWNP1 := Lib.hid hown5; have HGP1 := Lib.hid hg5'; have HATP1 := Lib.hid (show some gq = some gp ∨ some gq = some (w12.alloc (.cells #[.pointer (some ⟨pt1, 0, none⟩)] 107)).heap.size from hat5); clear hown5 hg5 hg5' hat5 hb11
        refine hK.out _ _ ?_ (fun hHeld => ?_)
        · (try dsimp only); first | with_reducible exact m10 | with_reducible exact s17_only m10 ((Only.refl [] _).alloc _) (by simp) (by simp) (by simp) | with_reducible exact m11 | with_reducible exact s17_set m11 hne hg7b _ | (go_keep; done)
        clear hK K
        try simp only [Act.put, List.setIfInBounds_toArray, List.set_cons_zero, List.set_cons_succ]
        refine wpAnyH_take (i := 30) (v := ?_) (by simp only [List.getElem?_toArray, List.getElem?_cons_succ, List.getElem?_cons_zero]; rfl) (by kernel_rfl) (by kernel_rfl) (by kernel_rfl) (by exact fun _ _ _ h => h) (Or.inl ⟨by rfl, ?_⟩) (by assumption) ?_
        rotate_left
        · intro w hSw; (try dsimp only at hSw); go_simp; try with_reducible rfl
        try simp only [Act.put, List.setIfInBounds_toArray, List.set_cons_zero, List.set_cons_succ]
        refine wpAnyH_take (i := 31) (v := ?_) (by simp only [List.getElem?_toArray, List.getElem?_cons_succ, List.getElem?_cons_zero]; rfl) (by kernel_rfl) (by kernel_rfl) (by kernel_rfl) (by exact fun _ _ _ h => h) (Or.inl ⟨by rfl, ?_⟩) (by assumption) ?_
        rotate_left
        · intro w hSw; (try dsimp only at hSw); go_simp; try with_reducible rfl
        try simp only [Act.put, List.setIfInBounds_toArray, List.set_cons_zero, List.set_cons_succ]
        refine wpAnyH_ready (rs := [32]) (by kernel_rfl) (by simp) ?_
        refine AllReadyH.cons (by simp only [List.getElem?_toArray, List.getElem?_cons_succ, List.getElem?_cons_zero]; rfl) (fun K hK => ?_) AllReadyH.nil
        go_simp
        refine hK.out _ _ ?_ (fun hHeld => ?_)
        · (try dsimp only); first | with_reducible exact m10 | with_reducible exact s17_only m10 ((Only.refl [] _).alloc _) (by simp) (by simp) (by simp) | with_reducible exact m11 | with_reducible exact s17_set m11 hne hg7b _ | (go_keep; done)
        clear hK K
        try simp only [Act.put, List.setIfInBounds_toArray, List.set_cons_zero, List.set_cons_succ]
        refine wpAnyH_done (by kernel_rfl) ?_ _
        rotate_left 1
        go_simp; go_at_call 46; refine (HPN1.out _).mono ?_; rintro e w12 ⟨pt1, pg1, rfl, hb1, hb2, hb3, hb4, hb5, ho9'⟩; have ho10 : Only [] wp w12 := ⟨ho9'.os, ho9'.tape, ho9'.output, ho9'.size, ho9'.block⟩; have m10 := s17_only HS1p.out ho10 (by simp) (by simp) (by simp); have M101 := Lib.hid m10; have e6 := cell_only ho10 d6p (by simp); have e6b := cell_only (ho10.alloc (.cells #[.pointer (some ⟨pt1, 0, none⟩)] 107)) d6p (by simp); have HP11 := Lib.hid hb1; have HP21 := Lib.hid hb2; have HP31 := Lib.hid hb3; have HP41 := Lib.hid hb4; have HP51 := Lib.hid hb5; have HO101 := Lib.hid ho10; have HRNP1 := Lib.hid (row_new w12 [.pointer (some ⟨pt1, 0, none⟩)] 107); have HBSP1 := Lib.hid (show w.heap.size ≤ (w12.alloc (.cells #[.pointer (some ⟨pt1, 0, none⟩)] 107)).heap.size from Nat.le_trans HBW1.out (Nat.le_trans ho10.size (size_alloc_le _ _))); have HOWB := Lib.hid ((own_only HOWN1.out ho10 (fun k hk => by simp)).alloc (.cells #[.pointer (some ⟨pt1, 0, none⟩)] 107)); clear hb1 hb2 hb3 hb4 hb5 ho9'
        refine hK.out _ _ ?_ (fun hHeld => ?_)
        · (try dsimp only); first | with_reducible exact m10 | with_reducible exact s17_only m10 ((Only.refl [] _).alloc _) (by simp) (by simp) (by simp) | with_reducible exact m11 | with_reducible exact s17_set m11 hne hg7b _ | (go_keep; done)
        clear hK K
        try simp only [Act.put, List.setIfInBounds_toArray, List.set_cons_zero, List.set_cons_succ]
        refine wpAnyH_ready (rs := [4, 28]) (by kernel_rfl) (by simp) ?_
        refine AllReadyH.cons (by simp only [List.getElem?_toArray, List.getElem?_cons_succ, List.getElem?_cons_zero]; rfl) (fun K hK => ?_) (AllReadyH.cons (by simp only [List.getElem?_toArray, List.getElem?_cons_succ, List.getElem?_cons_zero]; rfl) (fun K hK => ?_) AllReadyH.nil)
        go_simp
        refine hK.out _ _ ?_ (fun hHeld => ?_)
        · (try dsimp only); first | with_reducible exact m10 | with_reducible exact s17_only m10 ((Only.refl [] _).alloc _) (by simp) (by simp) (by simp) | with_reducible exact m11 | with_reducible exact s17_set m11 hne hg7b _ | (go_keep; done)
        clear hK K
        try simp only [Act.put, List.setIfInBounds_toArray, List.set_cons_zero, List.set_cons_succ]
        refine wpAnyH_ready (rs := [28]) (by kernel_rfl) (by simp) ?_
        refine AllReadyH.cons (by simp only [List.getElem?_toArray, List.getElem?_cons_succ, List.getElem?_cons_zero]; rfl) (fun K hK => ?_) AllReadyH.nil
        go_simp
        refine hK.out _ _ ?_ (fun hHeld => ?_)
        · (try dsimp only); first | with_reducible exact m10 | with_reducible exact s17_only m10 ((Only.refl [] _).alloc _) (by simp) (by simp) (by simp) | with_reducible exact m11 | with_reducible exact s17_set m11 hne hg7b _ | (go_keep; done)
        clear hK K
        try simp only [Act.put, List.setIfInBounds_toArray, List.set_cons_zero, List.set_cons_succ]
        refine wpAnyH_ready (rs := [29]) (by kernel_rfl) (by simp) ?_
        refine AllReadyH.cons (by simp only [List.getElem?_toArray, List.getElem?_cons_succ, List.getElem?_cons_zero]; rfl) (fun K hK => ?_) AllReadyH.nil
        refine step_append_is rfl (.tmp 103) (.tmp 127) rfl elemPt rfl HOWB.out _ 1 _ [.pointer (some ⟨pt1, 0, none⟩)] rfl HRNP1.out rfl (by simp [Value.oneCell']) HM3.out HM4.out HBSP1.out (fun e => by cases e) ?_; intro v5 w13 hown5 hg5 hat5; obtain ⟨gq, cq, rfl⟩ := own_some hown5 (by omega); have hg5' : World.grownBy (w12.alloc (.cells #[.pointer (some ⟨pt1, 0, none⟩)] 107)) w13 (some gp) := hg5; have m11 := s17_far (s17_only M101.out ((Only.refl [] w12).alloc (.cells #[.pointer (some ⟨pt1, 0, none⟩)] 107)) (by simp) (by simp) (by simp)) hg5' HGN.out.1 HGN.out.2.1 HGN.out.2.2; have hb11 := blk_grown (HSB1.out.only (HO101.out.alloc (.cells #[.pointer (some ⟨pt1, 0, none⟩)] 107)) (by simp)) hg5' HGN.out.1; have f6 := hb11.cell (i := 6) rfl; have ff := hb11.frozen; have HB111 := Lib.hid hb11; have HOWNP1 := Lib.hid hown5; have HGP1 := Lib.hid hg5'; have HATP1 := Lib.hid (show some gq = some gp ∨ some gq = some (w12.alloc (.cells #[.pointer (some ⟨pt1, 0, none⟩)] 107)).heap.size from hat5); clear hown5 hg5 hg5' hat5 hb11
        refine hK.out _ _ ?_ (fun hHeld => ?_)
        · (try dsimp only); first | with_reducible exact m10 | with_reducible exact s17_only m10 ((Only.refl [] _).alloc _) (by simp) (by simp) (by simp) | with_reducible exact m11 | with_reducible exact s17_set m11 hne hg7b _ | (go_keep; done)
        clear hK K
        try simp only [Act.put, List.setIfInBounds_toArray, List.set_cons_zero, List.set_cons_succ]
        refine wpAnyH_take (i := 30) (v := ?_) (by simp only [List.getElem?_toArray, List.getElem?_cons_succ, List.getElem?_cons_zero]; rfl) (by kernel_rfl) (by kernel_rfl) (by kernel_rfl) (by exact fun _ _ _ h => h) (Or.inl ⟨by rfl, ?_⟩) (by assumption) ?_
        rotate_left
        · intro w hSw; (try dsimp only at hSw); go_simp; try with_reducible rfl
        try simp only [Act.put, List.setIfInBounds_toArray, List.set_cons_zero, List.set_cons_succ]
        refine wpAnyH_take (i := 31) (v := ?_) (by simp only [List.getElem?_toArray, List.getElem?_cons_succ, List.getElem?_cons_zero]; rfl) (by kernel_rfl) (by kernel_rfl) (by kernel_rfl) (by exact fun _ _ _ h => h) (Or.inl ⟨by rfl, ?_⟩) (by assumption) ?_
        rotate_left
        · intro w hSw; (try dsimp only at hSw); go_simp; try with_reducible rfl
        try simp only [Act.put, List.setIfInBounds_toArray, List.set_cons_zero, List.set_cons_succ]
        refine wpAnyH_ready (rs := [32]) (by kernel_rfl) (by simp) ?_
        refine AllReadyH.cons (by simp only [List.getElem?_toArray, List.getElem?_cons_succ, List.getElem?_cons_zero]; rfl) (fun K hK => ?_) AllReadyH.nil
        go_simp
        refine hK.out _ _ ?_ (fun hHeld => ?_)
        · (try dsimp only); first | with_reducible exact m10 | with_reducible exact s17_only m10 ((Only.refl [] _).alloc _) (by simp) (by simp) (by simp) | with_reducible exact m11 | with_reducible exact s17_set m11 hne hg7b _ | (go_keep; done)
        clear hK K
        try simp only [Act.put, List.setIfInBounds_toArray, List.set_cons_zero, List.set_cons_succ]
        refine wpAnyH_done (by kernel_rfl) ?_ _
        rotate_left 1
        go_simp
        refine hK.out _ _ ?_ (fun hHeld => ?_)
        · (try dsimp only); first | with_reducible exact m10 | with_reducible exact s17_only m10 ((Only.refl [] _).alloc _) (by simp) (by simp) (by simp) | with_reducible exact m11 | with_reducible exact s17_set m11 hne hg7b _ | (go_keep; done)
        clear hK K
        try simp only [Act.put, List.setIfInBounds_toArray, List.set_cons_zero, List.set_cons_succ]
        refine wpAnyH_ready (rs := [4]) (by kernel_rfl) (by simp) ?_
        refine AllReadyH.cons (by simp only [List.getElem?_toArray, List.getElem?_cons_succ, List.getElem?_cons_zero]; rfl) (fun K hK => ?_) AllReadyH.nil
        go_simp
        refine hK.out _ _ ?_ (fun hHeld => ?_)
        · (try dsimp only); first | with_reducible exact m10 | with_reducible exact s17_only m10 ((Only.refl [] _).alloc _) (by simp) (by simp) (by simp) | with_reducible exact m11 | with_reducible exact s17_set m11 hne hg7b _ | (go_keep; done)
        clear hK K
        try simp only [Act.put, List.setIfInBounds_toArray, List.set_cons_zero, List.set_cons_succ]
        refine wpAnyH_ready (rs := [29]) (by kernel_rfl) (by simp) ?_
        refine AllReadyH.cons (by simp only [List.getElem?_toArray, List.getElem?_cons_succ, List.getElem?_cons_zero]; rfl) (fun K hK => ?_) AllReadyH.nil
        refine step_append_is rfl (.tmp 103) (.tmp 127) rfl elemPt rfl HOWB.out _ 1 _ [.pointer (some ⟨pt1, 0, none⟩)] rfl HRNP1.out rfl (by simp [Value.oneCell']) HM3.out HM4.out HBSP1.out (fun e => by cases e) ?_; intro v5 w13 hown5 hg5 hat5; obtain ⟨gq, cq, rfl⟩ := own_some hown5 (by omega); have hg5' : World.grownBy (w12.alloc (.cells #[.pointer (some ⟨pt1, 0, none⟩)] 107)) w13 (some gp) := hg5; have m11 := s17_far (s17_only M101.out ((Only.refl [] w12).alloc (.cells #[.pointer (some ⟨pt1, 0, none⟩)] 107)) (by simp) (by simp) (by simp)) hg5' HGN.out.1 HGN.out.2.1 HGN.out.2.2; have hb11 := blk_grown (HSB1.out.only (HO101.out.alloc (.cells #[.pointer (some ⟨pt1, 0, none⟩)] 107)) (by simp)) hg5' HGN.out.1; have f6 := hb11.cell (i := 6) rfl; have ff := hb11.frozen; have HB111 := Lib.hid hb11; have HOWNP1 := Lib.hid hown5; have HGP1 := Lib.hid hg5'; have HATP1 := Lib.hid (show some gq = some gp ∨ some gq = some (w12.alloc (.cells #[.pointer (some ⟨pt1, 0, none⟩)] 107)).heap.size from hat5); clear hown5 hg5 hg5' hat5 hb11
        refine hK.out _ _ ?_ (fun hHeld => ?_)
        · (try dsimp only); first | with_reducible exact m10 | with_reducible exact s17_only m10 ((Only.refl [] _).alloc _) (by simp) (by simp) (by simp) | with_reducible exact m11 | with_reducible exact s17_set m11 hne hg7b _ | (go_keep; done)
        clear hK K
        try simp only [Act.put, List.setIfInBounds_toArray, List.set_cons_zero, List.set_cons_succ]
        refine wpAnyH_take (i := 30) (v := ?_) (by simp only [List.getElem?_toArray, List.getElem?_cons_succ, List.getElem?_cons_zero]; rfl) (by kernel_rfl) (by kernel_rfl) (by kernel_rfl) (by exact fun _ _ _ h => h) (Or.inl ⟨by rfl, ?_⟩) (by assumption) ?_
        rotate_left
        · intro w hSw; (try dsimp only at hSw); go_simp; try with_reducible rfl
        try simp only [Act.put, List.setIfInBounds_toArray, List.set_cons_zero, List.set_cons_succ]
        refine wpAnyH_take (i := 31) (v := ?_) (by simp only [List.getElem?_toArray, List.getElem?_cons_succ, List.getElem?_cons_zero]; rfl) (by kernel_rfl) (by kernel_rfl) (by kernel_rfl) (by exact fun _ _ _ h => h) (Or.inl ⟨by rfl, ?_⟩) (by assumption) ?_
        rotate_left
        · intro w hSw; (try dsimp only at hSw); go_simp; try with_reducible rfl
        try simp only [Act.put, List.setIfInBounds_toArray, List.set_cons_zero, List.set_cons_succ]
        refine wpAnyH_ready (rs := [32]) (by kernel_rfl) (by simp) ?_
        refine AllReadyH.cons (by simp only [List.getElem?_toArray, List.getElem?_cons_succ, List.getElem?_cons_zero]; rfl) (fun K hK => ?_) AllReadyH.nil
        go_simp
        refine hK.out _ _ ?_ (fun hHeld => ?_)
        · (try dsimp only); first | with_reducible exact m10 | with_reducible exact s17_only m10 ((Only.refl [] _).alloc _) (by simp) (by simp) (by simp) | with_reducible exact m11 | with_reducible exact s17_set m11 hne hg7b _ | (go_keep; done)
        clear hK K
        try simp only [Act.put, List.setIfInBounds_toArray, List.set_cons_zero, List.set_cons_succ]
        refine wpAnyH_done (by kernel_rfl) ?_ _
        all_goals
          go_wp2_with fail
          go_meet
          refine ⟨rfl, pt1, pg1, gq, cq, ?_⟩
          have hgn : Only [gp] w12 w13 := ((Only.refl _ _).alloc (.cells #[.pointer (some ⟨pt1, 0, none⟩)] 107)).grown HGP1.out (fun k hk => by cases hk; exact .inr (by simp))
          have hos : Only [sb] w13 (w13.setCell ⟨sb, 6, none⟩ (.slice (some ⟨gq, 0, none⟩) (1 + 1) cq)) := (Only.refl _ _).setCell (.inl (by simp)) _
          have h1 : wp.heap.size ≤ pt1 := HP11.out
          have h2 : wp.heap.size ≤ pg1 := HP21.out
          have h3 := HP41.out.lt
          have h4 := HP51.out.lt
          have h6 : wp.heap.size ≤ w12.heap.size := HO101.out.size
          have h5 : gq = gp ∨ w12.heap.size < gq := by
            rcases HATP1.out with e | e
            · injection e with e; exact .inl e
            · injection e with e; simp at e; exact .inr (by omega)
          have h7 : gq ≠ sb := by rcases h5 with e | e <;> omega
          exact ⟨((HO101.out.mono (Y := [sb, gp]) (by simp)).trans (hgn.mono (by simp))).trans (hos.mono (by simp)), (HP41.out.only hgn (by simp; omega)).only hos (by simp; omega), (HP51.out.only hgn (by simp; omega)).only hos (by simp; omega), ⟨h1, h2, by rcases h5 with e | e; exact .inl e; exact .inr (by omega), HP31.out, by rcases h5 with e | e <;> omega, by rcases h5 with e | e <;> omega⟩, own_only HOWNP1.out hos (fun k hk => by cases hk; simp; omega), HB111.out.set 6 _⟩
      case rest =>
        obtain ⟨rfl, pt1, pg1, gq, cq, hqo, hq0, hq1, ⟨hq2, hq3, hq4, hq5, hq6, hq7⟩, hqw, hqs⟩ := hcut
        have HQO := Lib.hid hqo; have HQ2 := Lib.hid hq0; have HQ3 := Lib.hid hq1; have HQW := Lib.hid hqw; have HQS := Lib.hid hqs
        clear hqo hq0 hq1 hqw hqs
        go_wp2_with fail
        rw [rounds_succ]
        go_wp2_with fail
        go_ret2
        have hfo : Only [sb] W9 wc := ((HPO.out.mono (Y := [sb, gp]) (by simp)).trans HQO.out).fresh (fun k hk hl => by simp at hk ⊢; omega)
        have hN := HN9.out.step hfo (by simp)
        have h8 : w6.heap.size ≤ w8.heap.size := by have := HX7.out.size; omega
        have hl9 : w8.heap.size ≤ ld ∧ w8.heap.size ≤ lt ∧ w8.heap.size ≤ lp0 ∧ w8.heap.size ≤ lp1 ∧ w8.heap.size ≤ lg ∧ w8.heap.size ≤ lq := HB9.out
        have hwp : W9.heap.size ≤ wp.heap.size := HPO.out.size
        have hS := made_in HP.out hN.pool hN.clock (HE9.out.only hfo (by simp; omega) (by simp)) (HT9.out.only hfo (by simp; omega)) (HX09.out.only hfo (by simp; omega) (by simp; omega) (by simp)) (HX19.out.only hfo (by simp; omega) (by simp; omega) (by simp))
          (HA1.out.only hfo (by simp; omega)) (HA2.out.only hfo (by simp; omega)) (HA3.out.only hfo (by simp; omega)) (HA4.out.only hfo (by simp; omega)) (cell_only hfo HA5.out (by simp; omega)) (cell_only hfo HA6.out (by simp; omega)) (cell_only hfo HA7.out (by simp; omega)) (cell_only hfo HA8.out (by simp; omega))
          (HQ0.out.only HQO.out (by simp; omega)) (HQ1.out.only HQO.out (by simp; omega)) HQ2.out HQ3.out (own_cell HQW.out (j := 0) rfl) (own_cell HQW.out (j := 1) rfl) HQS.out hN.mid hN.high.1 hN.high.2 h1 h2 h3 ht1.1 ht1.2 (t2 := w6.heap.size) (t4 := w8.heap.size) (t6 := W9.heap.size)
          ⟨hx0g.1, by omega⟩ ⟨hx0g.2, by omega⟩ ⟨hx1g.1, by omega⟩ ⟨hx1g.2, by omega⟩ hl9 HB10.out HB11.out ⟨by omega, by omega⟩ ⟨by omega, by omega, by omega, by omega, by rcases hq4 with e | e <;> omega⟩ hsk
        refine ⟨_, ?_, hS, hN.only.size, hN.only, fun k hk => ?_⟩
        · rfl
        · have := hx0g.1
          have := hN.high
          simp only [newCol]
          repeat' split
          all_goals omega
end Go.Proofs.YteeefedoffplmaaGreat
