/- what store.New leaves is a store: plain. -/
import Derived.Test.YteeefedoffplmaaGreatStore
set_option linter.unusedSimpArgs false
set_option linter.unusedVariables false
namespace Go.Proofs.YteeefedoffplmaaGreat
open Go.RowKit

theorem own_nil {w : World} {base e s : Nat} {v : Value} (h : w.ownsRow base e s v 0 []) (hn : v.ownBlock = none) (b2 : Nat) : w.ownsRow b2 e s v 0 [] := by
  obtain ⟨h1, h2⟩ := h
  refine ⟨h1, ?_⟩
  rcases h2 with h2 | ⟨g, cap, cur, hv, _⟩
  · exact .inl h2
  · subst hv
    simp [Value.ownBlock] at hn
theorem EpochAt.raise {w : World} {eb pb base b2 : Nat} {E : EpochS} (h : EpochAt w eb pb base none E) (he : E.list = []) (h1 : eb < b2) (h2 : b2 ≤ w.heap.size) : EpochAt w eb pb b2 none E := by
  obtain ⟨⟨lv, hb, hown, ho⟩, _, _, h4, h5, h6, h7, h8⟩ := h
  rw [he] at hown
  exact ⟨⟨lv, hb, by rw [he]; exact own_nil hown ho b2, ho⟩, h1, h2, h4, h5, h6, h7, h8⟩
theorem ChainAt.raise {w : World} {X : ChainL} {pb cb base b2 : Nat} {C : ChainS} (h : ChainAt w X pb cb base [] C) (hs : ∀ s ∈ C.sets, s.2 = []) (h1 : X.xb < b2 ∧ X.sb < b2) (h2 : b2 ≤ w.heap.size) : ChainAt w X pb cb b2 [] C := by
  obtain ⟨⟨rows, e, q1, q2, q3⟩, h3, h4, h5, h6, h7⟩ := h
  refine ⟨⟨rows, e, q1, q2, ⟨fun r hr => ?_, q3.apart⟩⟩, h3, h1, h2, h6, by simp⟩
  obtain ⟨o1, o2, o3⟩ := q3.own r hr
  have hr0 : r.2.1 = [] := hs (r.1, r.2.1) (by rw [e]; exact List.mem_map.2 ⟨r, hr, rfl⟩)
  have hn : r.2.2.ownBlock = none := by
    cases h : r.2.2.ownBlock with
    | none => rfl
    | some k => exact absurd (o2 k h) (by simp)
  refine ⟨?_, o2, o3⟩
  rw [hr0] at o1 ⊢
  exact own_nil o1 hn b2
def newCol (sb clb ccb eb t1 t2 t4 lp0 lp1 : Nat) (k : Nat) : Nat :=
  if sb < k ∧ k < clb then 1 else if k = clb ∨ k = ccb then 2 else if k = eb then 3 else if t1 ≤ k ∧ k < t2 then 4 else if k = lp0 then 5 else if t2 ≤ k ∧ k < t4 then 6 else if k = lp1 then 7 else 0
set_option maxHeartbeats 6400000 in
theorem made_in {W : World} {L : PoolL} {K : ClockL} {X0 X1 : ChainL} {nm eb ts b0 b1 be ld lt lp0 lp1 lg lc lq lqc pt0 pg0 pt1 pg1 gq cq sb t1 t2 t4 t6 : Nat} {k v : Int} (hpt : partOf k 2 = 0)
    (hpool : PoolAt W L (PoolS.new 20)) (hclock : ClockAt W K ⟨1, List.replicate 2 0⟩) (hep : EpochAt W eb L.pb be none ⟨2, 1, 0, 0, []⟩) (hts : Blk W ts [ptr L.pb] 187)
    (hx0 : ChainAt W X0 L.pb K.cb b0 [] ⟨0, List.replicate 21 (0, [])⟩) (hx1 : ChainAt W X1 L.pb K.cb b1 [] ⟨0, List.replicate 21 (0, [])⟩)
    (hld : Blk W ld [ptr L.pb, ptr lt, .slice (some ⟨lg, 0, none⟩) 2 lc] 194) (hlt : Blk W lt [ptr L.pb] 187)
    (hl0 : Blk W lp0 [.int .i64 0, ptr X0.xb, .slice (some ⟨lq, 0, none⟩) 1 lqc, .int .i64 0] 197) (hl1 : Blk W lp1 [.int .i64 0, ptr X1.xb, .slice none 0 0, .int .i64 0] 197)
    (hg0 : W.cell? ⟨lg, 0, none⟩ = some (ptr lp0)) (hg1 : W.cell? ⟨lg, 1, none⟩ = some (ptr lp1)) (hq0 : W.cell? ⟨lq, 0, none⟩ = some (.int .i64 k)) (hq1 : W.cell? ⟨lq, 1, none⟩ = some (.int .i64 v))
    (hp0 : Blk W pt0 [ptr X0.xb, .int .i64 0, .int .i64 2, ptr L.pb, ptr pg0, ptr eb, ptr ld] 152) (hpg0 : Blk W pg0 [ptr L.pb] 187)
    (hp1 : Blk W pt1 [ptr X1.xb, .int .i64 1, .int .i64 2, ptr L.pb, ptr pg1, ptr eb, ptr ld] 152) (hpg1 : Blk W pg1 [ptr L.pb] 187)
    (hgq0 : W.cell? ⟨gq, 0, none⟩ = some (ptr pt0)) (hgq1 : W.cell? ⟨gq, 1, none⟩ = some (ptr pt1))
    (hsb : Blk W sb [ptr L.pb, ptr K.cb, ptr eb, ptr ld, ptr nm, ptr ts, .slice (some ⟨gq, 0, none⟩) 2 cq] 94)
    (hmid : ∀ k ∈ L.all, sb < k ∧ k < K.lb) (i1 : K.lb < K.cb) (i2 : K.cb < nm) (i3 : nm < eb) (i4 : nm < ts) (i5 : eb ≠ ts) (i6 : eb < t1) (i7 : ts < t1) (i8 : t1 ≤ X0.xb ∧ X0.xb < t2) (i9 : t1 ≤ X0.sb ∧ X0.sb < t2) (i10 : t2 ≤ X1.xb ∧ X1.xb < t4) (i11 : t2 ≤ X1.sb ∧ X1.sb < t4)
    (i12 : t4 ≤ ld ∧ t4 ≤ lt ∧ t4 ≤ lp0 ∧ t4 ≤ lp1 ∧ t4 ≤ lg ∧ t4 ≤ lq) (i13 : lp0 ≠ lp1 ∧ lp0 ≠ ld ∧ lp0 ≠ lt ∧ lp0 ≠ lg ∧ lp0 ≠ lq) (i14 : lp1 ≠ ld ∧ lp1 ≠ lt ∧ lp1 ≠ lg ∧ lp1 ≠ lq) (i15 : lp0 < t6 ∧ lp1 < t6) (i16 : t6 ≤ pt0 ∧ t6 ≤ pg0 ∧ t6 ≤ pt1 ∧ t6 ≤ pg1 ∧ t6 ≤ gq) (i17 : sb < K.lb) :
    StoreIn W ⟨L, K, eb, sb, ld, lt, nm, ts, W.heap.size, 2, fun i => if i = 0 then X0 else X1, fun i => if i = 0 then lp0 else lp1, fun i => if i = 0 then pt0 else pt1, fun i => if i = 0 then pg0 else pg1, newCol sb K.lb K.cb eb t1 t2 t4 lp0 lp1⟩ none (fun _ => []) (StoreS.new 2 2 20 2 [(k, v)] 0) := by
  have z0 := hsb.lt
  have z1 := hld.lt
  have z2 := hlt.lt
  have z3 := hl0.lt
  have z4 := hl1.lt
  have z5 := hp0.lt
  have z6 := hp1.lt
  have z7 := hpg0.lt
  have z8 := hpg1.lt
  have z9 := cell_lt hgq0
  have z10 := cell_lt hg0
  have z11 := cell_lt hq0
  have z12 := hts.lt
  have z13 := hclock.c.lt
  have z14 := hclock.l.lt
  have z15 : eb < W.heap.size := by obtain ⟨lv, h, _⟩ := hep.ex; exact h.lt
  have z16 : X0.xb < W.heap.size ∧ X0.sb < W.heap.size := ⟨Nat.lt_of_lt_of_le hx0.lt.1 hx0.room, Nat.lt_of_lt_of_le hx0.lt.2 hx0.room⟩
  have z17 : X1.xb < W.heap.size ∧ X1.sb < W.heap.size := ⟨Nat.lt_of_lt_of_le hx1.lt.1 hx1.room, Nat.lt_of_lt_of_le hx1.lt.2 hx1.room⟩
  have hlow : t1 ≤ t2 ∧ t2 ≤ t4 ∧ t4 ≤ t6 := by omega
  have h2 : ∀ i, i < 2 → i = 0 ∨ i = 1 := fun i h => by omega
  have hsets : ∀ s ∈ (List.replicate 21 ((0 : Int), ([] : List Int))), s.2 = [] := fun s hs => by rw [List.eq_of_mem_replicate hs]
  have hnew : (StoreS.new 2 2 20 2 [(k, v)] 0).loads = [⟨0, [(k, v)], 0⟩, ⟨0, [], 0⟩] := by
    simp [StoreS.new, List.range_succ, hpt]
  have hch : (StoreS.new 2 2 20 2 [(k, v)] 0).chains = [⟨0, List.replicate 21 (0, [])⟩, ⟨0, List.replicate 21 (0, [])⟩] := rfl
  refine ⟨?_, ?_, hpool, hclock, hep.raise rfl z15 (Nat.le_refl _), ?_, ?_, ?_, ?_, ?_, ?_, ?_, ?_, ?_, Nat.le_refl _⟩
  · refine ⟨fun k hk => ?_, ?_, ?_, ?_, fun i hi => ?_, fun i hi => ?_, fun i hi => ?_, ?_, ?_, ?_, ?_, fun i hi => ?_, fun i hi => ?_, by simp⟩
    · have := hmid k hk
      have := hpool.lt k hk
      (refine And.intro ?_ ?_ <;> simp only [newCol, reduceIte, Nat.one_ne_zero, or_true, true_or] <;> first | omega | (repeat' split) <;> omega)
    · (refine And.intro ?_ ?_ <;> simp only [newCol, reduceIte, Nat.one_ne_zero, or_true, true_or] <;> first | omega | (repeat' split) <;> omega)
    · (refine And.intro ?_ ?_ <;> simp only [newCol, reduceIte, Nat.one_ne_zero, or_true, true_or] <;> first | omega | (repeat' split) <;> omega)
    · (refine And.intro ?_ ?_ <;> simp only [newCol, reduceIte, Nat.one_ne_zero, or_true, true_or] <;> first | omega | (repeat' split) <;> omega)
    · rcases h2 i hi with rfl | rfl
      · (refine And.intro ?_ ?_ <;> simp only [newCol, reduceIte, Nat.one_ne_zero, or_true, true_or] <;> first | omega | (repeat' split) <;> omega)
      · (refine And.intro ?_ ?_ <;> simp only [newCol, reduceIte, Nat.one_ne_zero, or_true, true_or] <;> first | omega | (repeat' split) <;> omega)
    · rcases h2 i hi with rfl | rfl
      · (refine And.intro ?_ ?_ <;> simp only [newCol, reduceIte, Nat.one_ne_zero, or_true, true_or] <;> first | omega | (repeat' split) <;> omega)
      · (refine And.intro ?_ ?_ <;> simp only [newCol, reduceIte, Nat.one_ne_zero, or_true, true_or] <;> first | omega | (repeat' split) <;> omega)
    · rcases h2 i hi with rfl | rfl
      · (refine And.intro ?_ ?_ <;> simp only [newCol, reduceIte, Nat.one_ne_zero, or_true, true_or] <;> first | omega | (repeat' split) <;> omega)
      · (refine And.intro ?_ ?_ <;> simp only [newCol, reduceIte, Nat.one_ne_zero, or_true, true_or] <;> first | omega | (repeat' split) <;> omega)
    · (refine And.intro ?_ ?_ <;> simp only [newCol, reduceIte, Nat.one_ne_zero, or_true, true_or] <;> first | omega | (repeat' split) <;> omega)
    · (refine And.intro ?_ ?_ <;> simp only [newCol, reduceIte, Nat.one_ne_zero, or_true, true_or] <;> first | omega | (repeat' split) <;> omega)
    · (refine And.intro ?_ ?_ <;> simp only [newCol, reduceIte, Nat.one_ne_zero, or_true, true_or] <;> first | omega | (repeat' split) <;> omega)
    · (refine And.intro ?_ ?_ <;> simp only [newCol, reduceIte, Nat.one_ne_zero, or_true, true_or] <;> first | omega | (repeat' split) <;> omega)
    · rcases h2 i hi with rfl | rfl
      · (refine And.intro ?_ ?_ <;> simp only [newCol, reduceIte, Nat.one_ne_zero, or_true, true_or] <;> first | omega | (repeat' split) <;> omega)
      · (refine And.intro ?_ ?_ <;> simp only [newCol, reduceIte, Nat.one_ne_zero, or_true, true_or] <;> first | omega | (repeat' split) <;> omega)
    · rcases h2 i hi with rfl | rfl
      · (refine And.intro ?_ ?_ <;> simp only [newCol, reduceIte, Nat.one_ne_zero, or_true, true_or] <;> first | omega | (repeat' split) <;> omega)
      · (refine And.intro ?_ ?_ <;> simp only [newCol, reduceIte, Nat.one_ne_zero, or_true, true_or] <;> first | omega | (repeat' split) <;> omega)
  · refine ⟨⟨_, _, hsb, fun j u hu => ?_⟩, ⟨_, _, hld, fun j u hu => ?_⟩, hlt, hts, fun i hi => ?_, fun i hi => ?_⟩
    · refine ⟨gq, rfl, by (refine And.intro ?_ ?_ <;> simp only [newCol, reduceIte, Nat.one_ne_zero, or_true, true_or] <;> first | omega | (repeat' split) <;> omega), ?_⟩
      match j, hu with
      | 0, hu => simp at hu; subst hu; exact hgq0
      | 1, hu => simp at hu; subst hu; exact hgq1
      | n + 2, hu => simp at hu
    · refine ⟨lg, rfl, by (refine And.intro ?_ ?_ <;> simp only [newCol, reduceIte, Nat.one_ne_zero, or_true, true_or] <;> first | omega | (repeat' split) <;> omega), ?_⟩
      match j, hu with
      | 0, hu => simp at hu; subst hu; exact hg0
      | 1, hu => simp at hu; subst hu; exact hg1
      | n + 2, hu => simp at hu
    · rcases h2 i hi with rfl | rfl
      · exact hp0
      · exact hp1
    · rcases h2 i hi with rfl | rfl
      · exact hpg0
      · exact hpg1
  · intro i C hC
    rw [hch] at hC
    match i, hC with
    | 0, hC => simp at hC; subst hC; exact hx0.raise hsets z16 (Nat.le_refl _)
    | 1, hC => simp at hC; subst hC; exact hx1.raise hsets z17 (Nat.le_refl _)
    | n + 2, hC => simp at hC
  · intro i a ha
    rw [hnew] at ha
    match i, ha with
    | 0, ha =>
      simp at ha
      subst ha
      refine ⟨_, _, hl0, fun j u hu => ⟨lq, rfl, by (refine And.intro ?_ ?_ <;> simp only [newCol, reduceIte, Nat.one_ne_zero, or_true, true_or] <;> first | omega | (repeat' split) <;> omega), ?_⟩⟩
      match j, hu with
      | 0, hu => simp [pairCells] at hu; subst hu; exact hq0
      | 1, hu => simp [pairCells] at hu; subst hu; exact hq1
      | n + 2, hu => simp [pairCells] at hu
    | 1, ha =>
      simp at ha
      subst ha
      exact ⟨_, _, hl1, fun j u hu => by simp [pairCells] at hu⟩
    | n + 2, ha => simp at ha
  · rfl
  · rw [hnew]; rfl
  · intro C hC
    rw [hch] at hC
    simp at hC
    subst hC
    simp [StoreS.new, PoolS.new]
  · simp [StoreS.new, PoolS.new]
  · intro i j _ _ _ k hk
    simp at hk
  · intro i _ k hk
    simp at hk
  · intro k hk
    cases hk
end Go.Proofs.YteeefedoffplmaaGreat
