/- What Order's second loop carries, and that each of its steps keeps it. -/
import Derived.Test.YtpnegacfanbcfaaNum
import Derived.Test.YtpnegacfanbcfaaGoesParts
namespace Go.Proofs.Ytpnegacfanbcfaa
open Go.RowKit Go.Maps

/-- the search's block (M + 1), its map (M), the first state (M + 1 + 1), the numbers' map (M + 1 + 1 + 1), the deeds, the cells' numbers (v). -/
structure OSt (l : List Deed) (sA : Option Addr) (sc B M : Nat) (w : World) (x1 : Value) (en : Nat) (v : Value) (n : Nat) (xs : List Value) (cells : Array Value) (f : Int → Option Value) (sz : Nat) (wr : World) : Prop where
  bm : B ≤ M
  b : Below B w wr
  x : wr.heap[M + 1]? = some (.cells #[.slice sA l.length sc, x1, .int .u64 en, .map (some M)] 68 (0, 0))
  o : wr.ownsRow B 3 1 v n xs
  m : MapIs Try.prog 71 St.val wr M (fun _ => none)
  s : wr.heap[M + 1 + 1]? = some (.cells cells 71 (0, 0))
  n : MapSz Try.prog 3 (Value.int .i64 ·) wr (M + 1 + 1 + 1) f sz
  r : wr.ownsRow B 27 8 (.slice sA l.length sc) l.length (deedCells l)

section
variable {l : List Deed} {sA : Option Addr} {sc B M : Nat} {w wr wr' : World} {x1 : Value} {en : Nat} {v : Value} {n : Nat} {xs : List Value} {cells : Array Value} {f : Int → Option Value} {sz : Nat}

theorem own_block_cells {B e size n : Nat} {v : Value} {xs : List Value} (h : wr.ownsRow B e size v n xs) {g : Nat} (hv : v.ownBlock = some g) : ∃ cs, wr.heap[g]? = some (.cells cs e (0, 0)) := by
  rcases h.2 with ⟨rfl, _⟩ | ⟨g', cap, cur, rfl, _, hh, _⟩
  · simp [Value.ownBlock] at hv
  · simp [Value.ownBlock] at hv
    subst hv
    exact ⟨cur, hh⟩
theorem own_ne {B e size n : Nat} {v : Value} {xs : List Value} (h : wr.ownsRow B e size v n xs) {g : Nat} (hg : ∀ cs, wr.heap[g]? ≠ some (.cells cs e (0, 0))) : v.ownBlock ≠ some g := by
  intro hv
  obtain ⟨cs, hc⟩ := own_block_cells h hv
  exact hg cs hc
theorem own_setCell {B e size n : Nat} {v : Value} {xs : List Value} (h : wr.ownsRow B e size v n xs) {g i : Nat} (hg : ∀ cs, wr.heap[g]? ≠ some (.cells cs e (0, 0))) (u : Value) : (wr.setCell ⟨g, i, none⟩ u).ownsRow B e size v n xs := by
  refine own_grown (row := some g) h ⟨rfl, rfl, rfl, by simp [World.setCell], fun k hk hne => Below.heap_setCell _ _ _ _ (fun e => hne (by rw [e]))⟩ (fun g' hv e => ?_)
  injection e with e
  subst e
  exact own_ne h hg hv

theorem OSt.lts (h : OSt l sA sc B M w x1 en v n xs cells f sz wr) : M < wr.heap.size ∧ M + 1 < wr.heap.size ∧ M + 1 + 1 < wr.heap.size ∧ M + 1 + 1 + 1 < wr.heap.size :=
  ⟨h.m.lt, (Array.getElem?_eq_some_iff.1 h.x).1, (Array.getElem?_eq_some_iff.1 h.s).1, h.n.1.lt⟩
theorem OSt.notX {e : Nat} (h : OSt l sA sc B M w x1 en v n xs cells f sz wr) (he : e ≠ 68) : ∀ cs, wr.heap[M + 1]? ≠ some (.cells cs e (0, 0)) := by
  intro cs hc
  rw [h.x] at hc
  injection hc with hc
  injection hc with _ hc
  exact he hc.symm
theorem OSt.notS {e : Nat} (h : OSt l sA sc B M w x1 en v n xs cells f sz wr) (he : e ≠ 71) : ∀ cs, wr.heap[M + 1 + 1]? ≠ some (.cells cs e (0, 0)) := by
  intro cs hc
  rw [h.s] at hc
  injection hc with hc
  injection hc with _ hc
  exact he hc.symm
theorem OSt.notN {e : Nat} (h : OSt l sA sc B M w x1 en v n xs cells f sz wr) : ∀ cs, wr.heap[M + 1 + 1 + 1]? ≠ some (.cells cs e (0, 0)) := by
  intro cs hc
  obtain ⟨es, c, hm⟩ := h.n.1.raw
  rw [hm] at hc
  cases hc
theorem OSt.notM {e : Nat} (h : OSt l sA sc B M w x1 en v n xs cells f sz wr) : ∀ cs, wr.heap[M]? ≠ some (.cells cs e (0, 0)) := by
  intro cs hc
  obtain ⟨es, c, hm⟩ := h.m.raw
  rw [hm] at hc
  cases hc

theorem OSt.below (h : OSt l sA sc B M w x1 en v n xs cells f sz wr) (hb : Below wr.heap.size wr wr') (hB : B ≤ wr.heap.size) : OSt l sA sc B M w x1 en v n xs cells f sz wr' :=
  ⟨h.bm, h.b.trans (hb.mono hB), (hb.block _ h.lts.2.1).trans h.x, own_below h.o hb, h.m.below hb, (hb.block _ h.lts.2.2.1).trans h.s, h.n.below hb, own_below h.r hb⟩
theorem OSt.setN {f' : Int → Option Value} {sz' : Nat} (h : OSt l sA sc B M w x1 en v n xs cells f sz wr) (hg : wr.grownBy wr' (some (M + 1 + 1 + 1))) (hn : MapSz Try.prog 3 (Value.int .i64 ·) wr' (M + 1 + 1 + 1) f' sz') : OSt l sA sc B M w x1 en v n xs cells f' sz' wr' := by
  have hlt := h.lts
  have hbm := h.bm
  have blk : ∀ k, k < wr.heap.size → k ≠ M + 1 + 1 + 1 → wr'.heap[k]? = wr.heap[k]? := fun k hk hne => hg.block k hk (fun e => hne (by injection e))
  exact ⟨h.bm, h.b.grown hg (by omega) (fun k e => by injection e with e; omega), (blk _ hlt.2.1 (by omega)).trans h.x, own_grown h.o hg (fun g hv e => by injection e with e; subst e; exact own_ne h.o h.notN hv),
    h.m.kept (blk _ hlt.1 (by omega)), (blk _ hlt.2.2.1 (by omega)).trans h.s, hn, own_grown h.r hg (fun g hv e => by injection e with e; subst e; exact own_ne h.r h.notN hv)⟩
theorem OSt.setS (h : OSt l sA sc B M w x1 en v n xs cells f sz wr) (i : Nat) (u : Value) : OSt l sA sc B M w x1 en v n xs (cells.setIfInBounds i u) f sz (wr.setCell ⟨M + 1 + 1, i, none⟩ u) := by
  have hbm := h.bm
  have blk : ∀ k, k ≠ M + 1 + 1 → (wr.setCell ⟨M + 1 + 1, i, none⟩ u).heap[k]? = wr.heap[k]? := fun k hne => Below.heap_setCell _ _ _ _ hne
  exact ⟨h.bm, h.b.setCell (by show B ≤ M + 1 + 1; omega) _, (blk _ (by omega)).trans h.x, own_setCell h.o (h.notS (by decide)) _, h.m.kept (blk _ (by omega)), set_block h.s _, h.n.kept (blk _ (by omega)), own_setCell h.r (h.notS (by decide)) _⟩
theorem OSt.append {v' : Value} {n' : Nat} {xs' : List Value} (h : OSt l sA sc B M w x1 en v n xs cells f sz wr) (hg : wr.grownBy wr' v.ownBlock) (ho : wr'.ownsRow B 3 1 v' n' xs') : OSt l sA sc B M w x1 en v' n' xs' cells f sz wr' := by
  have hlt := h.lts
  have hbm := h.bm
  have blk : ∀ k, k < wr.heap.size → v.ownBlock ≠ some k → wr'.heap[k]? = wr.heap[k]? := fun k hk hne => hg.block k hk (fun e => hne e.symm)
  refine ⟨h.bm, h.b.grown hg (by omega) (fun k e => (h.o.lt k e).1), (blk _ hlt.2.1 (own_ne h.o (h.notX (by decide)))).trans h.x, ho, h.m.kept (blk _ hlt.1 (own_ne h.o h.notM)), (blk _ hlt.2.2.1 (own_ne h.o (h.notS (by decide)))).trans h.s,
    h.n.kept (blk _ hlt.2.2.2 (own_ne h.o h.notN)), own_grown h.r hg (fun g hv e => ?_)⟩
  obtain ⟨cs, hc⟩ := own_block_cells h.r hv
  obtain ⟨cs', hc'⟩ := own_block_cells h.o e
  rw [hc] at hc'
  injection hc' with hc'
  injection hc' with _ hc'
  cases hc'
theorem OSt.setX1 (h : OSt l sA sc B M w x1 en v n xs cells f sz wr) (u : Value) : OSt l sA sc B M w u en v n xs cells f sz (wr.setCell ⟨M + 1, 1, none⟩ u) := by
  have hbm := h.bm
  have blk : ∀ k, k ≠ M + 1 → (wr.setCell ⟨M + 1, 1, none⟩ u).heap[k]? = wr.heap[k]? := fun k hne => Below.heap_setCell _ _ _ _ hne
  exact ⟨h.bm, h.b.setCell (by show B ≤ M + 1; omega) _, set_block h.x u, own_setCell h.o (h.notX (by decide)) _, h.m.kept (blk _ (by omega)), (blk _ (by omega)).trans h.s, h.n.kept (blk _ (by omega)), own_setCell h.r (h.notX (by decide)) _⟩
theorem OSt.setX2 (h : OSt l sA sc B M w x1 en v n xs cells f sz wr) (en' : Nat) : OSt l sA sc B M w x1 en' v n xs cells f sz (wr.setCell ⟨M + 1, 2, none⟩ (.int .u64 en')) := by
  have hbm := h.bm
  have blk : ∀ k, k ≠ M + 1 → (wr.setCell ⟨M + 1, 2, none⟩ (.int .u64 en')).heap[k]? = wr.heap[k]? := fun k hne => Below.heap_setCell _ _ _ _ hne
  exact ⟨h.bm, h.b.setCell (by show B ≤ M + 1; omega) _, set_block h.x _, own_setCell h.o (h.notX (by decide)) _, h.m.kept (blk _ (by omega)), (blk _ (by omega)).trans h.s, h.n.kept (blk _ (by omega)), own_setCell h.r (h.notX (by decide)) _⟩
theorem OSt.drewN (h : OSt l sA sc B M w x1 en v n xs cells f sz wr) (q : Nat) : OSt l sA sc B M w x1 en v n xs cells f sz (wr.drewN q) := ⟨h.bm, below_drewN h.b q, h.x, h.o, h.m, h.s, h.n, h.r⟩
theorem OSt.xcells (h : OSt l sA sc B M w x1 en v n xs cells f sz wr) : wr.cell? ⟨M + 1, 0, none⟩ = some (.slice sA l.length sc) ∧ wr.cell? ⟨M + 1, 1, none⟩ = some x1 ∧ wr.cell? ⟨M + 1, 2, none⟩ = some (.int .u64 en) ∧ wr.cell? ⟨M + 1, 3, none⟩ = some (.map (some M)) := by
  have hx := h.x
  refine ⟨?_, ?_, ?_, ?_⟩ <;> (rw [cell_of_row wr _ _ _ _ _ hx]; rfl)
end

/-- behind j deeds. -/
def OInv (first : List Int) (l : List Deed) (sA : Option Addr) (sc B M : Nat) (w : World) (j : Nat) (wr : World) : Prop :=
  ∃ cA cc, OSt l sA sc B M w (.slice cA j cc) (num (l.take j)).en (.slice cA j cc) j (ints (num (l.take j)).ci) (start first (num (l.take j)).seen).vals.toArray (seenF (num (l.take j)).seen) (num (l.take j)).seen.length wr
def ORelO (first : List Int) (l : List Deed) (sA : Option Addr) (sc B M : Nat) (w : World) (k : Nat) (i : Value) (wr : World) : Prop :=
  ∃ j : Nat, j ≤ l.length ∧ i = .int .i64 j ∧ k = l.length - j ∧ OInv first l sA sc B M w j wr
theorem row_of_own' {w : World} {B e size n c : Nat} {A : Option Addr} {xs : List Value} (h : w.ownsRow B e size (.slice A n c) n xs) : Row w A xs ∧ (A = none → n = 0) := by
  obtain ⟨A', c', e1, h1, h2⟩ := row_of_own h
  injection e1 with e1 _ _
  subst e1
  exact ⟨h1, h2⟩
theorem keyed3 : Keyed Try.prog 3 := int_keyed Try.underlying3
theorem key3 {a : Int} (h : inI64 a) : keyOf Try.prog 3 (.int .i64 a) = some (.int .i64 a) := keyOf_int_mk Try.underlying3 (wf_i64 h)
theorem zero3 (w : World) : (zeroValue 3).run Try.prog w = .ok (.int .i64 0) w := by kernel_rfl
theorem start_cell {first seen : List Int} (h : seen.length < 64) : ∃ u, (start first seen).vals.toArray[1 + seen.length]? = some u := by
  have hl : (start first seen).vals.length = 65 := by simp [St.vals, start]; omega
  exact ⟨_, (List.getElem?_toArray ..).trans (List.getElem?_eq_getElem (by omega))⟩
theorem seenF_in {seen : List Int} {a : Int} (h : a ∈ seen) : seenF seen a = some (.int .i64 (seen.idxOf a : Nat)) := by simp [seenF, h]
theorem seenF_out {seen : List Int} {a : Int} (h : a ∉ seen) : seenF seen a = none := by simp [seenF, h]
/-- where the deed's cell has its number. -/
def MidRel (first : List Int) (l : List Deed) (sA : Option Addr) (sc B M : Nat) (w : World) (j : Nat) (d : Deed) (D0 : Nat) (i : Value) (wr : World) : Prop :=
  ∃ cA cc, i = .int .i64 ((num (l.take j)).seen.idxOf d.a : Nat) ∧ wr.heap[D0]? = some (.cells d.arr 27 (0, 0)) ∧
    OSt l sA sc B M w (.slice cA j cc) (num (l.take j)).en (.slice cA j cc) j (ints (num (l.take j)).ci) (start first (num (l.take (j + 1))).seen).vals.toArray (seenF (num (l.take (j + 1))).seen) (num (l.take (j + 1))).seen.length wr
theorem seen_succ_in {l : List Deed} {j : Nat} {d : Deed} (hd : l[j]? = some d) (h : d.a ∈ (num (l.take j)).seen) : (num (l.take (j + 1))).seen = (num (l.take j)).seen := by
  rw [num_take_succ l j d hd]
  simp [Num.step, h]
theorem seen_succ_out {l : List Deed} {j : Nat} {d : Deed} (hd : l[j]? = some d) (h : d.a ∉ (num (l.take j)).seen) : (num (l.take (j + 1))).seen = (num (l.take j)).seen ++ [d.a] := by
  rw [num_take_succ l j d hd]
  simp [Num.step, h]
theorem seenF_some {seen : List Int} {a : Int} : (seenF seen a).isSome = decide (a ∈ seen) := by
  unfold seenF
  split <;> simp_all
theorem num_succ_ci {l : List Deed} {j : Nat} {d : Deed} (hd : l[j]? = some d) : (num (l.take (j + 1))).ci = (num (l.take j)).ci ++ [(num (l.take j)).seen.idxOf d.a] := by
  rw [num_take_succ l j d hd]
  rfl
theorem num_succ_en {l : List Deed} {j : Nat} {d : Deed} (hd : l[j]? = some d) : (num (l.take (j + 1))).en = if d.end_ = 0 then (num (l.take j)).en else (num (l.take j)).en ||| 2 ^ j := by
  rw [num_take_succ l j d hd]
  have h := (num_ok_take l j).ci
  have hj := (List.getElem?_eq_some_iff.1 hd).1
  rw [List.length_take_of_le (by omega)] at h
  simp [Num.step, h]
theorem en_lt {l : List Deed} (j : Nat) (h : l.length ≤ 64) : (num (l.take j)).en < 18446744073709551616 := by
  have h1 := (num_ok_take l j).en
  have h2 : (l.take j).length ≤ 64 := by
    rw [List.length_take]
    omega
  have h3 : 2 ^ (l.take j).length ≤ 2 ^ 64 := Nat.pow_le_pow_right (by omega) h2
  have h4 : (2 : Nat) ^ 64 = 18446744073709551616 := by decide
  omega
theorem en_or {l : List Deed} {j : Nat} (h : l.length ≤ 64) (hj : j < 64) : bits BinOp.or .u64 ((num (l.take j)).en : Int) (IntKind.u64.wrap ((2 : Int) ^ j)) = (((num (l.take j)).en ||| 2 ^ j : Nat) : Int) := by
  rw [wrap_pow j hj, bits_or_u64_nat _ _ (en_lt j h) (pow_lt64 j hj)]
theorem ints_snoc (xs : List Nat) (i : Nat) : ints (xs ++ [i]) = ints xs ++ [.int .i64 (i : Int)] := by simp [ints]
theorem oinv_start {first : List Int} {l : List Deed} {sA : Option Addr} {sc B : Nat} {w w2 : World} (hB : B ≤ w2.heap.size) (hb : Below B w w2) (ho : w2.ownsRow B 27 8 (.slice sA l.length sc) l.length (deedCells l)) :
    OInv first l sA sc B w2.heap.size w 0 ((((w2.alloc (.map #[] 0)).alloc (.cells #[.slice sA l.length sc, .slice none 0 0, .int .u64 0, .map (some w2.heap.size)] 68)).alloc (.cells z71a 71)).alloc (.map #[] 0)) := by
  have e1 : (w2.alloc (.map #[] 0)).heap.size = w2.heap.size + 1 := by simp
  have e2 : ((w2.alloc (.map #[] 0)).alloc (.cells #[.slice sA l.length sc, .slice none 0 0, .int .u64 0, .map (some w2.heap.size)] 68)).heap.size = w2.heap.size + 1 + 1 := by simp
  have e3 : (((w2.alloc (.map #[] 0)).alloc (.cells #[.slice sA l.length sc, .slice none 0 0, .int .u64 0, .map (some w2.heap.size)] 68)).alloc (.cells z71a 71)).heap.size = w2.heap.size + 1 + 1 + 1 := by simp
  have hb1 : Below (w2.alloc (.map #[] 0)).heap.size (w2.alloc (.map #[] 0)) ((((w2.alloc (.map #[] 0)).alloc (.cells #[.slice sA l.length sc, .slice none 0 0, .int .u64 0, .map (some w2.heap.size)] 68)).alloc (.cells z71a 71)).alloc (.map #[] 0)) :=
    (((Below.refl _ _).alloc (Nat.le_refl _) _).alloc (by rw [e1, e2]; omega) _).alloc (by rw [e1, e3]; omega) _
  have hb4 : Below w2.heap.size w2 ((((w2.alloc (.map #[] 0)).alloc (.cells #[.slice sA l.length sc, .slice none 0 0, .int .u64 0, .map (some w2.heap.size)] 68)).alloc (.cells z71a 71)).alloc (.map #[] 0)) :=
    ((Below.refl _ _).alloc (Nat.le_refl _) _).trans (hb1.mono (by rw [e1]; omega))
  refine ⟨none, 0, hB, hb.trans (hb4.mono hB), ?_, World.ownsRow_nil _ _ _ _, ?_, ?_, ?_, own_below ho hb4⟩
  · have h1 := heap_alloc_new (w2.alloc (.map #[] 0)) (.cells #[.slice sA l.length sc, .slice none 0 0, .int .u64 0, .map (some w2.heap.size)] 68)
    rw [e1] at h1
    exact (Below.heap_alloc _ _ _ (by rw [e3]; omega)).trans ((Below.heap_alloc _ _ _ (by rw [e2]; omega)).trans h1)
  · exact (MapIs.made (w := w2)).below hb1
  · have h1 := heap_alloc_new ((w2.alloc (.map #[] 0)).alloc (.cells #[.slice sA l.length sc, .slice none 0 0, .int .u64 0, .map (some w2.heap.size)] 68)) (.cells z71a 71)
    rw [e2] at h1
    refine (Below.heap_alloc _ _ _ (by rw [e3]; omega)).trans (h1.trans ?_)
    rw [show (num (List.take 0 l)).seen = [] from rfl, start_zero]
    rfl
  · have h1 := MapSz.made (P := Try.prog) (k := 3) (enc := (Value.int .i64 ·)) (w := (((w2.alloc (.map #[] 0)).alloc (.cells #[.slice sA l.length sc, .slice none 0 0, .int .u64 0, .map (some w2.heap.size)] 68)).alloc (.cells z71a 71)))
    rw [e3] at h1
    have h2 : seenF (num (List.take 0 l)).seen = fun _ => none := by
      funext a
      simp [num, seenF]
    rw [h2]
    exact h1
theorem oinv_env {first : List Int} {l : List Deed} {sA : Option Addr} {sc B M : Nat} {w wr : World} (h : OInv first l sA sc B M w l.length wr) :
    ∃ cA cc, Env l (num l).ci (num l).en (M + 1) M sA cA sc cc wr ∧ Below B w wr ∧ B ≤ M ∧ wr.heap[M + 1 + 1]? = some (.cells (start first (num l).seen).vals.toArray 71 (0, 0)) := by
  obtain ⟨cA, cc, hO⟩ := h
  rw [List.take_length] at hO
  have hci := (num_ok l).ci
  refine ⟨cA, cc, ⟨?_, (row_of_own' hO.r).1, (row_of_own' hO.o).1, _, hO.m, by simp⟩, hO.b, hO.bm, hO.s⟩
  rw [hci]
  exact hO.x
end Go.Proofs.Ytpnegacfanbcfaa
