/-
  FOR A PROOF OF AN '..UptoSaid': WHAT THE BOUND GIVES. Copy it as <Name>Bulk.lean (put your seat's Name for Ytpnegacfanbcfaa, the bound of 'uptoSmall' for 1048576), name it in GOCLAIM.json's 'order' behind <Name>Rows. By an AI agent, Sun Nov 15 2026. No person has read it.
-/
import Derived.Test.YtpnegacfanbcfaaRows
import Derived.Test.YtpnegacfanbcfaaVersP
import Derived.Deep.Slices
import Derived.Deep.Fields
import Derived.ChangeSame
import Derived.ProofKit
namespace Go.Proofs.Ytpnegacfanbcfaa.bulks

theorem one_le {H : Type} (d : DataW H) : 1 ≤ Rows.uptoBulk d := by
  cases d with
  | lit l => cases l <;> simp [Rows.uptoBulk]
  | nil => simp [Rows.uptoBulk]
  | ptr d => simp [Rows.uptoBulk]
  | slice elems spare => simp [Rows.uptoBulk]
  | agg parts => simp [Rows.uptoBulk]
  | iface t d => simp [Rows.uptoBulk]
  | map entries => simp [Rows.uptoBulk]
  | held h => simp [Rows.uptoBulk]

/-- a part's bulk is at most the whole's -/
theorem part_le {H : Type} {d : DataW H} {l : List (DataW H)} (h : d ∈ l) : Rows.uptoBulk d ≤ Rows.uptoBulkAll l := by
  induction l with
  | nil => cases h
  | cons x r ih =>
    simp only [Rows.uptoBulkAll]
    cases List.mem_cons.1 h with
    | inl e => subst e; omega
    | inr e => have := ih e; omega

theorem append {H : Type} (l r : List (DataW H)) : Rows.uptoBulkAll (l ++ r) = Rows.uptoBulkAll l + Rows.uptoBulkAll r := by
  induction l with
  | nil => simp [Rows.uptoBulkAll]
  | cons x l ih => simp only [List.cons_append, Rows.uptoBulkAll, ih]; omega

/-- so many values at the most -/
theorem length_le {H : Type} (l : List (DataW H)) : l.length ≤ Rows.uptoBulkAll l := by
  induction l with
  | nil => simp [Rows.uptoBulkAll]
  | cons x r ih => have := one_le x; simp only [Rows.uptoBulkAll, List.length_cons]; omega

/-- a slice's places, and what they hold -/
theorem slice_le {H : Type} (elems spare : List (DataW H)) : elems.length + spare.length + 1 ≤ Rows.uptoBulk (.slice elems spare) := by
  have h1 := length_le elems
  have h2 := length_le spare
  simp only [Rows.uptoBulk]
  omega
theorem slice_elems {H : Type} (elems spare : List (DataW H)) : Rows.uptoBulkAll elems + 1 ≤ Rows.uptoBulk (.slice elems spare) := by
  simp only [Rows.uptoBulk]
  omega

/-- a string's letters -/
theorem string_eq {H : Type} (bytes : List UInt8) : Rows.uptoBulk (DataW.lit (H := H) (.string bytes)) = bytes.length + 1 := by
  simp [Rows.uptoBulk]

/-- THE BOUND, as the builder hands it over ('hk') -/
theorem bound {H : Type} {l : List (DataW H)} (hk : Rows.uptoSmall H l = true) : Rows.uptoBulkAll l ≤ 1048576 := by
  simpa [Rows.uptoSmall] using hk

/-- ROOM: a slice of n elements of b bytes, grown by append: below the 2^48 bytes that append, make and a Builder bear. Here n up to 2^21, b up to 4,096: put your own numbers. -/
theorem room {n b : Nat} (hn : n ≤ 2097152) (hb : b ≤ 4096) : (n + n / 4 + 192) * b ≤ 281474976710656 := by
  have h : (n + n / 4 + 192) * b ≤ 2621632 * 4096 := Nat.mul_le_mul (by omega) hb
  omega

end Go.Proofs.Ytpnegacfanbcfaa.bulks

/- The arguments of the judge's statements, opened: lists of numbers, of pairs, of lists of pairs, of events. -/
namespace Go.Proofs.Ytpnegacfanbcfaa
open Go.RowKit Go.Maps Go.ChangeShapes Go.WideShapes Go.Deep

section
variable {H : Type} {enc : TypeId × Value → H} {P : Program} {w : World} {base : Nat} {spare : Nat → Bool} {held : Bool}
theorem open_slice_fields {t e : TypeId} {fs : Array Field} {fuel : Nat} {cs : List Value} {x : DataW H × List MemPlace} (ht : P.underlying t = some (.slice e)) (he : P.underlying e = some (.struct fs))
    (hone : oneCellFields P fs = true) (hC : P.cellsOf e = fs.size) (h : DataW.trod enc P w base spare held fuel t cs = some x) :
    (cs = [.slice none 0 0] ∧ x = (.nil, [])) ∨
    ∃ (a : Addr) (len cap m : Nat) (D : Nat → DataW H) (Pl : Nat → List MemPlace), cs = [.slice (some a) len cap] ∧ base ≤ a.block ∧ len ≤ cap ∧ cap ≤ maxLen ∧ m = (if spare a.block then cap else len) ∧
      x = (.slice ((List.range len).map D) ((List.range (m - len)).map fun j => D (len + j)), MemPlace.row a (m * fs.size) ++ (List.range m).flatMap Pl) ∧
      ∀ i, i < m → ∃ (ys : List (DataW H × List MemPlace)) (n : Nat), D i = .agg (ys.map (·.1)) ∧ Pl i = ys.flatMap (·.2) ∧ ys.length = fs.size ∧
        ∀ (j : Nat) (f : Field), fs[j]? = some f → ∃ (v : Value) (y : DataW H × List MemPlace), w.cell? (a.add (i * fs.size + j)) = some v ∧ ys[j]? = some y ∧ DataW.trod enc P w base spare held n f.type [v] = some y := by
  rcases open_slice ht h with h0 | ⟨a, len, cap, m, n, D, Pl, hcs, hb, hl, hm, hmm, hx, hi⟩
  · exact .inl h0
  · refine .inr ⟨a, len, cap, m, D, Pl, hcs, hb, hl, hm, hmm, by rw [hC] at hx; exact hx, fun i him => ?_⟩
    obtain ⟨cs', hc, ht'⟩ := hi i him
    rw [hC] at hc
    obtain ⟨ys, n', hn', hy, hlen, hyl, hf⟩ := DataW.trod_struct he ht'
    obtain ⟨_, hcl, hat⟩ := World.cells?_some hc
    simp only [Prod.mk.injEq] at hy
    refine ⟨ys, n', hy.1, hy.2, hyl, fun j f hj => ?_⟩
    obtain ⟨ho, hk⟩ := hone_of hone j f hj
    have hjl : j < fs.size := (Array.getElem?_eq_some_iff.1 hj).1
    have hcell := hat j hjl
    have hv : cs'[j]? = some (cs'[j]'(by omega)) := List.getElem?_eq_getElem (by omega)
    have h1 := hf j f hj
    rw [ho, hk] at h1
    have hone' : (cs'.drop j).take 1 = [cs'[j]'(by omega)] := by
      rw [List.drop_eq_getElem_cons (by omega)]
      rfl
    rw [hone'] at h1
    have hys : ys[j]? = some (ys[j]'(by omega)) := List.getElem?_eq_getElem (by omega)
    refine ⟨_, _, ?_, hys, h1.trans hys⟩
    rw [← Go.Deep.add_add, hcell, hv]
end

theorem row_of_adds {w : World} {a : Addr} {xs : List Value} (h : ∀ j u, xs[j]? = some u → w.cell? (a.add j) = some u) : Row w (some a) xs := by
  intro j u hu
  have hj := (List.getElem?_eq_some_iff.1 hu).1
  have h0 : xs[0]? = some (xs[0]'(by omega)) := List.getElem?_eq_getElem _
  have hc := h 0 _ h0
  obtain ⟨b, off, sp⟩ := a
  have hsp : sp = none := by
    cases sp with
    | none => rfl
    | some s =>
      simp only [Addr.add, if_true, World.cell?] at hc
      split at hc <;> simp at hc
  subst hsp
  refine ⟨b, off, rfl, ?_⟩
  have := h j u hu
  rwa [addr_add] at this
theorem wf_in {n : Int} (h : (Lit.int .i64 n).wf = true) : inI64 n := by
  simpa [inI64, Lit.wf, IntKind.min, IntKind.max, IntKind.signed, IntKind.bits] using h

section
variable {H : Type} {enc : TypeId × Value → H} {w : World} {base : Nat} {held : Bool}
/-- a list of numbers. -/
theorem openInts {fuel : Nat} {v : Value} {y : DataW H × List MemPlace} (h : DataW.trod enc Try.prog w base (fun _ => true) held fuel 22 [v] = some y) :
    ∃ (A : Option Addr) (l : List Int) (c : Nat), v = .slice A l.length c ∧ Row w A (intsZ l) ∧ (∀ x ∈ l, inI64 x) ∧ (A = none → l.length = 0) ∧ l.length ≤ c ∧ c ≤ maxLen ∧ l.length ≤ Rows.uptoBulk y.1 := by
  rcases open_ints Try.underlying22 Try.underlying3 (by kernel_rfl) h with ⟨hv, rfl⟩ | ⟨a, len, cap, zs, hv, _, hl, hm, hz, rfl, hc, hw⟩
  · injection hv with hv
    subst hv
    exact ⟨none, [], 0, rfl, Row.nil _ _, (fun _ h => by cases h), fun _ => rfl, Nat.le_refl _, Nat.zero_le _, Nat.zero_le _⟩
  · injection hv with hv
    subst hv
    simp only [if_true] at hz
    have hlen : (zs.take len).length = len := by simp; omega
    refine ⟨some a, zs.take len, cap, by rw [hlen], row_of_adds fun j u hu => ?_, fun x hx => wf_in (hw x (List.mem_of_mem_take hx)), (fun e => by cases e), by rw [hlen]; exact hl, hm, ?_⟩
    · have hj : j < len := by
        have := (List.getElem?_eq_some_iff.1 hu).1
        simp [intsZ] at this
        omega
      rw [hc j (by omega)]
      simp only [intsZ, List.getElem?_map, List.getElem?_take, if_pos hj] at hu
      rw [List.getElem?_eq_getElem (by omega)] at hu
      simp only [Option.map_some, Option.some.injEq] at hu
      rw [← hu]
      congr 2
      rw [List.getD_eq_getElem?_getD, List.getElem?_eq_getElem (by omega)]
      rfl
    · have := bulks.slice_le (H := H) (lits .i64 (zs.take len)) (lits .i64 (zs.drop len))
      have h1 : (lits (H := H) .i64 (zs.take len)).length = len := by simp [lits]; omega
      rw [hlen]
      exact Nat.le_trans (by omega) this
theorem fields58 : ∃ f0 f1, Try.prog.underlying 58 = some (.struct #[f0, f1]) ∧ f0.type = 3 ∧ f1.type = 3 ∧ oneCellFields Try.prog #[f0, f1] = true :=
  ⟨_, _, Try.underlying58, rfl, rfl, by kernel_rfl⟩
theorem row_of_flat {α : Type} {w : World} {a : Addr} (g : α → List Value) (s : Nat) (hg : ∀ x, (g x).length = s) (hs : 0 < s) {l : List α} (h : ∀ i x, l[i]? = some x → ∀ j u, (g x)[j]? = some u → w.cell? (a.add (i * s + j)) = some u) : Row w (some a) (l.flatMap g) := by
  refine row_of_adds fun j u hu => ?_
  have hj := (List.getElem?_eq_some_iff.1 hu).1
  have hlen : (l.flatMap g).length = l.length * s := by
    clear hu hj h
    induction l with
    | nil => simp
    | cons x l ih => rw [List.flatMap_cons, List.length_append, ih, hg, List.length_cons, Nat.succ_mul]; omega
  have hi : j / s < l.length := by rw [hlen] at hj; exact Nat.div_lt_of_lt_mul (by rw [Nat.mul_comm]; exact hj)
  have e : j / s * s + j % s = j := Nat.div_add_mod' j s
  have hx : l[j / s]? = some l[j / s] := List.getElem?_eq_getElem hi
  have hget := flatMap_get g s hg l (j / s) _ hx (j % s) (Nat.mod_lt _ hs)
  rw [e, hu] at hget
  have := h (j / s) _ hx (j % s) u hget.symm
  rwa [e] at this
/-- a list of pairs. -/
theorem openPairs {fuel : Nat} {v : Value} {y : DataW H × List MemPlace} (h : DataW.trod enc Try.prog w base (fun _ => true) held fuel 41 [v] = some y) :
    ∃ (A : Option Addr) (l : List (Int × Int)) (c : Nat), v = .slice A l.length c ∧ Row w A (pairCells l) ∧ (∀ x ∈ l, inI64 x.1 ∧ inI64 x.2) ∧ (A = none → l.length = 0) ∧ l.length ≤ c ∧ c ≤ maxLen ∧ l.length ≤ Rows.uptoBulk y.1 := by
  obtain ⟨f0, f1, hu, t0, t1, hone⟩ := fields58
  rcases open_slice_fields Try.underlying41 hu hone (by kernel_rfl) h with ⟨hv, rfl⟩ | ⟨a, len, cap, m, D, Pl, hv, _, hl, hm, hmm, rfl, hx⟩
  · injection hv with hv
    subst hv
    exact ⟨none, [], 0, rfl, Row.nil _ _, (fun _ h => by cases h), fun _ => rfl, Nat.le_refl _, Nat.zero_le _, Nat.zero_le _⟩
  · injection hv with hv
    subst hv
    simp only [if_true] at hmm
    subst hmm
    obtain ⟨f, hf⟩ := choose_lt (α := Int × Int) (n := m) (p := fun i p => w.cell? (a.add (i * 2 + 0)) = some (.int .i64 p.1) ∧ w.cell? (a.add (i * 2 + 1)) = some (.int .i64 p.2) ∧ inI64 p.1 ∧ inI64 p.2) (fun i hi => by
      obtain ⟨ys, n, _, _, _, hfi⟩ := hx i hi
      obtain ⟨v0, y0, c0, _, r0⟩ := hfi 0 f0 rfl
      obtain ⟨v1, y1, c1, _, r1⟩ := hfi 1 f1 rfl
      rw [t0] at r0
      rw [t1] at r1
      obtain ⟨n0, e0, _, w0⟩ := DataW.trod_int Try.underlying3 r0
      obtain ⟨n1, e1, _, w1⟩ := DataW.trod_int Try.underlying3 r1
      injection e0 with e0
      injection e1 with e1
      subst e0 e1
      exact ⟨(n0, n1), c0, c1, wf_in w0, wf_in w1⟩)
    have hlen : ((List.range len).map f).length = len := by simp
    refine ⟨some a, (List.range len).map f, m, by rw [hlen], ?_, ?_, (fun e => by cases e), by rw [hlen]; exact hl, hm, ?_⟩
    · refine row_of_flat _ 2 (fun _ => rfl) (by decide) fun i x hi j u hu => ?_
      have hil : i < len := by
        have := (List.getElem?_eq_some_iff.1 hi).1
        rwa [hlen] at this
      have hxi : f i = x := by simpa [hil] using hi
      obtain ⟨g0, g1, _⟩ := hf i (by omega)
      rw [hxi] at g0 g1
      match j, hu with
      | 0, hu =>
        have e : Value.int .i64 x.1 = u := Option.some.inj hu
        rw [← e]
        exact g0
      | 1, hu =>
        have e : Value.int .i64 x.2 = u := Option.some.inj hu
        rw [← e]
        exact g1
      | j + 2, hu => cases hu
    · intro x hx'
      obtain ⟨i, hi, rfl⟩ := List.mem_map.1 hx'
      exact (hf i (by have := List.mem_range.1 hi; omega)).2.2
    · rw [hlen]
      have := bulks.slice_le ((List.range len).map D) ((List.range (m - len)).map fun j => D (len + j))
      simp only [List.length_map, List.length_range] at this
      exact Nat.le_trans (by omega) this
instance : Inhabited (Option Addr × List (Int × Int) × Nat) := ⟨(none, [], 0)⟩
/-- a list of lists of pairs. -/
theorem openStarts {fuel : Nat} {v : Value} {y : DataW H × List MemPlace} (h : DataW.trod enc Try.prog w base (fun _ => true) held fuel 38 [v] = some y) :
    ∃ (A : Option Addr) (starts : List (List (Int × Int))) (heads : List (Option Addr × Nat)) (c : Nat), v = .slice A starts.length c ∧ StartIn starts heads A w ∧ (∀ s ∈ starts, ∀ p ∈ s, inI64 p.1 ∧ inI64 p.2) ∧ starts.length ≤ c ∧ c ≤ maxLen ∧
      starts.length ≤ Rows.uptoBulk y.1 ∧ ∀ s ∈ starts, s.length ≤ Rows.uptoBulk y.1 := by
  rcases open_slice1 Try.underlying38 (by kernel_rfl) h with ⟨hv, rfl⟩ | ⟨a, len, cap, m, n, V, D, Pl, hv, _, hl, hm, hmm, rfl, hx⟩
  · injection hv with hv
    subst hv
    exact ⟨none, [], [], 0, rfl, ⟨rfl, Row.nil _ _, fun k s h h1 => by simp at h1⟩, (fun _ h => by cases h), Nat.le_refl _, Nat.zero_le _, Nat.zero_le _, (fun _ h => by cases h)⟩
  · injection hv with hv
    subst hv
    simp only [if_true] at hmm
    subst hmm
    obtain ⟨f, hf⟩ := choose_lt (α := Option Addr × List (Int × Int) × Nat) (n := m) (p := fun i p => w.cell? (a.add i) = some (.slice p.1 p.2.1.length p.2.2) ∧ Row w p.1 (pairCells p.2.1) ∧ (∀ x ∈ p.2.1, inI64 x.1 ∧ inI64 x.2) ∧ p.2.1.length ≤ Rows.uptoBulk (D i)) (fun i hi => by
      obtain ⟨hc, ht⟩ := hx i hi
      obtain ⟨A, l, c, e, h1, h2, _, _, _, h6⟩ := openPairs ht
      rw [e] at hc
      exact ⟨(A, l, c), hc, h1, h2, h6⟩)
    have hlen : ((List.range len).map fun i => (f i).2.1).length = len := by simp
    have hsl := bulks.slice_le ((List.range len).map D) ((List.range (m - len)).map fun j => D (len + j))
    have hse := bulks.slice_elems ((List.range len).map D) ((List.range (m - len)).map fun j => D (len + j))
    refine ⟨some a, (List.range len).map fun i => (f i).2.1, (List.range len).map fun i => ((f i).1, (f i).2.2), m, by rw [hlen], ⟨by simp, row_of_adds fun j u hu => ?_, fun k s hd h1 h2 => ?_⟩, ?_, by rw [hlen]; exact hl, hm, ?_, ?_⟩
    · have hj : j < len := by
        have := (List.getElem?_eq_some_iff.1 hu).1
        simpa using this
      rw [List.getElem?_map] at hu
      have hz : (((List.range len).map fun i => (f i).2.1).zip ((List.range len).map fun i => ((f i).1, (f i).2.2)))[j]? = some ((f j).2.1, ((f j).1, (f j).2.2)) := by
        rw [List.getElem?_zip_eq_some]
        simp [hj]
      rw [hz] at hu
      injection hu with hu
      rw [← hu]
      exact (hf j (by omega)).1
    · have hk : k < len := by
        have := (List.getElem?_eq_some_iff.1 h1).1
        simpa using this
      simp only [List.getElem?_map, List.getElem?_range hk, Option.map_some, Option.some.injEq] at h1 h2
      subst h1 h2
      exact (hf k (by omega)).2.1
    · intro s hs p hp
      obtain ⟨i, hi, rfl⟩ := List.mem_map.1 hs
      exact (hf i (by have := List.mem_range.1 hi; omega)).2.2.1 p hp
    · rw [hlen]
      simp only [List.length_map, List.length_range] at hsl
      exact Nat.le_trans (by omega) hsl
    · intro s hs
      obtain ⟨i, hi, rfl⟩ := List.mem_map.1 hs
      have hi' := List.mem_range.1 hi
      have h1 := (hf i (by omega)).2.2.2
      have h2 := bulks.part_le (List.mem_map.2 ⟨i, hi, rfl⟩ : D i ∈ (List.range len).map D)
      exact Nat.le_trans h1 (Nat.le_trans h2 (Nat.le_trans (by omega) hse))
theorem fields52 : ∃ fs : Array Field, Try.prog.underlying 52 = some (.struct fs) ∧ fs.size = 13 ∧ fs.toList.map (·.type) = [3, 3, 3, 3, 3, 3, 3, 4, 3, 4, 3, 22, 41] ∧ oneCellFields Try.prog fs = true :=
  ⟨_, Try.underlying52, rfl, rfl, by kernel_rfl⟩
instance : Inhabited Ev := ⟨⟨0, 0, 0, 0, 0, 0, 0, false, 0, false, 0, none, 0, [], none, 0, []⟩⟩
/-- what one event reads as. -/
structure EvAt (w : World) (a : Addr) (i : Nat) (B : Nat) (e : Ev) : Prop where
  c : ∀ j u, e.cells[j]? = some u → w.cell? (a.add (i * 13 + j)) = some u
  inn : e.In w
  ok : e.Ok
  b1 : e.nums.length ≤ B
  b2 : e.pairs.length ≤ B
theorem openEvents {fuel : Nat} {v : Value} {y : DataW H × List MemPlace} (h : DataW.trod enc Try.prog w base (fun _ => true) held fuel 39 [v] = some y) :
    ∃ (A : Option Addr) (l : List Ev) (c : Nat), v = .slice A l.length c ∧ Row w A (evCells l) ∧ (∀ e ∈ l, e.In w ∧ e.Ok ∧ e.nums.length ≤ Rows.uptoBulk y.1 ∧ e.pairs.length ≤ Rows.uptoBulk y.1) ∧ (A = none → l.length = 0) ∧ l.length ≤ c ∧ c ≤ maxLen ∧ l.length ≤ Rows.uptoBulk y.1 := by
  obtain ⟨fs, hu, hsz, hty, hone⟩ := fields52
  rcases open_slice_fields Try.underlying39 hu hone (by rw [hsz]; kernel_rfl) h with ⟨hv, rfl⟩ | ⟨a, len, cap, m, D, Pl, hv, _, hl, hm, hmm, rfl, hx⟩
  · injection hv with hv
    subst hv
    exact ⟨none, [], 0, rfl, Row.nil _ _, (fun _ h => by cases h), fun _ => rfl, Nat.le_refl _, Nat.zero_le _, Nat.zero_le _⟩
  · injection hv with hv
    subst hv
    simp only [if_true] at hmm
    subst hmm
    rw [hsz] at hx
    obtain ⟨f, hf⟩ := choose_lt (α := Ev) (n := m) (p := fun i e => EvAt w a i (Rows.uptoBulk (D i)) e) (fun i hi => by
      obtain ⟨ys, n, hD, _, hys, hfi⟩ := hx i hi
      have fj : ∀ (j : Nat) t, [3, 3, 3, 3, 3, 3, 3, 4, 3, 4, 3, 22, 41][j]? = some t → ∃ v y, w.cell? (a.add (i * 13 + j)) = some v ∧ ys[j]? = some y ∧ DataW.trod enc Try.prog w base (fun _ => true) held n t [v] = some y := by
        intro j t ht
        rw [← hty, List.getElem?_map, Array.getElem?_toList] at ht
        cases hfj : fs[j]? with
        | none => rw [hfj] at ht; cases ht
        | some g =>
          rw [hfj] at ht
          obtain ⟨v, y, h1, h2, h3⟩ := hfi j g hfj
          injection ht with ht
          have ht' : g.type = t := ht
          rw [ht'] at h3
          exact ⟨v, y, h1, h2, h3⟩
      have gi : ∀ j : Nat, [3, 3, 3, 3, 3, 3, 3, 4, 3, 4, 3, 22, 41][j]? = some 3 → ∃ n : Int, w.cell? (a.add (i * 13 + j)) = some (.int .i64 n) ∧ inI64 n := by
        intro j hj
        obtain ⟨v, y, h1, _, h3⟩ := fj j 3 hj
        obtain ⟨n, e, _, hw⟩ := DataW.trod_int Try.underlying3 h3
        injection e with e
        subst e
        exact ⟨n, h1, wf_in hw⟩
      have gb : ∀ j : Nat, [3, 3, 3, 3, 3, 3, 3, 4, 3, 4, 3, 22, 41][j]? = some 4 → ∃ b : Bool, w.cell? (a.add (i * 13 + j)) = some (.bool b) := by
        intro j hj
        obtain ⟨v, y, h1, _, h3⟩ := fj j 4 hj
        obtain ⟨b, e, _⟩ := DataW.trod_bool Try.underlying4 h3
        injection e with e
        subst e
        exact ⟨b, h1⟩
      have bulk : ∀ (j : Nat) y, ys[j]? = some y → Rows.uptoBulk y.1 ≤ Rows.uptoBulk (D i) := by
        intro j y hy
        rw [hD]
        have h1 := bulks.part_le (List.mem_map.2 ⟨y, List.mem_of_getElem? hy, rfl⟩ : y.1 ∈ ys.map (·.1))
        simp only [Rows.uptoBulk]
        omega
      obtain ⟨x0, h0, w0⟩ := gi 0 rfl
      obtain ⟨x1, h1, w1⟩ := gi 1 rfl
      obtain ⟨x2, h2, w2⟩ := gi 2 rfl
      obtain ⟨x3, h3, w3⟩ := gi 3 rfl
      obtain ⟨x4, h4, w4⟩ := gi 4 rfl
      obtain ⟨x5, h5, w5⟩ := gi 5 rfl
      obtain ⟨x6, h6, w6⟩ := gi 6 rfl
      obtain ⟨x7, h7⟩ := gb 7 rfl
      obtain ⟨x8, h8, w8⟩ := gi 8 rfl
      obtain ⟨x9, h9⟩ := gb 9 rfl
      obtain ⟨x10, h10, w10⟩ := gi 10 rfl
      obtain ⟨v11, y11, c11, e11, r11⟩ := fj 11 22 rfl
      obtain ⟨v12, y12, c12, e12, r12⟩ := fj 12 41 rfl
      obtain ⟨nA, nums, nc, rfl, n1, n2, n3, _, _, n6⟩ := openInts r11
      obtain ⟨pA, pairs, pc, rfl, q1, q2, q3, _, _, q6⟩ := openPairs r12
      refine ⟨⟨x0, x1, x2, x3, x4, x5, x6, x7, x8, x9, x10, nA, nc, nums, pA, pc, pairs⟩, fun j u hu => ?_, ⟨n1, q1, n3, q3⟩, ⟨w1, w2, w3, w4, w5, w6, w8, w10, n2, q2⟩, Nat.le_trans n6 (bulk 11 _ e11), Nat.le_trans q6 (bulk 12 _ e12)⟩
      match j, hu with
      | 0, hu =>
        have e : Value.int .i64 x0 = u := Option.some.inj hu
        rw [← e]
        exact h0
      | 1, hu =>
        have e : Value.int .i64 x1 = u := Option.some.inj hu
        rw [← e]
        exact h1
      | 2, hu =>
        have e : Value.int .i64 x2 = u := Option.some.inj hu
        rw [← e]
        exact h2
      | 3, hu =>
        have e : Value.int .i64 x3 = u := Option.some.inj hu
        rw [← e]
        exact h3
      | 4, hu =>
        have e : Value.int .i64 x4 = u := Option.some.inj hu
        rw [← e]
        exact h4
      | 5, hu =>
        have e : Value.int .i64 x5 = u := Option.some.inj hu
        rw [← e]
        exact h5
      | 6, hu =>
        have e : Value.int .i64 x6 = u := Option.some.inj hu
        rw [← e]
        exact h6
      | 7, hu =>
        have e : Value.bool x7 = u := Option.some.inj hu
        rw [← e]
        exact h7
      | 8, hu =>
        have e : Value.int .i64 x8 = u := Option.some.inj hu
        rw [← e]
        exact h8
      | 9, hu =>
        have e : Value.bool x9 = u := Option.some.inj hu
        rw [← e]
        exact h9
      | 10, hu =>
        have e : Value.int .i64 x10 = u := Option.some.inj hu
        rw [← e]
        exact h10
      | 11, hu =>
        have e : Value.slice nA nums.length nc = u := Option.some.inj hu
        rw [← e]
        exact c11
      | 12, hu =>
        have e : Value.slice pA pairs.length pc = u := Option.some.inj hu
        rw [← e]
        exact c12
      | j + 13, hu => cases hu)
    have hlen : ((List.range len).map f).length = len := by simp
    have hsl := bulks.slice_le ((List.range len).map D) ((List.range (m - len)).map fun j => D (len + j))
    have hse := bulks.slice_elems ((List.range len).map D) ((List.range (m - len)).map fun j => D (len + j))
    refine ⟨some a, (List.range len).map f, m, by rw [hlen], ?_, ?_, (fun e => by cases e), by rw [hlen]; exact hl, hm, ?_⟩
    · refine row_of_flat Ev.cells 13 Ev.cells_length (by decide) fun i x hi j u hu => ?_
      have hil : i < len := by
        have := (List.getElem?_eq_some_iff.1 hi).1
        rwa [hlen] at this
      have hxi : f i = x := by simpa [hil] using hi
      have := (hf i (by omega)).c j u
      rw [hxi] at this
      exact this hu
    · intro e he
      obtain ⟨i, hi, rfl⟩ := List.mem_map.1 he
      have hi' := List.mem_range.1 hi
      have g := hf i (by omega)
      have h2 := bulks.part_le (List.mem_map.2 ⟨i, hi, rfl⟩ : D i ∈ (List.range len).map D)
      exact ⟨g.inn, g.ok, Nat.le_trans g.b1 (Nat.le_trans h2 (Nat.le_trans (by omega) hse)), Nat.le_trans g.b2 (Nat.le_trans h2 (Nat.le_trans (by omega) hse))⟩
    · rw [hlen]
      simp only [List.length_map, List.length_range] at hsl
      exact Nat.le_trans (by omega) hsl
end
end Go.Proofs.Ytpnegacfanbcfaa
