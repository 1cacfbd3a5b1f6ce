/- The law of JudgeFits, plain: an order that fits is found. -/
import Derived.Test.YtpnegacfanbcfaaNum
namespace Go.Proofs.Ytpnegacfanbcfaa
open Go.RowKit Go.Maps

def freeL (l : List Deed) (inn : List Bool) (b : Int) : Bool := l.zipIdx.all fun p => inn.getD p.2 false || !aheadB p.1.end_ b
def doneL (l : List Deed) (inn : List Bool) : Bool := l.zipIdx.all fun p => decide (p.1.end_ = 0) || inn.getD p.2 false
/-- is that an order (skeinlaw20.fits)? -/
def fitsGo (l : List Deed) : List Int → List Bool → List Int → Bool
  | [], inn, _ => doneL l inn
  | k :: o, inn, cells =>
    if 0 ≤ k ∧ inn.getD k.toNat false = false then
      match l[k.toNat]? with
      | none => false
      | some d => freeL l inn d.begin_ && (doesOk d (cells.getD d.a.toNat 0) && fitsGo l o (inn.set k.toNat true) (cells.set d.a.toNat (doesNext d (cells.getD d.a.toNat 0))))
    else false
structure FRel (l : List Deed) (ci : List Nat) (s : St) (inn : List Bool) (cells : List Int) : Prop where
  len : inn.length = l.length
  bit : ∀ k, k < l.length → s.inn.testBit k = inn.getD k false
  cell : ∀ k d, l[k]? = some d → cellOf ci s k = cells.getD d.a.toNat 0
  slot : ∀ k d, l[k]? = some d → ci.getD k 0 < s.cells.length ∧ d.a.toNat < cells.length
/-- two deeds have one number just where they have one cell. -/
def CiOk (l : List Deed) (ci : List Nat) : Prop := ∀ j k d e, l[j]? = some d → l[k]? = some e → (ci.getD j 0 = ci.getD k 0 ↔ d.a.toNat = e.a.toNat)
theorem FRel.next {l : List Deed} {ci : List Nat} {s : St} {inn : List Bool} {cells : List Int} (h : FRel l ci s inn cells) (hc : CiOk l ci) {k : Nat} {d : Deed} (hd : l[k]? = some d) :
    FRel l ci (nextSt ci s k d) (inn.set k true) (cells.set d.a.toNat (doesNext d (cells.getD d.a.toNat 0))) := by
  have hk := (List.getElem?_eq_some_iff.1 hd).1
  refine ⟨by rw [List.length_set]; exact h.len, fun j hj => ?_, fun j e he => ?_, fun j e he => ?_⟩
  · simp only [nextSt]
    rw [testBit_or_pow, h.bit j hj]
    have hji : j < inn.length := by rw [h.len]; exact hj
    by_cases hjk : k = j
    · subst hjk
      simp [List.getD, hji]
    · simp [List.getD, hjk]
  · have g1 := h.slot k d hd
    have g2 := h.cell k d hd
    have g3 := h.cell j e he
    have g4 := hc k j d e hd he
    unfold cellOf at g2 g3 ⊢
    simp only [nextSt, cellOf]
    rw [g2]
    by_cases hkj : ci.getD k 0 = ci.getD j 0
    · have e1 := g4.1 hkj
      rw [← hkj, ← e1]
      rw [List.getD_eq_getElem?_getD, List.getD_eq_getElem?_getD (l := cells.set _ _), List.getElem?_set_self g1.1, List.getElem?_set_self g1.2]
    · have e1 : ¬ d.a.toNat = e.a.toNat := fun x => hkj (g4.2 x)
      have g3' := g3
      simp only [List.getD] at g3' ⊢ hkj
      rw [List.getElem?_set_ne hkj, List.getElem?_set_ne e1]
      exact g3'
  · have g := h.slot j e he
    simp only [nextSt, List.length_set]
    exact g
theorem fits_found {l : List Deed} {ci : List Nat} {ended : Nat} (hc : CiOk l ci) (hen : ∀ s : St, (∀ k d, l[k]? = some d → d.end_ ≠ 0 → s.inn.testBit k = true) → s.inn &&& ended = ended) :
    ∀ (o : List Int) (s : St) (inn : List Bool) (cells : List Int), FRel l ci s inn cells → fitsGo l o inn cells = true → ∃ t, least l ci ended s = some t
  | [], s, inn, cells, h, hf => by
    refine ⟨[], least_done (hen s fun k d hd he => ?_)⟩
    have hk := (List.getElem?_eq_some_iff.1 hd).1
    rw [h.bit k hk]
    unfold fitsGo doneL at hf
    rw [List.all_eq_true] at hf
    have := hf (d, k) (List.mem_zipIdx_iff_getElem?.2 hd)
    simpa [he] using this
  | k :: o, s, inn, cells, h, hf => by
    by_cases hdn : s.inn &&& ended = ended
    · exact ⟨[], least_done hdn⟩
    · unfold fitsGo at hf
      split at hf
      · rename_i hk0
        split at hf
        · cases hf
        · rename_i d hd
          simp only [Bool.and_eq_true] at hf
          obtain ⟨hf1, hf2, hf3⟩ := hf
          have hk := (List.getElem?_eq_some_iff.1 hd).1
          obtain ⟨t, ht⟩ := fits_found hc hen o _ _ _ (h.next hc hd) hf3
          have hb : s.inn.testBit k.toNat = false := by rw [h.bit _ hk]; exact hk0.2
          have hfree : freeB l s d.begin_ = true := freeB_of fun i e he => by
            unfold freeL at hf1
            rw [List.all_eq_true] at hf1
            have := hf1 (e, i) (List.mem_zipIdx_iff_getElem?.2 he)
            rw [h.bit i (List.getElem?_eq_some_iff.1 he).1]
            simpa using this
          have hok : doesOk d (cellOf ci s k.toNat) = true := by rw [h.cell _ d hd]; exact hf2
          have hy := tryK_yes (rec := least l ci ended) (ci := ci) hd hb hfree hok
          rw [ht] at hy
          cases hl : least l ci ended s with
          | some t' => exact ⟨t', rfl⟩
          | none =>
            rw [least_eq, if_neg hdn, List.findSome?_eq_none_iff] at hl
            have := hl k.toNat (List.mem_range.2 hk)
            rw [hy] at this
            cases this
      · cases hf
theorem found_fits {l : List Deed} {ci : List Nat} {ended : Nat} (hc : CiOk l ci) (hen : ∀ s : St, s.inn &&& ended = ended → ∀ k d, l[k]? = some d → d.end_ ≠ 0 → s.inn.testBit k = true) :
    ∀ (t : List Nat) (s : St) (inn : List Bool) (cells : List Int), FRel l ci s inn cells → least l ci ended s = some t → fitsGo l (t.map fun (i : Nat) => (i : Int)) inn cells = true
  | [], s, inn, cells, h, hl => by
    have hdn : s.inn &&& ended = ended := by
      by_cases hdn : s.inn &&& ended = ended
      · exact hdn
      · rw [least_eq, if_neg hdn] at hl
        obtain ⟨k, _, hk⟩ := List.exists_of_findSome?_eq_some hl
        unfold tryK at hk
        split at hk
        · cases hk
        · split at hk
          · obtain ⟨t', _, ht⟩ := Option.map_eq_some_iff.1 hk
            cases ht
          · cases hk
    unfold fitsGo doneL
    rw [List.map_nil]
    simp only
    rw [List.all_eq_true]
    rintro ⟨e, i⟩ hp
    have he := List.mem_zipIdx_iff_getElem?.1 hp
    have hi := (List.getElem?_eq_some_iff.1 he).1
    by_cases hz : e.end_ = 0
    · simp [hz]
    · have := hen s hdn i e he hz
      rw [h.bit i hi] at this
      simp only [this, Bool.or_true]
  | k :: t, s, inn, cells, h, hl => by
    have hdn : ¬ s.inn &&& ended = ended := by
      intro hdn
      rw [least_done hdn] at hl
      cases hl
    rw [least_eq, if_neg hdn] at hl
    obtain ⟨k', _, hk'⟩ := List.exists_of_findSome?_eq_some hl
    unfold tryK at hk'
    split at hk'
    · cases hk'
    · rename_i d hd
      split at hk'
      · rename_i hcond
        obtain ⟨t', ht1, ht2⟩ := Option.map_eq_some_iff.1 hk'
        injection ht2 with e1 e2
        subst e1 e2
        simp only [Bool.and_eq_true, Bool.not_eq_true'] at hcond
        obtain ⟨⟨c1, c2⟩, c3⟩ := hcond
        have hk := (List.getElem?_eq_some_iff.1 hd).1
        have ih := found_fits hc hen _ _ _ _ (h.next hc hd) ht1
        rw [h.bit _ hk] at c1
        rw [h.cell _ d hd] at c3
        have hfree : freeL l inn d.begin_ = true := by
          unfold freeL
          unfold freeB at c2
          rw [List.all_eq_true] at c2 ⊢
          rintro ⟨e, i⟩ hp
          have := c2 (e, i) hp
          have hi := (List.getElem?_eq_some_iff.1 (List.mem_zipIdx_iff_getElem?.1 hp)).1
          simp only at this ⊢
          rwa [h.bit i hi] at this
        rw [List.map_cons]
        unfold fitsGo
        rw [if_pos ⟨by omega, by simpa using c1⟩]
        simp only [Int.toNat_natCast, hd, hfree, c3, Bool.true_and]
        exact ih
      · cases hk'
end Go.Proofs.Ytpnegacfanbcfaa
