/- The judge's arguments, opened: a list of deeds. -/
import Derived.Test.YtpnegacfanbcfaaOpens
namespace Go.Proofs.Ytpnegacfanbcfaa
open Go.RowKit Go.Maps Go.ChangeShapes Go.WideShapes Go.Deep

section
variable {H : Type} {enc : TypeId × Value → H} {w : World} {base : Nat} {held : Bool}
theorem fields27 : ∃ fs : Array Field, Try.prog.underlying 27 = some (.struct fs) ∧ fs.size = 8 ∧ fs.toList.map (·.type) = [3, 3, 3, 3, 3, 3, 3, 4] ∧ oneCellFields Try.prog fs = true :=
  ⟨_, Try.underlying27, rfl, rfl, by kernel_rfl⟩
instance : Inhabited Deed := ⟨⟨0, 0, 0, 0, 0, 0, 0, false⟩⟩
/-- what one deed reads as. -/
structure DeedAt (w : World) (a : Addr) (i : Nat) (d : Deed) : Prop where
  c : ∀ j u, d.cells[j]? = some u → w.cell? (a.add (i * 8 + j)) = some u
  ok : d.Ok
/-- a list of deeds. -/
theorem openDeeds {fuel : Nat} {v : Value} {y : DataW H × List MemPlace} (h : DataW.trod enc Try.prog w base (fun _ => true) held fuel 23 [v] = some y) :
    ∃ (A : Option Addr) (l : List Deed) (c : Nat), v = .slice A l.length c ∧ Row w A (deedCells l) ∧ (∀ d ∈ l, d.Ok) ∧ (A = none → l.length = 0) ∧ l.length ≤ c ∧ c ≤ maxLen := by
  obtain ⟨fs, hu, hsz, hty, hone⟩ := fields27
  rcases open_slice_fields Try.underlying23 hu hone (by rw [hsz]; kernel_rfl) h with ⟨hv, rfl⟩ | ⟨a, len, cap, m, D, Pl, hv, _, hl, hm, hmm, rfl, hx⟩
  · injection hv with hv
    subst hv
    exact ⟨none, [], 0, rfl, Row.nil _ _, (fun _ h => by cases h), fun _ => rfl, Nat.le_refl _, Nat.zero_le _⟩
  · injection hv with hv
    subst hv
    simp only [if_true] at hmm
    subst hmm
    rw [hsz] at hx
    obtain ⟨f, hf⟩ := choose_lt (α := Deed) (n := m) (p := fun i d => DeedAt w a i d) (fun i hi => by
      obtain ⟨ys, n, hD, _, hys, hfi⟩ := hx i hi
      have fj : ∀ (j : Nat) t, [3, 3, 3, 3, 3, 3, 3, 4][j]? = some t → ∃ v y, w.cell? (a.add (i * 8 + j)) = some v ∧ ys[j]? = some y ∧ DataW.trod enc Try.prog w base (fun _ => true) held n t [v] = some y := by
        intro j t ht
        rw [← hty, List.getElem?_map, Array.getElem?_toList] at ht
        cases hfj : fs[j]? with
        | none => rw [hfj] at ht; cases ht
        | some g =>
          rw [hfj] at ht
          obtain ⟨v, y, h1, h2, h3⟩ := hfi j g hfj
          injection ht with ht
          have ht' : g.type = t := ht
          rw [ht'] at h3
          exact ⟨v, y, h1, h2, h3⟩
      have gi : ∀ j : Nat, [3, 3, 3, 3, 3, 3, 3, 4][j]? = some 3 → ∃ n : Int, w.cell? (a.add (i * 8 + j)) = some (.int .i64 n) ∧ inI64 n := by
        intro j hj
        obtain ⟨v, y, h1, _, h3⟩ := fj j 3 hj
        obtain ⟨n, e, _, hw⟩ := DataW.trod_int Try.underlying3 h3
        injection e with e
        subst e
        exact ⟨n, h1, wf_in hw⟩
      obtain ⟨x0, h0, w0⟩ := gi 0 rfl
      obtain ⟨x1, h1, w1⟩ := gi 1 rfl
      obtain ⟨x2, h2, w2⟩ := gi 2 rfl
      obtain ⟨x3, h3, w3⟩ := gi 3 rfl
      obtain ⟨x4, h4, w4⟩ := gi 4 rfl
      obtain ⟨x5, h5, w5⟩ := gi 5 rfl
      obtain ⟨x6, h6, w6⟩ := gi 6 rfl
      obtain ⟨v7, y7, h7, _, r7⟩ := fj 7 4 rfl
      obtain ⟨x7, e7, _⟩ := DataW.trod_bool Try.underlying4 r7
      injection e7 with e7
      subst e7
      refine ⟨⟨x0, x1, x2, x3, x4, x5, x6, x7⟩, fun j u hu => ?_, ⟨w0, w1, w2, w3, w4, w5, w6⟩⟩
      match j, hu with
      | 0, hu => exact Option.some.inj hu ▸ h0
      | 1, hu => exact Option.some.inj hu ▸ h1
      | 2, hu => exact Option.some.inj hu ▸ h2
      | 3, hu => exact Option.some.inj hu ▸ h3
      | 4, hu => exact Option.some.inj hu ▸ h4
      | 5, hu => exact Option.some.inj hu ▸ h5
      | 6, hu => exact Option.some.inj hu ▸ h6
      | 7, hu => exact Option.some.inj hu ▸ h7
      | j + 8, hu => cases hu)
    have hlen : ((List.range len).map f).length = len := by simp
    refine ⟨some a, (List.range len).map f, m, by rw [hlen], ?_, ?_, (fun e => by cases e), by rw [hlen]; exact hl, hm⟩
    · refine row_of_flat Deed.cells 8 Deed.cells_length (by decide) fun i x hi j u hu => ?_
      have hil : i < len := by
        have := (List.getElem?_eq_some_iff.1 hi).1
        rwa [hlen] at this
      have hxi : f i = x := by simpa [hil] using hi
      have := (hf i (by omega)).c j u
      rw [hxi] at this
      exact this hu
    · intro e he
      obtain ⟨i, hi, rfl⟩ := List.mem_map.1 he
      have hi' := List.mem_range.1 hi
      exact (hf i (by omega)).ok
end
end Go.Proofs.Ytpnegacfanbcfaa
