/- A state of the search as a value and as a map's key. -/
import Derived.Test.YtpnegacfanbcfaaDfs
import Derived.Test.YtpnegacfanbcfaaMaps
import Derived.DeepKeys5
namespace Go.Proofs.Ytpnegacfanbcfaa
open Go.RowKit Go.Maps

def St.vals (s : St) : List Value := .int .u64 s.inn :: s.cells.map (.int .i64 ·)
def St.val (s : St) : Value := .agg s.vals.toArray
structure St.Ok (s : St) : Prop where
  inn : s.inn < 18446744073709551616
  len : s.cells.length = 64
  fit : ∀ x ∈ s.cells, inI64 x

theorem St.vals_length {s : St} (h : s.Ok) : s.vals.length = 65 := by simp [St.vals, h.len]
theorem St.val_inj (s t : St) (h : s.val = t.val) : s = t := by
  obtain ⟨i, c⟩ := s
  obtain ⟨j, d⟩ := t
  have h' : (Value.int .u64 (i : Int) :: c.map (Value.int .i64 ·)) = (Value.int .u64 (j : Int) :: d.map (Value.int .i64 ·)) :=
    congrArg (fun v : Value => match v with | .agg a => a.toList | _ => []) h
  injection h' with h1 h2
  have e : c = d := by
    have := congrArg (List.map fun v : Value => match v with | .int _ n => n | _ => 0) h2
    simpa [List.map_map, Function.comp_def] using this
  subst e
  injection h1 with _ h1
  have : i = j := by exact_mod_cast h1
  rw [this]

theorem keyed71 : Keyed Try.prog 71 := Keyed.of_law (deep_law_laid (m := 4) (by kernel_rfl) (by decide) (of_decide_eq_true (by kernel_rfl)) (by kernel_rfl) (by kernel_rfl))

theorem mapM_some {α β : Type} (f : α → Option β) : ∀ (l : List α), (∀ x ∈ l, ∃ y, f x = some y) → ∃ ys, l.mapM f = some ys
  | [], _ => ⟨[], rfl⟩
  | a :: l, h => by
    obtain ⟨y, hy⟩ := h a (by simp)
    obtain ⟨ys, hys⟩ := mapM_some f l (fun x hx => h x (by simp [hx]))
    exact ⟨y :: ys, by simp [hy, hys]⟩

theorem lits_int {q : IntKind} {e : TypeId} (he : Try.prog.underlying e = some (.int q)) (D : Nat) (x : Int) (hw : (Lit.int q x).wf = true) : Try.prog.keyLits (D + 1) e [.int q x] = some [.int q x] := by
  simp [Program.keyLits, he, hw]
theorem wf_i64 {x : Int} (h : inI64 x) : (Lit.int .i64 x).wf = true := by
  obtain ⟨h1, h2⟩ := h
  exact WalkArith.wf_i64 ⟨h1, h2⟩
theorem lits_cells (D : Nat) (cs : List Int) (hl : cs.length = 64) (hf : ∀ x ∈ cs, inI64 x) : ∃ l, Try.prog.keyLits (D + 2) 69 (cs.map (.int .i64 ·)) = some l := by
  have h1 : Try.prog.cellsOf 69 = 64 := by kernel_rfl
  have h3 : Try.prog.cellsOf 3 = 1 := by kernel_rfl
  have key : ∀ i, i ∈ List.range 64 → ∃ y, Try.prog.keyLits (D + 1) 3 (((cs.map (Value.int .i64 ·)).drop (i * 1)).take 1) = some y := by
    intro i hi
    have hi' := List.mem_range.1 hi
    have hx : ((cs.map (Value.int .i64 ·)).drop (i * 1)).take 1 = [.int .i64 (cs[i]'(by omega))] := by
      rw [Nat.mul_one, List.drop_eq_getElem_cons (by simp; omega)]
      simp
    rw [hx]
    exact ⟨_, lits_int Try.underlying3 D _ (wf_i64 (hf _ (List.getElem_mem _)))⟩
  obtain ⟨ys, hys⟩ := mapM_some _ _ key
  refine ⟨ys.flatten, ?_⟩
  rw [show D + 2 = (D + 1) + 1 from rfl, Program.keyLits.eq_def]
  simp only [Try.underlying69, h1, h3, List.length_map, hl, if_true]
  rw [hys]
  rfl
theorem key_st {s : St} (h : s.Ok) : ∃ l, keyOf Try.prog 71 s.val = some l := by
  have h0 : Try.prog.cellsOf 71 = 65 := by kernel_rfl
  have h1 : Try.prog.cellsOf 69 = 64 := by kernel_rfl
  have h6 : Try.prog.cellsOf 66 = 1 := by kernel_rfl
  have hk : Try.prog.keyType 71 = true := by kernel_rfl
  have hsz : Try.prog.types.size + 1 = (Try.prog.types.size - 2 + 2) + 1 := by
    have : 2 ≤ Try.prog.types.size := of_decide_eq_true (by kernel_rfl)
    omega
  generalize Try.prog.types.size - 2 = D at hsz
  obtain ⟨l2, hl2⟩ := lits_cells D s.cells h.len h.fit
  have hl1 := lits_int (q := .u64) Try.underlying66 (D + 1) (s.inn : Int) (WalkArith.wf_u64 (by have := h.inn; omega))
  have hf : Value.formed Try.prog 71 s.val = true := by
    simp [Value.formed, St.val, Try.underlying71, h0, St.vals_length h]
  have hL : Try.prog.keyLits (Try.prog.types.size + 1) 71 s.vals = some ([Lit.int .u64 s.inn] ++ l2) := by
    rw [hsz, Program.keyLits.eq_def]
    simp only [Try.underlying71, St.vals_length h, h0]
    simp [h1, h6, St.vals, List.take_of_length_le, h.len, hl1, hl2]
  refine ⟨.string (keyBytes ([Lit.int .u64 s.inn] ++ l2)), ?_⟩
  unfold keyOf
  simp only [Try.underlying71, hk, hf, Bool.and_self, if_true]
  have : s.val.cells.toList = s.vals := by simp [St.val, Value.cells]
  rw [this, hL]
  rfl
end Go.Proofs.Ytpnegacfanbcfaa
