/- (met).with: one bit more of 65 words. Conditions: the words are 65; the place is below 4160. -/
import Derived.Test.YteeefedoffplmaaGreatMet
import Derived.Laws.Tables
import Derived.Laws.Bits64b
namespace Go.Proofs.YteeefedoffplmaaGreat
open Go.RowKit

theorem wpList_alloc_is {P : Program} {ops : Array Oper} {rest : List Oper} {o : Oper} {a : Act} {w : World} {Q : Exit → Act → World → Prop} (hgd : o.guard = none) (ty : TypeId) (ho : o.op = .alloc ty) (z : Value) (hz : ∀ w, (zeroValue ty).run P w = .ok z w)
    (h : wpList P ops Q rest (a.put o.dst (.pointer (some ⟨w.heap.size, 0, none⟩))) (w.alloc (.cells z.cells ty))) : wpList P ops Q (o :: rest) a w :=
  wpList_plain hgd fun _ hK => by
    unfold Oper.wp execOp
    simp only [ho, Instr.alloc, newVar, newRow, newObj, Sem.run_bind, Sem.run_pure, hz, Result.andThen_ok]
    exact hK _ _ h
theorem wpList_alloc_agg {P : Program} {ops : Array Oper} {rest : List Oper} {o : Oper} {a : Act} {w : World} {Q : Exit → Act → World → Prop} (hgd : o.guard = none) (ty : TypeId) (ho : o.op = .alloc ty) (z : Array Value) (hz : ∀ w, (zeroValue ty).run P w = .ok (.agg z) w)
    (h : wpList P ops Q rest (a.put o.dst (.pointer (some ⟨w.heap.size, 0, none⟩))) (w.alloc (.cells z ty))) : wpList P ops Q (o :: rest) a w := wpList_alloc_is hgd ty ho (.agg z) hz h
theorem load_block {w : World} {b : Nat} {cs : Array Value} {t : TypeId} {fr : Nat × Nat} (h : w.heap[b]? = some (.cells cs t fr)) {n : Nat} (hn : cs.size = n) : (loadCellsFrom ⟨b, 0, none⟩ 0 n #[]).run Tryz.prog w = .ok cs w := by
  subst hn
  have := run_loadCells_list (P := Tryz.prog) w ⟨b, 0, none⟩ cs.toList (fun j v hv => by
    rw [addr_add, Nat.zero_add, World.cell?, h]
    simpa using hv)
  simpa [loadCells] using this
theorem pow_lt64 (j : Nat) (h : j < 64) : 2 ^ j < 18446744073709551616 := by
  have : 2 ^ j < 2 ^ 64 := Nat.pow_lt_pow_right (by omega) h
  simpa using this
theorem wrap_pow (j : Nat) (h : j < 64) : IntKind.u64.wrap ((2 : Int) ^ j) = ((2 ^ j : Nat) : Int) := by
  have h1 := pow_lt64 j h
  rw [show (2 : Int) ^ j = ((2 ^ j : Nat) : Int) by simp, IntKind.wrap_u64]
  generalize 2 ^ j = p at *
  omega

theorem shl_one (m : Nat) (h : m < 64) (W : World) : (Op.shift .shl .u64 1 .i64 (m : Int)).run Tryz.prog W = .ok (.int .u64 ((2 ^ m : Nat) : Int)) W := by
  have h1 : ¬ (m : Int) < 0 := by omega
  have h2 : min (m : Int).toNat IntKind.u64.bits = m := by
    show min (m : Int).toNat 64 = m
    omega
  simp only [Op.shift, h1, if_false, h2, Int.one_mul, wrap_pow m h]
  rfl
def z65 : Array Value := (List.replicate 65 (Value.int .u64 0)).toArray
theorem zero65 (w : World) : (zeroValue 287).run Tryz.prog w = .ok (.agg z65) w := by kernel_rfl
theorem info287 : (Tryz.prog.info? 287).map (·.size) = some 65 := by kernel_rfl
attribute [-go_sem] loadCellsFrom
set_option maxRecDepth 100000 in
set_option maxHeartbeats 1600000 in
theorem with_any (w : World) (A : Array Value) (hA : A.size = 65) (h1 : A.all (·.oneCell') = true) (n : Nat) (hn : n < 4160) (x : Nat) (hx : A[n / 64]? = some (.int .u64 (x : Int))) (hx64 : x < 18446744073709551616) :
    Calls Tryz.prog 185 #[.agg A, .int .i64 (n : Int)] w fun e w' => e = .returned (.agg (A.setIfInBounds (n / 64) (.int .u64 ((x ||| 2 ^ (n % 64) : Nat) : Int)))) ∧ Below w.heap.size w w' := by
  have HA := Lib.hid hA; have H1 := Lib.hid h1; have HX := Lib.hid hx
  have hn' : (n : Int) < 4160 := by omega
  clear hA h1 hx
  go_enter Tryz.func185, Tryz.ntmps185
  go_wp2_with (refine wpList_alloc_agg rfl 287 rfl z65 zero65 ?_)
  have hw0 : (((w.alloc (.cells A 287)).alloc (.cells z65 287)).heap[w.heap.size]? = some (.cells A 287 (0, 0)) ∧ ((w.alloc (.cells A 287)).alloc (.cells z65 287)).heap[w.heap.size + 1]? = some (.cells z65 287 (0, 0))) ∧ Below w.heap.size w ((w.alloc (.cells A 287)).alloc (.cells z65 287)) := by
    refine ⟨⟨?_, ?_⟩, ((Below.refl _ _).alloc (Nat.le_refl _) _).alloc (by simp) _⟩
    · exact (((Below.refl _ _).alloc (Nat.le_refl _) _).block _ (by simp)).trans (heap_alloc_new w _)
    · have := heap_alloc_new (w.alloc (.cells A 287)) (.cells z65 287)
      rwa [World.size_alloc] at this
  generalize hW0 : (w.alloc (.cells A 287)).alloc (.cells z65 287) = W0 at *
  clear hW0
  obtain ⟨⟨k1, k2⟩, k3⟩ := hw0
  have HK1 := Lib.hid k1; have HK2 := Lib.hid k2; have HK3 := Lib.hid k3
  have c1 : W0.cell? ⟨w.heap.size, n / 64, none⟩ = some (.int .u64 (x : Int)) := by simp [World.cell?, k1, HX.out]
  have f1 : W0.frozen? ⟨w.heap.size, n / 64, none⟩ = false := by simp [World.frozen?, k1]
  have e1 : IntKind.i64.wrap ((n : Int) / 64) = ((n / 64 : Nat) : Int) := by rw [IntWalk.i64_in _ (by omega)]; simp
  have e2 : (n : Int).tmod 64 = ((n % 64 : Nat) : Int) := by rw [Int.tmod_eq_emod_of_nonneg (by omega)]; simp
  have hq : ((n / 64 : Nat) : Int) < 65 := by omega
  have hr : n % 64 < 64 := Nat.mod_lt _ (by omega)
  have hq0 : (0 : Int) ≤ ((n / 64 : Nat) : Int) := by omega
  generalize hqq : n / 64 = q at *
  generalize hmm : n % 64 = m at *
  have HQ := Lib.hid hqq; have HMM := Lib.hid hmm
  clear hqq hmm
  have e5 : bits .or .u64 (x : Int) (IntKind.u64.wrap ((2 : Int) ^ m)) = ((x ||| 2 ^ m : Nat) : Int) := by rw [wrap_pow m hr]; exact bits_or_u64_nat _ _ hx64 (pow_lt64 m hr)
  have E5 := Lib.hid e5
  clear e5
  generalize hV : bits .or .u64 (x : Int) (IntKind.u64.wrap ((2 : Int) ^ m)) = V at E5
  have HV := Lib.hid hV
  have g1 : (W0.setCell ⟨w.heap.size, q, none⟩ (.int .u64 V)).heap[w.heap.size]? = some (.cells (A.setIfInBounds q (.int .u64 V)) 287 (0, 0)) := by simp [World.setCell, Array.getElem?_modify, k1]
  have g2 : (W0.setCell ⟨w.heap.size, q, none⟩ (.int .u64 V)).heap[w.heap.size + 1]? = some (.cells z65 287 (0, 0)) := by rw [heap_setCell_other _ _ _ _ (by simp)]; exact k2
  have g3 : Below w.heap.size w (W0.setCell ⟨w.heap.size, q, none⟩ (.int .u64 V)) := k3.setCell (Nat.le_refl _) _
  have hA' : (A.setIfInBounds q (.int .u64 V)).size = 65 := by simp [HA.out]
  have h1' : (A.setIfInBounds q (.int .u64 V)).all (·.oneCell') = true := by
    rw [Array.all_eq_true_iff_forall_mem]
    intro v hv
    rw [Array.mem_iff_getElem?] at hv
    obtain ⟨k, hk⟩ := hv
    rw [Array.getElem?_setIfInBounds] at hk
    split at hk
    · split at hk
      · injection hk with hk
        subst hk
        rfl
      · cases hk
    · have := H1.out
      rw [Array.all_eq_true_iff_forall_mem] at this
      exact this v (Array.mem_iff_getElem?.2 ⟨k, hk⟩)
  have ld : (loadCellsFrom ⟨w.heap.size, 0, none⟩ 0 65 #[]).run Tryz.prog (W0.setCell ⟨w.heap.size, q, none⟩ (.int .u64 V)).drew = .ok (A.setIfInBounds q (.int .u64 V)) (W0.setCell ⟨w.heap.size, q, none⟩ (.int .u64 V)).drew := load_block (w := (W0.setCell ⟨w.heap.size, q, none⟩ (.int .u64 V)).drew) g1 hA'
  have ld2 : (loadCellsFrom ⟨w.heap.size + 1, 0, none⟩ 0 65 #[]).run Tryz.prog ((W0.setCell ⟨w.heap.size, q, none⟩ (.int .u64 V)).drew.setRow (w.heap.size + 1) (A.setIfInBounds q (.int .u64 V))) = .ok (A.setIfInBounds q (.int .u64 V)) ((W0.setCell ⟨w.heap.size, q, none⟩ (.int .u64 V)).drew.setRow (w.heap.size + 1) (A.setIfInBounds q (.int .u64 V))) :=
    load_block (setRow_heap (W0.setCell ⟨w.heap.size, q, none⟩ (.int .u64 V)).drew _ _ _ _ _ g2) hA'
  have G2 := Lib.hid g2; have HA2 := Lib.hid hA'; have H12 := Lib.hid h1'
  have hb2 : Hid (Below w.heap.size w ((W0.setCell ⟨w.heap.size, q, none⟩ (.int .u64 V)).drew.setRow (w.heap.size + 1) (A.setIfInBounds q (.int .u64 V)))) := Lib.hid ⟨g3.os, g3.tape, g3.output, by simpa using g3.size, fun k hk => by rw [setRow_other _ _ _ _ (by omega)]; exact g3.block k hk⟩
  generalize hAA : A.setIfInBounds q (.int .u64 V) = A' at *
  have HAA := Lib.hid hAA
  clear g1 g2 g3 hA' h1' hAA
  clear k1 k2 k3
  refine wp_region_still_tail 9 (by kernel_rfl) (by kernel_rfl) ?_
  simp only [List.take_succ_cons, List.take_zero, List.drop_succ_cons, List.drop_zero]
  change wpStill _ _ (World.drew _) (fun a' => wpList _ _ _ _ a' (World.drew _)) _ _
  iterate 9 still_step
  refine wpStill_nil ?_
  go_wp2_with (refine wpList_store_row rfl 287 (.tmp 4) (.tmp 14) rfl _ _ rfl rfl 287 z65 G2.out (by rw [HA2.out]; exact info287) (by rw [HA2.out]; rfl) H12.out ?_)
  exact bodyPost_ret (v := .agg A') (by simp [results, Tryz.results185, go_sem, ld2, Act.put]) rfl ⟨by rw [HQ.out, HMM.out, ← E5.out, HAA.out], hb2.out⟩
end Go.Proofs.YteeefedoffplmaaGreat
