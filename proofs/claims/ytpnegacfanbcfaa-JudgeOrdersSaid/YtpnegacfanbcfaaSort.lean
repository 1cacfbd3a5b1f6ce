/- slices.SortFunc at the judge's blames: the row holds the sorted list. -/
import Derived.Test.YtpnegacfanbcfaaCmp
namespace Go.Proofs.Ytpnegacfanbcfaa
open Go.RowKit Go.Maps
open Go.Sort (grow flatK HoldsK putRowK putRow)

theorem blCells_get (l : List Blm) (k j : Nat) (x : Blm) (hx : l[k]? = some x) (hj : j < 3) : (blCells l)[k * 3 + j]? = x.cells[j]? := flatMap_get Blm.cells 3 (fun _ => rfl) l k x hx j hj
theorem flat_blCells (l : List Blm) : flatK (fun b => Blm.cells b) 3 l.toArray = (blCells l).toArray := by
  have hs : (flatK (fun b => Blm.cells b) 3 l.toArray).size = (blCells l).toArray.size := by simp [blCells_length]
  refine Go.Sort.ext_get! hs fun t ht => ?_
  have ht' : t < l.length * 3 := by simpa using ht
  rw [Go.Sort.get_flatK _ _ _ t (by simpa using ht')]
  have hk : t / 3 < l.length := by omega
  have hx : l[t / 3]? = some l[t / 3] := List.getElem?_eq_getElem hk
  have hg := blCells_get l (t / 3) (t % 3) _ hx (by omega)
  have e : t / 3 * 3 + t % 3 = t := by omega
  rw [e] at hg
  have h1 : (l.toArray[t / 3]!) = l[t / 3] := by simp [hk]
  have hc : (l[t / 3] : Blm).cells[t % 3]? = some ((l[t / 3] : Blm).cells[t % 3]'(by simp [Blm.cells]; omega)) := List.getElem?_eq_getElem _
  rw [h1]
  rw [hc] at hg
  have e1 : (l[t / 3] : Blm).cells[t % 3]! = (l[t / 3] : Blm).cells[t % 3]'(by simp [Blm.cells]; omega) := by
    rw [List.getElem!_eq_getElem?_getD, hc]
    rfl
  have e2 : (blCells l).toArray[t]! = (l[t / 3] : Blm).cells[t % 3]'(by simp [Blm.cells]; omega) := by
    rw [Array.getElem!_eq_getD, Array.getD_eq_getD_getElem?]
    simp [hg]
  rw [e2]
  exact e1
theorem sortB_length (l : List Blm) : (sortB l).length = l.length := by unfold sortB; rw [List.length_mergeSort]

theorem sortB_nil : sortB [] = [] := by simp [sortB]
theorem isAgg55 (w : World) : (isAgg 55).run Try.prog w = .ok true w := by kernel_rfl
theorem sizeOf55 (w : World) : (Go.sizeOf 55).run Try.prog w = .ok 3 w := by kernel_rfl
theorem sortWorld_own {w : World} {B g cap n : Nat} {outs srt : List Blm} {cur : Array Value} {os : Array Obj} (hB : B ≤ g) (hg : w.heap[g]? = some (.cells cur 55 (0, 0))) (hn : outs.length ≤ cap) (hc : cap ≤ maxLen) (hs : cur.size = cap * 3) (hl : srt.length = outs.length) :
    (sortWorldK (fun b => Blm.cells b) 3 w g 0 n srt.toArray os).ownsRow B 55 3 (.slice (some ⟨g, 0, none⟩) outs.length cap) outs.length (blCells srt) ∧ w.grownBy (sortWorldK (fun b => Blm.cells b) 3 w g 0 n srt.toArray os) (some g) := by
  have hlt := (Array.getElem?_eq_some_iff.1 hg).1
  have hheap : (sortWorldK (fun b => Blm.cells b) 3 w g 0 n srt.toArray os).heap = (w.heap.modify g (Go.Sort.onCells (Go.Sort.putCells id 0 (blCells srt).toArray))) ++ os := by
    unfold sortWorldK putRowK
    rw [flat_blCells]
    rfl
  have hsz : (w.heap.modify g (Go.Sort.onCells (Go.Sort.putCells id 0 (blCells srt).toArray))).size = w.heap.size := by simp
  have hblk : (sortWorldK (fun b => Blm.cells b) 3 w g 0 n srt.toArray os).heap[g]? = some (.cells (Go.Sort.putCells id 0 (blCells srt).toArray cur) 55 (0, 0)) := by
    rw [hheap, Array.getElem?_append_left (by rw [hsz]; exact hlt), Array.getElem?_modify, if_pos rfl, hg]
    rfl
  refine ⟨⟨by rw [blCells_length, hl], .inr ⟨g, cap, _, rfl, hB, hblk, hn, hc, by simp [Go.Sort.putCells, hs], ?_⟩⟩, rfl, rfl, rfl, by rw [hheap]; simp, fun k hk hne => ?_⟩
  · apply List.ext_getElem?
    intro j
    rw [List.getElem?_take]
    by_cases hj : j < outs.length * 3
    · rw [if_pos hj]
      have hj2 : j < (blCells srt).length := by rw [blCells_length, hl]; exact hj
      have hj3 : j < cur.size := by rw [hs]; exact Nat.lt_of_lt_of_le hj (Nat.mul_le_mul_right 3 hn)
      rw [Array.getElem?_toList]
      unfold Go.Sort.putCells
      rw [Array.getElem?_mapIdx, Array.getElem?_eq_getElem hj3]
      have h0 : 0 ≤ j ∧ j < 0 + (blCells srt).toArray.size := by simpa using hj2
      simp only [Option.map_some]
      rw [if_pos h0]
      rw [Nat.sub_zero, Array.getElem!_eq_getD, Array.getD_eq_getD_getElem?]
      rw [List.getElem?_toArray, List.getElem?_eq_getElem hj2]
      rfl
    · rw [if_neg hj, List.getElem?_eq_none]
      rw [blCells_length, hl]
      omega
  · rw [hheap, Array.getElem?_append_left (by rw [hsz]; exact hk), Array.getElem?_modify, if_neg (fun e => hne (by rw [e]))]

theorem judgeSort (outs : List Blm) (ov : Value) (B : Nat) (w : World) (ho : w.ownsRow B 55 3 ov outs.length (blCells outs)) (hl : outs.length ≤ 4000000) :
    Calls Try.prog 43 #[ov, .func (.func 44) #[] #[]] w fun e w' => e = .returned (.tuple #[]) ∧ w'.ownsRow B 55 3 ov outs.length (blCells (sortB outs)) ∧ w.grownBy w' ov.ownBlock := by
  have ho' := ho
  rcases ho.2 with ⟨rfl, hn⟩ | ⟨g, cap, cur, rfl, hB, hg, hn, hc, hs, ht⟩
  · have h0 : outs = [] := List.eq_nil_of_length_eq_zero hn
    subst h0
    have := AnyF.slices_SortFunc_none (P := Try.prog) (ρ := Try.sortB_ren) { Try.sortB with } none 0 (.func (.func 44) #[] #[]) w
    refine Calls.mono this fun e w' ⟨he, hw⟩ => ?_
    subst hw
    exact ⟨he, by rw [sortB_nil]; exact ho', World.grownBy.refl w' _⟩
  · have eg : ∀ args w, (callFunc 44 args).run Try.prog w = .ok (.enter 44 args) w := enters_of Try.func44 (by kernel_rfl) rfl
    have hlt := (Array.getElem?_eq_some_iff.1 hg).1
    have hH : HoldsK (fun b => Blm.cells b) 3 w g 0 outs.toArray := by
      unfold HoldsK
      rw [flat_blCells]
      intro j hj
      have hj' : j < (blCells outs).length := by simpa using hj
      refine ⟨?_, by simp [World.frozen?, hg]⟩
      have := ho'.cells (g := g) rfl j _ (List.getElem?_eq_getElem hj')
      rw [addr_add] at this
      rw [this, Array.getElem!_eq_getD, Array.getD_eq_getD_getElem?, List.getElem?_toArray, List.getElem?_eq_getElem hj']
      rfl
    have hS := AnyQ.slices_SortFunc_total Try.sortB 3 isAgg55 sizeOf55 (fun b => Blm.cells b) (fun _ => rfl) (fun x v hv => by simp [Blm.cells] at hv; rcases hv with rfl | rfl | rfl <;> rfl) cfB swoB 44 #[] g 0 cap outs.toArray w eg (cmpLaysB g 0 _ w) hH hlt (by simp; omega) totB
    rw [geB] at hS
    have hsz : outs.toArray.size = outs.length := by simp
    rw [hsz] at hS
    refine Calls.mono hS fun e w' ⟨he, n, os, hw⟩ => ?_
    subst hw
    have := sortWorld_own (n := n) (os := os) (srt := sortB outs) hB hg hn hc hs (sortB_length outs)
    exact ⟨he, this.1, this.2⟩
end Go.Proofs.Ytpnegacfanbcfaa
