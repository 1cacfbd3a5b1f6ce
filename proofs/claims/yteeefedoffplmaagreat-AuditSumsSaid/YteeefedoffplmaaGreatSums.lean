/- Sums of uses: the program's and the document's. Conditions: the row lies in memory, and is at most 4000000 long. -/
import Derived.Test.YteeefedoffplmaaGreatClaim
import Derived.Test.YteeefedoffplmaaGreatStorePut
set_option linter.unusedSimpArgs false
set_option linter.unusedVariables false
namespace Go.Proofs.YteeefedoffplmaaGreat
open Go.RowKit Go.Maps

def cnt (k : Int) (l : List UseS) : Int := ((l.filter (fun u => decide (u.kind = k))).length : Int)
def sumCells (l : List UseS) : List Value := [.int .i64 (cnt 1 l), .int .i64 (cnt 2 l), .int .i64 (cnt 3 l), .int .i64 (cnt 4 l), .int .i64 (cnt 5 l)]
def sumsV (l : List UseS) : Value := .agg #[.int .i64 (cnt 1 l), .int .i64 (cnt 2 l), .int .i64 (cnt 3 l), .int .i64 (cnt 4 l), .int .i64 (cnt 5 l)]
theorem cnt_le (k : Int) (l : List UseS) : 0 ≤ cnt k l ∧ cnt k l ≤ l.length := by
  unfold cnt
  have := List.length_filter_le (fun u : UseS => decide (u.kind = k)) l
  omega
theorem cnt_snoc (k : Int) (l : List UseS) (x : UseS) : cnt k (l ++ [x]) = cnt k l + (if x.kind = k then 1 else 0) := by
  unfold cnt
  by_cases h : x.kind = k <;> simp [List.filter_append, h]
theorem sum_none {l : List UseS} {j : Nat} {x : UseS} (hx : l[j]? = some x) (h1 : ¬ x.kind = 1) (h2 : ¬ x.kind = 2) (h3 : ¬ x.kind = 3) (h4 : ¬ x.kind = 4) (h5 : ¬ x.kind = 5) : sumCells (l.take (j + 1)) = sumCells (l.take j) := by
  rw [take_snoc hx]
  simp [sumCells, cnt_snoc, h1, h2, h3, h4, h5]
theorem sum_some1 {l : List UseS} {j : Nat} {x : UseS} (hx : l[j]? = some x) (h : x.kind = 1) : sumCells (l.take (j + 1)) = (sumCells (l.take j)).set 0 (.int .i64 (cnt 1 (l.take j) + 1)) := by
  rw [take_snoc hx]
  simp [sumCells, cnt_snoc, h]
theorem sum_some2 {l : List UseS} {j : Nat} {x : UseS} (hx : l[j]? = some x) (h : x.kind = 2) : sumCells (l.take (j + 1)) = (sumCells (l.take j)).set 1 (.int .i64 (cnt 2 (l.take j) + 1)) := by
  rw [take_snoc hx]
  simp [sumCells, cnt_snoc, h]
theorem sum_some3 {l : List UseS} {j : Nat} {x : UseS} (hx : l[j]? = some x) (h : x.kind = 3) : sumCells (l.take (j + 1)) = (sumCells (l.take j)).set 2 (.int .i64 (cnt 3 (l.take j) + 1)) := by
  rw [take_snoc hx]
  simp [sumCells, cnt_snoc, h]
theorem sum_some4 {l : List UseS} {j : Nat} {x : UseS} (hx : l[j]? = some x) (h : x.kind = 4) : sumCells (l.take (j + 1)) = (sumCells (l.take j)).set 3 (.int .i64 (cnt 4 (l.take j) + 1)) := by
  rw [take_snoc hx]
  simp [sumCells, cnt_snoc, h]
theorem sum_some5 {l : List UseS} {j : Nat} {x : UseS} (hx : l[j]? = some x) (h : x.kind = 5) : sumCells (l.take (j + 1)) = (sumCells (l.take j)).set 4 (.int .i64 (cnt 5 (l.take j) + 1)) := by
  rw [take_snoc hx]
  simp [sumCells, cnt_snoc, h]
theorem row_use {w : World} {A : Option Addr} {l : List UseS} (h : Row w A (l.flatMap UseS.cells)) {j : Nat} {x : UseS} (hx : l[j]? = some x) : ∃ b off, A = some ⟨b, off, none⟩ ∧ ∀ k u, x.cells[k]? = some u → w.cell? ⟨b, off + j * 5 + k, none⟩ = some u := by
  have key : ∀ k u, x.cells[k]? = some u → ∃ b off, A = some ⟨b, off, none⟩ ∧ w.cell? ⟨b, off + (j * 5 + k), none⟩ = some u := fun k u hu => h (j * 5 + k) u ((flatMap_get UseS.cells 5 (fun _ => rfl) l j x hx k (List.getElem?_eq_some_iff.1 hu).1).trans hu)
  obtain ⟨b, off, hA, _⟩ := key 0 _ rfl
  refine ⟨b, off, hA, fun k u hu => ?_⟩
  obtain ⟨b', off', e, hc⟩ := key k u hu
  rw [hA] at e
  injection e with e
  injection e with e1 e2
  subst e1 e2
  rw [Nat.add_assoc]
  exact hc
def SuRel (l : List UseS) (sb : Nat) (w : World) (k : Nat) (i : Value) (wr : World) : Prop :=
  ∃ j : Nat, j ≤ l.length ∧ i = .int .i64 (j : Int) ∧ k = l.length - j ∧ Blk wr sb (sumCells (l.take j)) 25 ∧ Only [sb] w wr
set_option maxRecDepth 100000 in
set_option maxHeartbeats 3200000 in
theorem sums_any (w : World) (l : List UseS) (A : Option Addr) (c : Nat) (hl : l.length ≤ 4000000) (ha : Row w A (l.flatMap UseS.cells)) :
    Calls Tryz.prog 6 #[.slice A l.length c] w fun e w' => e = .returned (sumsV l) ∧ Only [] w w' := by
  obtain ⟨w0, hw0⟩ : ∃ w0, (w.alloc (.cells #[.int .i64 0, .int .i64 0, .int .i64 0, .int .i64 0, .int .i64 0] 25)).alloc (.cells #[.int .i64 0, .int .i64 0, .int .i64 0, .int .i64 0, .int .i64 0] 25) = w0 := ⟨_, rfl⟩
  have ho0 : Only [] w w0 := by rw [← hw0]; exact ((Only.refl _ _).alloc _).alloc _
  have hb0 : Blk w0 w.heap.size [.int .i64 0, .int .i64 0, .int .i64 0, .int .i64 0, .int .i64 0] 25 := by rw [← hw0]; exact (Blk.new w _ 25).alloc _
  have hb1 : Blk w0 (w.heap.size + 1) (sumCells (l.take 0)) 25 := by
    have := Blk.new (w.alloc (.cells #[.int .i64 0, .int .i64 0, .int .i64 0, .int .i64 0, .int .i64 0] 25)) [.int .i64 0, .int .i64 0, .int .i64 0, .int .i64 0, .int .i64 0] 25
    rw [World.size_alloc] at this
    rw [← hw0]
    exact this
  have HA := Lib.hid ha; have HO0 := Lib.hid ho0; have HB0 := Lib.hid hb0; have HB1 := Lib.hid hb1
  unfold sumsV
  clear ha ho0 hb0 hb1
  go_enter Tryz.func6, Tryz.ntmps6
  go_wp2_with fail
  clear hw0
  go_loopg [8] l.length (fun k i wr => SuRel l (w.heap.size + 1) w0 k i wr)
  case atStart => exact ⟨0, by omega, rfl, by omega, HB1.out, Only.refl _ _⟩
  case round =>
    obtain ⟨j, hj, rfl, rfl, hb, ho⟩ := hrel
    have HB := Lib.hid hb; have HO := Lib.hid ho
    by_cases hjn : j < l.length
    · obtain ⟨gk2, hgk⟩ : ∃ gk2, l.length - j = gk2 + 1 := ⟨l.length - j - 1, by omega⟩
      have hx : l[j]? = some l[j] := List.getElem?_eq_getElem hjn
      generalize l[j] = x at hx
      obtain ⟨xk, xp, xf, xt, xw⟩ := x
      obtain ⟨b, off, hA, hc⟩ := row_use HA.out hx
      subst hA
      have hlt := cell_lt (hc 0 _ rfl)
      have ho2 : Only [w.heap.size + 1] w wr := (HO0.out.mono (by simp)).trans ho
      have hne : b ∉ [w.heap.size + 1] := by simp at hlt ⊢; omega
      have k0 := cell_only ho2 (hc 0 _ rfl) hne
      rw [Nat.add_zero] at k0
      have k1 := cell_only ho2 (hc 1 _ rfl) hne
      have k2 := cell_only ho2 (hc 2 _ rfl) hne
      have k3 := cell_only ho2 (hc 3 _ rfl) hne
      have k4 := cell_only ho2 (hc 4 _ rfl) hne
      have hbw : Blk (wr.alloc (.cells #[.int .i64 xk, .int .i64 xp, .int .i64 xf, .int .i64 xt, .int .i64 xw] 62)) (w.heap.size + 1) (sumCells (l.take j)) 25 := hb.alloc _
      have HBW := Lib.hid hbw
      have HOW := Lib.hid (show Only [w.heap.size + 1] w0 (wr.alloc (.cells #[.int .i64 xk, .int .i64 xp, .int .i64 xf, .int .i64 xt, .int .i64 xw] 62)) from ho.alloc _)
      have f0 := hbw.frozen
      have g0 := hbw.cell (i := 0) rfl
      have g1 := hbw.cell (i := 1) rfl
      have g2 := hbw.cell (i := 2) rfl
      have g3 := hbw.cell (i := 3) rfl
      have g4 := hbw.cell (i := 4) rfl
      have s1 := cnt_le 1 (l.take j)
      have s2 := cnt_le 2 (l.take j)
      have s3 := cnt_le 3 (l.take j)
      have s4 := cnt_le 4 (l.take j)
      have s5 := cnt_le 5 (l.take j)
      have htl : (l.take j).length ≤ 4000000 := by rw [List.length_take]; omega
      have hlw : w.heap.size + 1 ≠ wr.heap.size := fun e => by have := hb.lt; omega
      have hj0 : (0 : Int) ≤ (j : Int) := by omega
      have hj1 : (j : Int) < (l.length : Int) := by omega
      have HX := Lib.hid hx; have HGK := Lib.hid hgk; have HJN := Lib.hid hjn
      clear hb ho hx hc ho2 hne hgk hjn hbw
      by_cases m1 : xk = 1
      · subst m1
        go_wp2_with fail
        go_roundg gk2
        case measure => have := HGK.out; omega
        case rel =>
          have hjl := HJN.out
          have hg := HGK.out
          exact ⟨j + 1, by omega, by first | (rw [IntWalk.wrap64_in ((j : Int) + 1) (by omega)]; rfl) | rfl, by omega, (sum_some1 HX.out rfl).symm ▸ HBW.out.set 0 _, HOW.out.setCell (.inl (by simp)) _⟩
      · have n1 := m1
        have q1 : (xk == 1) = false := by simp [m1]
        by_cases m2 : xk = 2
        · subst m2
          go_wp2_with fail
          go_roundg gk2
          case measure => have := HGK.out; omega
          case rel =>
            have hjl := HJN.out
            have hg := HGK.out
            exact ⟨j + 1, by omega, by first | (rw [IntWalk.wrap64_in ((j : Int) + 1) (by omega)]; rfl) | rfl, by omega, (sum_some2 HX.out rfl).symm ▸ HBW.out.set 1 _, HOW.out.setCell (.inl (by simp)) _⟩
        · have n2 := m2
          have q2 : (xk == 2) = false := by simp [m2]
          by_cases m3 : xk = 3
          · subst m3
            go_wp2_with fail
            go_roundg gk2
            case measure => have := HGK.out; omega
            case rel =>
              have hjl := HJN.out
              have hg := HGK.out
              exact ⟨j + 1, by omega, by first | (rw [IntWalk.wrap64_in ((j : Int) + 1) (by omega)]; rfl) | rfl, by omega, (sum_some3 HX.out rfl).symm ▸ HBW.out.set 2 _, HOW.out.setCell (.inl (by simp)) _⟩
          · have n3 := m3
            have q3 : (xk == 3) = false := by simp [m3]
            by_cases m4 : xk = 4
            · subst m4
              go_wp2_with fail
              go_roundg gk2
              case measure => have := HGK.out; omega
              case rel =>
                have hjl := HJN.out
                have hg := HGK.out
                exact ⟨j + 1, by omega, by first | (rw [IntWalk.wrap64_in ((j : Int) + 1) (by omega)]; rfl) | rfl, by omega, (sum_some4 HX.out rfl).symm ▸ HBW.out.set 3 _, HOW.out.setCell (.inl (by simp)) _⟩
            · have n4 := m4
              have q4 : (xk == 4) = false := by simp [m4]
              by_cases m5 : xk = 5
              · subst m5
                go_wp2_with fail
                go_roundg gk2
                case measure => have := HGK.out; omega
                case rel =>
                  have hjl := HJN.out
                  have hg := HGK.out
                  exact ⟨j + 1, by omega, by first | (rw [IntWalk.wrap64_in ((j : Int) + 1) (by omega)]; rfl) | rfl, by omega, (sum_some5 HX.out rfl).symm ▸ HBW.out.set 4 _, HOW.out.setCell (.inl (by simp)) _⟩
              · have n5 := m5
                have q5 : (xk == 5) = false := by simp [m5]
                go_wp2_with fail
                go_roundg gk2
                case measure => have := HGK.out; omega
                case rel =>
                  have hjl := HJN.out
                  have hg := HGK.out
                  exact ⟨j + 1, by omega, by first | (rw [IntWalk.wrap64_in ((j : Int) + 1) (by omega)]; rfl) | rfl, by omega, (sum_none HX.out n1 n2 n3 n4 n5).symm ▸ HBW.out, HOW.out⟩
    · have hje : j = l.length := by omega
      subst hje
      have htk : l.take l.length = l := List.take_length
      rw [htk] at hb
      have hbr := HB0.out.only ho (by simp)
      have f0 := hbr.frozen
      have r0 := hbr.cell (i := 0) rfl
      have r1 := hbr.cell (i := 1) rfl
      have r2 := hbr.cell (i := 2) rfl
      have r3 := hbr.cell (i := 3) rfl
      have r4 := hbr.cell (i := 4) rfl
      have g0 := hb.cell (i := 0) rfl
      have g1 := hb.cell (i := 1) rfl
      have g2 := hb.cell (i := 2) rfl
      have g3 := hb.cell (i := 3) rfl
      have g4 := hb.cell (i := 4) rfl
      clear hb ho hbr
      go_wp2_with fail
      refine bodyPost_ret (v := .agg #[.int .i64 (cnt 1 l), .int .i64 (cnt 2 l), .int .i64 (cnt 3 l), .int .i64 (cnt 4 l), .int .i64 (cnt 5 l)]) (by simp [results, Tryz.results6, go_sem, r0, r1, r2, r3, r4]) rfl ⟨rfl, ?_⟩
      have g := (HO0.out.mono (by simp)).trans HO.out
      exact ((only5 wr w.heap.size _ _ _ _ _).mono (Y := [w.heap.size, w.heap.size + 1]) (by simp)) |> fun h => ((g.mono (by simp)).trans h).fresh (fun k hk hl => by simp at hk; omega)
set_option maxRecDepth 100000 in
set_option maxHeartbeats 3200000 in
theorem refSums_any (w : World) (l : List UseS) (A : Option Addr) (c : Nat) (hl : l.length ≤ 4000000) (ha : Row w A (l.flatMap UseS.cells)) :
    Calls Tryz.prog 7 #[.slice A l.length c] w fun e w' => e = .returned (sumsV l) ∧ Only [] w w' := by
  obtain ⟨w0, hw0⟩ : ∃ w0, (w.alloc (.cells #[.int .i64 0, .int .i64 0, .int .i64 0, .int .i64 0, .int .i64 0] 25)).alloc (.cells #[.int .i64 0, .int .i64 0, .int .i64 0, .int .i64 0, .int .i64 0] 25) = w0 := ⟨_, rfl⟩
  have ho0 : Only [] w w0 := by rw [← hw0]; exact ((Only.refl _ _).alloc _).alloc _
  have hb0 : Blk w0 w.heap.size [.int .i64 0, .int .i64 0, .int .i64 0, .int .i64 0, .int .i64 0] 25 := by rw [← hw0]; exact (Blk.new w _ 25).alloc _
  have hb1 : Blk w0 (w.heap.size + 1) (sumCells (l.take 0)) 25 := by
    have := Blk.new (w.alloc (.cells #[.int .i64 0, .int .i64 0, .int .i64 0, .int .i64 0, .int .i64 0] 25)) [.int .i64 0, .int .i64 0, .int .i64 0, .int .i64 0, .int .i64 0] 25
    rw [World.size_alloc] at this
    rw [← hw0]
    exact this
  have HA := Lib.hid ha; have HO0 := Lib.hid ho0; have HB0 := Lib.hid hb0; have HB1 := Lib.hid hb1
  unfold sumsV
  clear ha ho0 hb0 hb1
  go_enter Tryz.func7, Tryz.ntmps7
  go_wp2_with fail
  clear hw0
  go_loopg [4] l.length (fun k i wr => SuRel l (w.heap.size + 1) w0 k i wr)
  case atStart => exact ⟨0, by omega, rfl, by omega, HB1.out, Only.refl _ _⟩
  case round =>
    obtain ⟨j, hj, rfl, rfl, hb, ho⟩ := hrel
    have HB := Lib.hid hb; have HO := Lib.hid ho
    by_cases hjn : j < l.length
    · obtain ⟨gk2, hgk⟩ : ∃ gk2, l.length - j = gk2 + 1 := ⟨l.length - j - 1, by omega⟩
      have hx : l[j]? = some l[j] := List.getElem?_eq_getElem hjn
      generalize l[j] = x at hx
      obtain ⟨xk, xp, xf, xt, xw⟩ := x
      obtain ⟨b, off, hA, hc⟩ := row_use HA.out hx
      subst hA
      have hlt := cell_lt (hc 0 _ rfl)
      have ho2 : Only [w.heap.size + 1] w wr := (HO0.out.mono (by simp)).trans ho
      have hne : b ∉ [w.heap.size + 1] := by simp at hlt ⊢; omega
      have k0 := cell_only ho2 (hc 0 _ rfl) hne
      rw [Nat.add_zero] at k0
      have hbw : Blk wr (w.heap.size + 1) (sumCells (l.take j)) 25 := hb
      have HBW := Lib.hid hbw
      have HOW := Lib.hid (show Only [w.heap.size + 1] w0 wr from ho)
      have f0 := hbw.frozen
      have g0 := hbw.cell (i := 0) rfl
      have g1 := hbw.cell (i := 1) rfl
      have g2 := hbw.cell (i := 2) rfl
      have g3 := hbw.cell (i := 3) rfl
      have g4 := hbw.cell (i := 4) rfl
      have s1 := cnt_le 1 (l.take j)
      have s2 := cnt_le 2 (l.take j)
      have s3 := cnt_le 3 (l.take j)
      have s4 := cnt_le 4 (l.take j)
      have s5 := cnt_le 5 (l.take j)
      have htl : (l.take j).length ≤ 4000000 := by rw [List.length_take]; omega
      have hlw : w.heap.size + 1 ≠ wr.heap.size := fun e => by have := hb.lt; omega
      have hj0 : (0 : Int) ≤ (j : Int) := by omega
      have hj1 : (j : Int) < (l.length : Int) := by omega
      have HX := Lib.hid hx; have HGK := Lib.hid hgk; have HJN := Lib.hid hjn
      clear hb ho hx hc ho2 hne hgk hjn hbw
      by_cases m1 : xk = 1
      · subst m1
        go_wp2_with fail
        go_roundg gk2
        case measure => have := HGK.out; omega
        case rel =>
          have hjl := HJN.out
          have hg := HGK.out
          exact ⟨j + 1, by omega, by first | (rw [IntWalk.wrap64_in ((j : Int) + 1) (by omega)]; rfl) | rfl, by omega, (sum_some1 HX.out rfl).symm ▸ HBW.out.set 0 _, HOW.out.setCell (.inl (by simp)) _⟩
      · have n1 := m1
        have q1 : (xk == 1) = false := by simp [m1]
        by_cases m2 : xk = 2
        · subst m2
          go_wp2_with fail
          go_roundg gk2
          case measure => have := HGK.out; omega
          case rel =>
            have hjl := HJN.out
            have hg := HGK.out
            exact ⟨j + 1, by omega, by first | (rw [IntWalk.wrap64_in ((j : Int) + 1) (by omega)]; rfl) | rfl, by omega, (sum_some2 HX.out rfl).symm ▸ HBW.out.set 1 _, HOW.out.setCell (.inl (by simp)) _⟩
        · have n2 := m2
          have q2 : (xk == 2) = false := by simp [m2]
          by_cases m3 : xk = 3
          · subst m3
            go_wp2_with fail
            go_roundg gk2
            case measure => have := HGK.out; omega
            case rel =>
              have hjl := HJN.out
              have hg := HGK.out
              exact ⟨j + 1, by omega, by first | (rw [IntWalk.wrap64_in ((j : Int) + 1) (by omega)]; rfl) | rfl, by omega, (sum_some3 HX.out rfl).symm ▸ HBW.out.set 2 _, HOW.out.setCell (.inl (by simp)) _⟩
          · have n3 := m3
            have q3 : (xk == 3) = false := by simp [m3]
            by_cases m4 : xk = 4
            · subst m4
              go_wp2_with fail
              go_roundg gk2
              case measure => have := HGK.out; omega
              case rel =>
                have hjl := HJN.out
                have hg := HGK.out
                exact ⟨j + 1, by omega, by first | (rw [IntWalk.wrap64_in ((j : Int) + 1) (by omega)]; rfl) | rfl, by omega, (sum_some4 HX.out rfl).symm ▸ HBW.out.set 3 _, HOW.out.setCell (.inl (by simp)) _⟩
            · have n4 := m4
              have q4 : (xk == 4) = false := by simp [m4]
              by_cases m5 : xk = 5
              · subst m5
                go_wp2_with fail
                go_roundg gk2
                case measure => have := HGK.out; omega
                case rel =>
                  have hjl := HJN.out
                  have hg := HGK.out
                  exact ⟨j + 1, by omega, by first | (rw [IntWalk.wrap64_in ((j : Int) + 1) (by omega)]; rfl) | rfl, by omega, (sum_some5 HX.out rfl).symm ▸ HBW.out.set 4 _, HOW.out.setCell (.inl (by simp)) _⟩
              · have n5 := m5
                have q5 : (xk == 5) = false := by simp [m5]
                go_wp2_with fail
                go_roundg gk2
                case measure => have := HGK.out; omega
                case rel =>
                  have hjl := HJN.out
                  have hg := HGK.out
                  exact ⟨j + 1, by omega, by first | (rw [IntWalk.wrap64_in ((j : Int) + 1) (by omega)]; rfl) | rfl, by omega, (sum_none HX.out n1 n2 n3 n4 n5).symm ▸ HBW.out, HOW.out⟩
    · have hje : j = l.length := by omega
      subst hje
      have htk : l.take l.length = l := List.take_length
      rw [htk] at hb
      have hbr := HB0.out.only ho (by simp)
      have f0 := hbr.frozen
      have r0 := hbr.cell (i := 0) rfl
      have r1 := hbr.cell (i := 1) rfl
      have r2 := hbr.cell (i := 2) rfl
      have r3 := hbr.cell (i := 3) rfl
      have r4 := hbr.cell (i := 4) rfl
      have g0 := hb.cell (i := 0) rfl
      have g1 := hb.cell (i := 1) rfl
      have g2 := hb.cell (i := 2) rfl
      have g3 := hb.cell (i := 3) rfl
      have g4 := hb.cell (i := 4) rfl
      clear hb ho hbr
      go_wp2_with fail
      refine bodyPost_ret (v := .agg #[.int .i64 (cnt 1 l), .int .i64 (cnt 2 l), .int .i64 (cnt 3 l), .int .i64 (cnt 4 l), .int .i64 (cnt 5 l)]) (by simp [results, Tryz.results7, go_sem, r0, r1, r2, r3, r4]) rfl ⟨rfl, ?_⟩
      have g := (HO0.out.mono (by simp)).trans HO.out
      exact ((only5 wr w.heap.size _ _ _ _ _).mono (Y := [w.heap.size, w.heap.size + 1]) (by simp)) |> fun h => ((g.mono (by simp)).trans h).fresh (fun k hk hl => by simp at hk; omega)
end Go.Proofs.YteeefedoffplmaaGreat
