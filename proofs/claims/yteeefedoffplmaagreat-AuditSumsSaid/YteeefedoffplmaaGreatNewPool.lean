/- The constructors: epoch.New. Conditions: one to eight workers. -/
import Derived.Test.YteeefedoffplmaaGreatSet
namespace Go.Proofs.YteeefedoffplmaaGreat
open Go.RowKit

set_option maxRecDepth 100000 in
set_option maxHeartbeats 1600000 in
theorem epochNew_any (w : World) (pb n : Nat) (hn : 1 ≤ n ∧ n ≤ 8) :
    Calls Tryz.prog 42 #[ptr pb, .int .i64 (n : Int)] w fun e w' => e = .returned (ptr w.heap.size) ∧ EpochAt w' w.heap.size pb (w.heap.size + 1) none ⟨n, 1, 0, 0, []⟩ ∧ Only [] w w' := by
  have hb : Blk (w.alloc (.cells (epochCells pb ⟨n, 0, 0, 0, []⟩ nilS).toArray 185)) w.heap.size (epochCells pb ⟨n, 0, 0, 0, []⟩ nilS) 185 := Blk.new w _ 185
  have hst := atomStore (b := w.heap.size) (i := 2) (x := 0) (y := 1) (hc := hb.cell (i := 2) rfl) (hf := hb.frozen 2)
  have h1 : max (n : Int) 1 = n := by omega
  have h2 : min (n : Int) 8 = n := by omega
  have hn1 : (1 : Int) ≤ n := by omega
  have hn8 : (n : Int) ≤ 8 := by omega
  unfold epochCells zI nilS ptr at hst
  unfold ptr
  clear hb
  go_enter Tryz.func42, Tryz.ntmps42
  go_wp2_with (go_at_call 100; refine hst.mono ?_; rintro e w1 ⟨rfl, rfl⟩)
  go_ret
  have hb := Blk.new w (epochCells pb ⟨n, 1, 0, 0, []⟩ nilS) 185
  exact ⟨rfl, ⟨⟨nilS, hb, World.ownsRow_nil _ _ 229 2, rfl⟩, by omega, hb.lt, hn, by simp, by simp, by simp, by simp⟩, (Only.refl _ _).alloc _⟩
theorem elemAtom : ElemOk Tryz.prog 164 122 1 8 := elemOk_of (by kernel_rfl) (by decide) (.agg #[.int .i64 0]) (by kernel_rfl) rfl
theorem make_atoms (n : Nat) (hn : n ≤ 4097) : ∃ Z : Array Value, Z.toList = ints (List.replicate n 0) ∧ ∀ w : World, (Instr.makeSlice 164 (.int .i64 (n : Int)) (.int .i64 (n : Int))).run Tryz.prog w = .ok (.slice (some ⟨w.heap.size, 0, none⟩) n n) (w.alloc (.cells Z 122)) := by
  obtain ⟨ht, hs, i, z, hi, hz, h2, h3, h4⟩ := elemAtom
  have hz' : z = .agg #[.int .i64 0] := by
    have h : (Tryz.prog.info? 122).bind (fun i => i.zero) = some (.agg #[.int .i64 0]) := by kernel_rfl
    rw [hi] at h
    simp only [Option.bind_some] at h
    rw [hz] at h
    injection h
  subst hz'
  refine ⟨madeCells (Value.agg #[.int .i64 0]).cells (n * 1), ?_, fun w => ?_⟩
  · have hc : (Value.agg #[.int .i64 0]).cells = #[.int .i64 0] := rfl
    rw [hc]
    simp [madeCells, ints, Nat.mod_one]
    apply List.ext_getElem?
    intro j
    by_cases hj : j < n <;> simp [hj]
  · have := run_makeSlice (P := Tryz.prog) (w := w) 164 122 i (.agg #[.int .i64 0]) ht hi hz .i64 .i64 (n : Int) (n : Int) (by omega) (Int.le_refl _) (by rw [h2]; simp; omega) (by rw [h3]; omega) (by omega)
    rw [h2] at this
    simpa using this
end Go.Proofs.YteeefedoffplmaaGreat

/- clock.New. Conditions: one to sixty-four leases. -/
namespace Go.Proofs.YteeefedoffplmaaGreat
open Go.RowKit

set_option maxRecDepth 100000 in
set_option maxHeartbeats 1600000 in
theorem clockNew_any (w : World) (n : Nat) (hn : 1 ≤ n ∧ n ≤ 64) :
    Calls Tryz.prog 40 #[.int .i64 (n : Int)] w fun e w' => e = .returned (.tuple #[ptr (w.heap.size + 1), .int .i64 0]) ∧ ClockAt w' ⟨w.heap.size + 1, w.heap.size⟩ ⟨1, List.replicate n 0⟩ ∧ Only [] w w' := by
  obtain ⟨Z, hZ, hmk⟩ := make_atoms n (by omega)
  have hsz : (w.alloc (.cells Z 122)).heap.size = w.heap.size + 1 := by simp
  have hb : Blk ((w.alloc (.cells Z 122)).alloc (.cells #[.int .i64 0, .slice (some ⟨w.heap.size, 0, none⟩) n n] 166)) (w.heap.size + 1) [.int .i64 0, .slice (some ⟨w.heap.size, 0, none⟩) n n] 166 := by
    have := Blk.new (w.alloc (.cells Z 122)) [.int .i64 0, .slice (some ⟨w.heap.size, 0, none⟩) n n] 166
    rw [hsz] at this
    exact this
  have hst := atomStore (b := w.heap.size + 1) (i := 0) (x := 0) (y := 1) (hc := hb.cell (i := 0) rfl) (hf := hb.frozen 0)
  have HZ := Lib.hid hZ
  have hn1 : (1 : Int) ≤ n := by omega
  have hn8 : (n : Int) ≤ 64 := by omega
  unfold ptr
  clear hb hZ
  go_enter Tryz.func40, Tryz.ntmps40
  go_wp2_with (go_at_call 100; refine hst.mono ?_; rintro e w1 ⟨rfl, rfl⟩)
  go_ret2
  have hl : Blk (w.alloc (.cells Z 122)) w.heap.size (ints (List.replicate n 0)) 122 := by
    have := Blk.new w Z.toList 122
    rw [HZ.out] at this
    rw [show Z = (ints (List.replicate n 0)).toArray by rw [← HZ.out]]
    exact Blk.new w _ 122
  have hb := Blk.new (w.alloc (.cells Z 122)) [.int .i64 1, .slice (some ⟨w.heap.size, 0, none⟩) n n] 166
  rw [hsz] at hb
  refine ⟨rfl, ⟨by simpa [sliceOf] using hb, hl.alloc _, by simp, by simp; omega, by simp, by simp⟩, ((Only.refl _ _).alloc _).alloc _⟩
end Go.Proofs.YteeefedoffplmaaGreat

/- makeSlice of structs: a chain's sets, a pool's slots. Conditions: at most 4097 of them. -/
namespace Go.Proofs.YteeefedoffplmaaGreat
open Go.RowKit

theorem made_rows (z : Array Value) (n : Nat) : (madeCells z (n * z.size)).toList = (List.replicate n z.toList).flatten := by
  induction n with
  | zero => simp [madeCells]
  | succ n ih =>
    rw [List.replicate_succ', List.flatten_append, ← ih]
    simp only [madeCells, Array.toList_map, Array.toList_range]
    rw [Nat.succ_mul, List.range_add, List.map_append]
    congr 1
    simp only [List.map_map, List.flatten_cons, List.flatten_nil, List.append_nil]
    apply List.ext_getElem
    · simp
    · intro j h1 h2
      simp at h1
      have hmod : (n * z.size + j) % z.size = j := by rw [Nat.mul_comm, Nat.mul_add_mod, Nat.mod_eq_of_lt h1]
      simp [hmod, h1]
theorem elemSet : ElemOk Tryz.prog 188 226 2 32 := elemOk_of (by kernel_rfl) (by decide) (.agg #[.int .i64 0, .slice none 0 0]) (by kernel_rfl) rfl
theorem flat_rep {α : Type} (x : α) (f : α → List Value) (n : Nat) : (List.replicate n (f x)).flatten = (List.replicate n x).flatMap f := by
  induction n with
  | zero => rfl
  | succ n ih => simp [List.replicate_succ, ih]
/-- a chain's sets, all empty. -/
def noSet : SRow := (0, [], .slice none 0 0)
theorem make_sets (n : Nat) (hn : n ≤ 4097) : ∃ Z : Array Value, Z.toList = (List.replicate n noSet).flatMap srowCells ∧ ∀ w : World, (Instr.makeSlice 188 (.int .i64 (n : Int)) (.int .i64 (n : Int))).run Tryz.prog w = .ok (.slice (some ⟨w.heap.size, 0, none⟩) n n) (w.alloc (.cells Z 226)) := by
  obtain ⟨ht, hs, i, z, hi, hz, h2, h3, h4⟩ := elemSet
  have hz' : z = .agg #[.int .i64 0, .slice none 0 0] := by
    have h : (Tryz.prog.info? 226).bind (fun i => i.zero) = some (.agg #[.int .i64 0, .slice none 0 0]) := by kernel_rfl
    rw [hi] at h
    simp only [Option.bind_some] at h
    rw [hz] at h
    injection h
  subst hz'
  refine ⟨madeCells #[.int .i64 0, .slice none 0 0] (n * 2), ?_, fun w => ?_⟩
  · exact (made_rows #[.int .i64 0, .slice none 0 0] n).trans (flat_rep noSet srowCells n)
  · have := run_makeSlice (P := Tryz.prog) (w := w) 188 226 i (.agg #[.int .i64 0, .slice none 0 0]) ht hi hz .i64 .i64 (n : Int) (n : Int) (by omega) (Int.le_refl _) (by rw [h2]; simp; omega) (by rw [h3]; omega) (by omega)
    rw [h2] at this
    have hc : (Value.agg #[.int .i64 0, .slice none 0 0]).cells = #[.int .i64 0, .slice none 0 0] := rfl
    rw [hc] at this
    simpa using this
/-- a slot nobody has taken. -/
def noSlot : SlotS := ⟨0, 0, 0, ⟨0, 0, 0, 0⟩⟩
theorem make_slots (n : Nat) (hn : n ≤ 4097) : ∃ Z : Array Value, Z.toList = (List.replicate n noSlot).flatMap SlotS.cells ∧ ∀ w : World, (Instr.makeSlice 116 (.int .i64 (n : Int)) (.int .i64 (n : Int))).run Tryz.prog w = .ok (.slice (some ⟨w.heap.size, 0, none⟩) n n) (w.alloc (.cells Z 280)) := by
  have ht : Tryz.prog.underlying 116 = some (.slice 280) := by kernel_rfl
  have hm : (Tryz.prog.info? 280).map (fun i => (i.size, i.bytes)) = some (7, 56) := by kernel_rfl
  have hb : (Tryz.prog.info? 280).bind (fun i => i.zero.map (·.cells)) = some #[.int .i64 0, .int .i64 0, .int .i64 0, .int .i64 0, .int .i64 0, .int .i64 0, .int .i64 0] := by kernel_rfl
  obtain ⟨i, hi, h23⟩ := Option.map_eq_some_iff.1 hm
  rw [hi] at hb
  simp only [Option.bind_some] at hb
  obtain ⟨z, hz, hc⟩ := Option.map_eq_some_iff.1 hb
  have h2 : i.size = 7 := congrArg Prod.fst h23
  have h3 : i.bytes = 56 := congrArg Prod.snd h23
  refine ⟨madeCells #[.int .i64 0, .int .i64 0, .int .i64 0, .int .i64 0, .int .i64 0, .int .i64 0, .int .i64 0] (n * 7), ?_, fun w => ?_⟩
  · exact (made_rows #[.int .i64 0, .int .i64 0, .int .i64 0, .int .i64 0, .int .i64 0, .int .i64 0, .int .i64 0] n).trans (flat_rep noSlot SlotS.cells n)
  · have := run_makeSlice (P := Tryz.prog) (w := w) 116 280 i z ht hi hz .i64 .i64 (n : Int) (n : Int) (by omega) (Int.le_refl _) (by rw [h2]; simp; omega) (by rw [h3]; omega) (by omega)
    rw [h2, hc] at this
    simpa using this
end Go.Proofs.YteeefedoffplmaaGreat

/- chain.New. Conditions: the pool lies in memory. -/
namespace Go.Proofs.YteeefedoffplmaaGreat
open Go.RowKit

/-- what chain.New hands back: an empty chain. -/
def NewChain (L : PoolL) (cb n : Nat) (w : World) (e : Ending) (w' : World) : Prop :=
  ∃ X base, e = .returned (ptr X.xb) ∧ w.heap.size ≤ X.xb ∧ w.heap.size ≤ X.sb ∧ ChainAt w' X L.pb cb base [] ⟨0, List.replicate n (0, [])⟩ ∧ Only [] w w'
set_option maxRecDepth 100000 in
set_option maxHeartbeats 1600000 in
theorem chainNew_any (w : World) (L : PoolL) (S : PoolS) (cb : Nat) (hp : PoolAt w L S) (h1 : 1 ≤ S.slots.length) :
    Calls Tryz.prog 44 #[ptr L.pb, ptr cb] w (NewChain L cb S.slots.length w) := by
  have hs := slots_any w L S hp h1
  have hm : S.slots.length ≤ 4097 := hp.most
  obtain ⟨Z, hZ, hmk⟩ := make_sets S.slots.length hm
  have hl : (S.slots.drop 1).length + 1 = S.slots.length := by rw [List.length_drop]; omega
  generalize S.slots.drop 1 = sl at *
  rw [← hl] at hmk hZ hm ⊢
  have hw : wrap64 ((sl.length : Int) + 1) = ((sl.length + 1 : Nat) : Int) := by rw [IntWalk.wrap64_in _ (by omega)]; simp
  have HZ := Lib.hid hZ
  have HW := Lib.hid hw
  have HM := Lib.hid hm
  simp only [Int.natCast_add, Int.natCast_one] at hmk
  have hw2 : wrap64 ((sl.length : Int) + 1) = (sl.length : Int) + 1 := by rw [hw]; simp
  unfold ptr at *
  clear hp h1 hl hZ hw hm
  go_enter Tryz.func44, Tryz.ntmps44
  go_wp2_with (go_at_call 104; refine hs.mono ?_; rintro e w1 ⟨sv, rfl, hown, ho⟩; obtain ⟨A, c, rfl, hrow, _⟩ := row_of_own hown; have HO := Lib.hid ho; clear ho hrow hown hs)
  go_ret
  have hm := HM.out
  generalize sl.length + 1 = n at *
  have hbl : Blk (w1.alloc (.cells Z 226)) w1.heap.size ((List.replicate n noSet).flatMap srowCells) 226 := by
    rw [← HZ.out]
    simpa using Blk.new w1 Z.toList 226
  have hb := Blk.new (w1.alloc (.cells Z 226)) [ptr L.pb, ptr cb, .int .i64 0, .slice (some ⟨w1.heap.size, 0, none⟩) n n] 191
  rw [show (w1.alloc (.cells Z 226)).heap.size = w1.heap.size + 1 by simp] at hb
  have hsz := HO.out.size
  refine ⟨⟨w1.heap.size + 1, w1.heap.size⟩, w1.heap.size + 2, rfl, by simp; omega, hsz, ⟨⟨List.replicate n noSet, by simp [noSet], by simpa [sliceOf, ptr] using hb, hbl.alloc _, ⟨fun r hr => ?_, fun i j r s k hi hj hij hk => ?_⟩⟩, by simp, by simp, by simp, by simp; omega, by simp⟩, ((HO.out.alloc _).alloc _)⟩
  · obtain rfl := List.eq_of_mem_replicate hr
    exact ⟨World.ownsRow_nil _ _ 3 1, (fun k hk => by cases hk), by simp [noSet]⟩
  · obtain rfl := List.eq_of_mem_replicate (List.mem_of_getElem? hi)
    cases hk
end Go.Proofs.YteeefedoffplmaaGreat

/- pile.New, all places free (part 0 given as 1 and tag 0). Conditions: one to 4096 places. -/
namespace Go.Proofs.YteeefedoffplmaaGreat
open Go.RowKit

/-- the links of a new pile, as far as place k. -/
def nexts (n k : Nat) : List Int := (List.range n).map (fun i => if 1 ≤ i ∧ i < k then (i : Int) + 1 else 0)
def NPRel (w : World) (fb nb n : Nat) (wr : World) (i : Nat) : Prop :=
  1 ≤ i ∧ i ≤ n ∧ Blk wr fb [.int .i64 (packW 1 0), sliceOf nb (n + 1)] 271 ∧ Blk wr nb (ints (nexts (n + 1) i)) 122 ∧ Only [] w wr
theorem nexts_step (n k : Nat) (h1 : 1 ≤ k) : (nexts n k).set k ((k : Int) + 1) = nexts n (k + 1) := by
  unfold nexts
  apply List.ext_getElem
  · simp
  · intro j h1 h2
    simp only [List.getElem_set, List.getElem_map, List.getElem_range]
    by_cases hj : k = j
    · subst hj
      simp [*]
    · rw [if_neg hj]
      by_cases h3 : 1 ≤ j ∧ j < k
      · rw [if_pos h3, if_pos (by omega)]
      · rw [if_neg h3, if_neg (by omega)]
theorem nexts_one (n : Nat) : nexts n 1 = List.replicate n 0 := by
  unfold nexts
  apply List.ext_getElem
  · simp
  · intro j h1 h2
    simp
    omega
set_option maxRecDepth 100000 in
set_option maxHeartbeats 1600000 in
theorem pileNew_any (w : World) (n : Nat) (hn : 1 ≤ n ∧ n ≤ 4096) :
    Calls Tryz.prog 99 #[.int .i64 (n : Int), .int .i64 0] w fun e w' => e = .returned (.tuple #[ptr (w.heap.size + 1), .int .i64 0]) ∧ NPRel w (w.heap.size + 1) w.heap.size n w' n := by
  obtain ⟨Z, hZ, hmk⟩ := make_atoms (n + 1) (by omega)
  have hpk := pack_any 1 0 w (by omega) (by omega) (by omega) (by omega)
  have hsz : (w.alloc (.cells Z 122)).heap.size = w.heap.size + 1 := by simp
  have hbl : Blk (w.alloc (.cells Z 122)) w.heap.size (ints (List.replicate (n + 1) 0)) 122 := by
    rw [← hZ]
    simpa using Blk.new w Z.toList 122
  have hb : Blk ((w.alloc (.cells Z 122)).alloc (.cells #[.int .i64 0, .slice (some ⟨w.heap.size, 0, none⟩) (n + 1) (n + 1)] 271)) (w.heap.size + 1) [.int .i64 0, .slice (some ⟨w.heap.size, 0, none⟩) (n + 1) (n + 1)] 271 := by
    have := Blk.new (w.alloc (.cells Z 122)) [.int .i64 0, .slice (some ⟨w.heap.size, 0, none⟩) (n + 1) (n + 1)] 271
    rw [hsz] at this
    exact this
  have hst := atomStore (b := w.heap.size + 1) (i := 0) (x := 0) (y := packW 1 0) (hc := hb.cell (i := 0) rfl) (hf := hb.frozen 0)
  have HB := Lib.hid (hb.set 0 (.int .i64 (packW 1 0))); have HBL := Lib.hid hbl
  have hn1 : (1 : Int) ≤ n := by omega
  have hn8 : (n : Int) ≤ 4096 := by omega
  have hw : wrap64 ((n : Int) + 1) = (n : Int) + 1 := IntWalk.wrap64_in _ (by omega)
  simp only [Int.natCast_add, Int.natCast_one] at hmk
  unfold ptr
  clear hb hZ hbl
  go_enter Tryz.func99, Tryz.ntmps99
  go_wp2_with (first | (go_at_call 81; refine hpk.mono ?_; rintro e w1 ⟨rfl, rfl⟩) | (go_at_call 100; refine hst.mono ?_; rintro e w1 ⟨rfl, rfl⟩))
  go_loopg [9] (n - 1) (fun k i wr => ∃ j : Nat, i = .int .i64 (j : Int) ∧ k + j = n ∧ NPRel w (w.heap.size + 1) w.heap.size n wr j)
  case atStart =>
    have hb := Blk.new (w.alloc (.cells Z 122)) [.int .i64 (packW 1 0), .slice (some ⟨w.heap.size, 0, none⟩) (n + 1) (n + 1)] 271
    rw [hsz] at hb
    exact ⟨1, rfl, by omega, by omega, hn.1, hb, by rw [nexts_one]; exact HBL.out.alloc _, ((Only.refl _ _).alloc _).alloc _⟩
  case round =>
    obtain ⟨j, rfl, hkj, h1, hjn, hb, hl, ho⟩ := hrel
    have c1 : wr.cell? ⟨w.heap.size + 1, 1, none⟩ = some (sliceOf w.heap.size (n + 1)) := hb.cell rfl
    unfold sliceOf at c1
    have HHB := Lib.hid hb; have HHL := Lib.hid hl; have HHO := Lib.hid ho
    cases gk with
    | zero =>
      obtain rfl : j = n := by omega
      clear hb hl ho
      go_wp2_with fail
      go_ret2
      exact ⟨rfl, h1, hjn, HHB.out, HHL.out, HHO.out⟩
    | succ f =>
      have hlt : (j : Int) < n := by omega
      have hx : ∃ x : Int, (nexts (n + 1) j)[j]? = some x := ⟨_, List.getElem?_eq_getElem (by simp [nexts]; omega)⟩
      obtain ⟨x, hx⟩ := hx
      have hwj : wrap64 ((j : Int) + 1) = (j : Int) + 1 := IntWalk.wrap64_in _ (by omega)
      have hst2 := atomStore (b := w.heap.size) (i := j) (x := x) (y := (j : Int) + 1) (hc := hl.cell (i := j) (by simp [ints, hx])) (hf := hl.frozen j)
      have hl2 := hl.set j (.int .i64 ((j : Int) + 1))
      have hl3 : Blk (wr.setCell ⟨w.heap.size, j, none⟩ (.int .i64 ((j : Int) + 1))) w.heap.size (ints (nexts (n + 1) (j + 1))) 122 := by
        rw [← nexts_step (n + 1) j h1]
        simpa [ints, List.map_set] using hl2
      have hb3 := hb.other (b' := w.heap.size) (by omega) j (.int .i64 ((j : Int) + 1))
      have ho3 : Only [] w (wr.setCell ⟨w.heap.size, j, none⟩ (.int .i64 ((j : Int) + 1))) := ho.setCell (.inr (Nat.le_refl _)) _
      have HL3 := Lib.hid hl3; have HB3 := Lib.hid hb3; have HO3 := Lib.hid ho3
      clear hb hl ho hl2 hl3 hb3 ho3 hx
      go_wp2_with (go_at_call 100; refine hst2.mono ?_; rintro e w1 ⟨rfl, rfl⟩)
      go_roundg f
      case measure => omega
      case rel => exact ⟨j + 1, by simp, by omega, by omega, by omega, HB3.out, HL3.out, HO3.out⟩
end Go.Proofs.YteeefedoffplmaaGreat

/- pool.New. Conditions: one to 4096 places. -/
namespace Go.Proofs.YteeefedoffplmaaGreat
open Go.RowKit

set_option maxRecDepth 100000 in
set_option maxHeartbeats 1600000 in
theorem poolNew_any (w : World) (n : Nat) (hn : 1 ≤ n ∧ n ≤ 4096) :
    Calls Tryz.prog 39 #[.int .i64 (n : Int)] w fun e w' => ∃ L, e = .returned (.tuple #[ptr L.pb, .int .i64 0]) ∧ PoolAt w' L (PoolS.new n) ∧ Only [] w w' ∧ ∀ k ∈ L.all, w.heap.size ≤ k := by
  obtain ⟨Z, hZ, hmk⟩ := make_slots (n + 1) (by omega)
  have hp := pileNew_any w n hn
  have hw : wrap64 ((n : Int) + 1) = (n : Int) + 1 := IntWalk.wrap64_in _ (by omega)
  simp only [Int.natCast_add, Int.natCast_one] at hmk
  have HZ := Lib.hid hZ
  unfold ptr at hp ⊢
  clear hZ
  go_enter Tryz.func39, Tryz.ntmps39
  go_wp2_with (go_at_call 99; refine hp.mono ?_; rintro e w1 ⟨rfl, h1, h2, h3, h4, h5⟩; have H3 := Lib.hid h3; have H4 := Lib.hid h4; have H5 := Lib.hid h5; clear h1 h2 h3 h4 h5 hp)
  go_ret2
  have hs := H5.out.size
  have h3 := H3.out.lt
  have hb := Blk.new (w1.alloc (.cells Z 280)) [.slice (some ⟨w1.heap.size, 0, none⟩) (n + 1) (n + 1), .pointer (some ⟨w.heap.size + 1, 0, none⟩), .int .i64 0] 124
  rw [show (w1.alloc (.cells Z 280)).heap.size = w1.heap.size + 1 by simp] at hb
  have hbl : Blk (w1.alloc (.cells Z 280)) w1.heap.size ((List.replicate (n + 1) noSlot).flatMap SlotS.cells) 280 := by
    rw [← HZ.out]
    simpa using Blk.new w1 Z.toList 280
  refine ⟨⟨w1.heap.size + 1, w1.heap.size, w.heap.size + 1, w.heap.size⟩, rfl, ⟨?_, ?_, ?_, ?_, by simp; omega, by simp [PoolS.new], by simp [PoolS.new]; omega, ?_, ?_⟩, (H5.out.alloc _).alloc _, ?_⟩
  · simpa [PoolS.new, sliceOf, ptr] using hb
  · exact hbl.alloc _
  · simpa [PoolS.new, sliceOf] using (H3.out.alloc _).alloc _
  · exact (H4.out.alloc _).alloc _
  · intro s hs
    obtain rfl := List.eq_of_mem_replicate hs
    exact ⟨by simp [In64], by simp [In64], by simp [In64], ⟨by simp [In64], by simp [In64], by simp [In64], by simp [In64]⟩⟩
  · intro x hx
    simp only [PoolS.new, List.mem_map, List.mem_range] at hx
    obtain ⟨i, hi, rfl⟩ := hx
    unfold In64
    split <;> omega
  · intro k hk
    simp [PoolL.all] at hk
    omega
end Go.Proofs.YteeefedoffplmaaGreat
