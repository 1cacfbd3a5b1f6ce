/- A pool's free places. Conditions: the pool lies in memory; places of the plain pool answers. -/
import Derived.Test.YteeefedoffplmaaGreatWith
namespace Go.Proofs.YteeefedoffplmaaGreat
open Go.RowKit

theorem step_store_row {P : Program} {ops : Array Oper} {o : Oper} {a : Act} {w : World} {K : Act → World → Prop} {Q : Exit → Act → World → Prop} {F : Prop} (hgd : o.guard = none) (ty : TypeId) (x y : Operand) (ho : o.op = .store ty x y)
    (g : Nat) (cells : Array Value) (hx : a.eval x = .pointer (some ⟨g, 0, none⟩)) (hy : a.eval y = .agg cells)
    (t : TypeId) (old : Array Value) (hg : w.heap[g]? = some (.cells old t (0, 0))) (hi : (P.info? ty).map (·.size) = some cells.size)
    (hold : old.size = cells.size) (h1 : cells.all (·.oneCell') = true)
    (h : K (a.put o.dst undef) (w.setRow g cells)) : if Region.wanted o (yielded ops a.tmps) = true then Oper.wp P o a w K Q else F := by
  have hw : Region.wanted o (yielded ops a.tmps) = true := by simp [Region.wanted, hgd]
  rw [if_pos hw]
  exact wp_store_row ty x y ho g cells hx hy t old hg hi hold h1 h
theorem pileIsNot (b k n : Nat) (i : Int) (w : World) (hc : w.cell? ⟨b, 1, none⟩ = some (sliceOf k n)) (h : ¬ (1 ≤ i ∧ i < n)) :
    Calls Tryz.prog 184 #[ptr b, .int .i64 i] w fun e w' => e = .returned (.bool false) ∧ w = w' := by
  unfold sliceOf at hc
  unfold ptr
  by_cases h1 : 1 ≤ i
  · have e2 : decide (i < (n : Int)) = false := by simp; omega
    clear h
    go_enter Tryz.func184, Tryz.ntmps184
    go_wp2_with fail
    go_ret
    exact ⟨rfl, rfl⟩
  · clear h
    go_enter Tryz.func184, Tryz.ntmps184
    go_wp2_with fail
    go_ret
    exact ⟨rfl, rfl⟩
/-- the bits of the places that came. -/
def BitsOf (M : List Nat) (out : List Int) : Prop := M.length = 65 ∧ (∀ x ∈ M, x < 18446744073709551616) ∧ ∀ y : Nat, y < 4160 → ∀ x, M[y / 64]? = some x → (x.testBit (y % 64) = true ↔ (y : Int) ∈ out)
def metWith (M : List Nat) (n : Nat) : List Nat := M.set (n / 64) ((M.getD (n / 64) 0) ||| 2 ^ (n % 64))
theorem BitsOf.start : BitsOf (List.replicate 65 0) [] := by
  refine ⟨by simp, fun x hx => ?_, fun y hy x hx => ?_⟩
  · obtain ⟨_, rfl⟩ := List.mem_replicate.1 hx
    omega
  · rw [List.getElem?_replicate] at hx
    split at hx
    · injection hx with hx
      subst hx
      simp
    · cases hx
theorem BitsOf.get {M : List Nat} {out : List Int} (h : BitsOf M out) {n : Nat} (hn : n < 4160) : ∃ x, M[n / 64]? = some x ∧ x < 18446744073709551616 := by
  have hl : n / 64 < M.length := by rw [h.1]; omega
  exact ⟨_, List.getElem?_eq_getElem hl, h.2.1 _ (List.getElem_mem hl)⟩
theorem BitsOf.with {M : List Nat} {out : List Int} (h : BitsOf M out) {n : Nat} (hn : n < 4160) : BitsOf (metWith M n) (out ++ [(n : Int)]) := by
  obtain ⟨x, hx, hxl⟩ := h.get hn
  have hg : M.getD (n / 64) 0 = x := by simp [List.getD, hx]
  refine ⟨by simp [metWith, h.1], fun y hy => ?_, fun y hy z hz => ?_⟩
  · rcases List.mem_or_eq_of_mem_set hy with hy | rfl
    · exact h.2.1 y hy
    · rw [hg]
      have h1 : x < 2 ^ 64 := by simpa using hxl
      have h2 : 2 ^ (n % 64) < 2 ^ 64 := Nat.pow_lt_pow_right (by omega) (Nat.mod_lt _ (by omega))
      have := Nat.or_lt_two_pow h1 h2
      simpa using this
  · unfold metWith at hz
    rw [hg, List.getElem?_set] at hz
    split at hz
    · rename_i he
      split at hz
      · injection hz with hz
        subst hz
        have h0 := h.2.2 y hy x (by rw [← he]; exact hx)
        rw [Nat.testBit_or, Bool.or_eq_true, h0, Nat.testBit_two_pow]
        simp only [decide_eq_true_eq, List.mem_append, List.mem_singleton]
        constructor
        · rintro (h1 | h1)
          · exact .inl h1
          · right; omega
        · rintro (h1 | h1)
          · exact .inl h1
          · right
            have : y = n := by omega
            rw [this]
      · cases hz
    · rename_i he
      have h0 := h.2.2 y hy z hz
      rw [h0]
      simp only [List.mem_append, List.mem_singleton]
      constructor
      · exact .inl
      · rintro (h1 | h1)
        · exact h1
        · exfalso
          have : y = n := by omega
          subst this
          exact he rfl
theorem BitsOf.ne {M : List Nat} {out : List Int} (h : BitsOf M out) {n : Nat} (hn : n < 4160) (hno : (n : Int) ∉ out) : metWith M n ≠ M := by
  intro e
  obtain ⟨x, hx, _⟩ := h.get hn
  have h1 := (h.with hn).2.2 n hn x (by rw [e]; exact hx)
  have h2 := h.2.2 n hn x hx
  have h3 : x.testBit (n % 64) = true := h1.2 (by simp)
  exact hno (h2.1 h3)
theorem mets_with (M : List Nat) (n : Nat) (x : Nat) (hx : M[n / 64]? = some x) : (mets M).setIfInBounds (n / 64) (.int .u64 ((x ||| 2 ^ (n % 64) : Nat) : Int)) = mets (metWith M n) := by
  have hg : M.getD (n / 64) 0 = x := by simp [List.getD, hx]
  unfold mets metWith
  rw [hg, List.map_set]
  simp
theorem mets_one (M : List Nat) : (mets M).all (·.oneCell') = true := by
  rw [Array.all_eq_true_iff_forall_mem]
  intro v hv
  simp only [mets, List.mem_toArray, List.mem_map] at hv
  obtain ⟨x, _, rfl⟩ := hv
  rfl
theorem z65_eq : z65 = mets (List.replicate 65 0) := by simp [z65, mets]
end Go.Proofs.YteeefedoffplmaaGreat

/- A pool's free places: the walk. Conditions: the pool lies in memory; places of the plain pool answers. -/
namespace Go.Proofs.YteeefedoffplmaaGreat
open Go.RowKit

theorem with_met (w : World) (M : List Nat) (out : List Int) (hM : BitsOf M out) (n : Nat) (hn : n < 4160) :
    Calls Tryz.prog 185 #[.agg (mets M), .int .i64 (n : Int)] w fun e w' => e = .returned (.agg (mets (metWith M n))) ∧ Below w.heap.size w w' := by
  obtain ⟨x, hx, hxl⟩ := hM.get hn
  have := with_any w (mets M) (by rw [mets_size]; exact hM.1) (mets_one M) n hn x (mets_get hx) hxl
  rwa [mets_with M n x hx] at this
theorem store_all {w : World} {g : Nat} {t : TypeId} {old cells : Array Value} (hg : w.heap[g]? = some (.cells old t (0, 0))) (hs : old.size = cells.size) (h1 : cells.all (·.oneCell') = true) :
    (storeCells ⟨g, 0, none⟩ cells.toList).run Tryz.prog w = .ok () (w.setRow g cells) := by
  have hone : ∀ v ∈ cells.toList, v.oneCell' = true := by
    intro v hv
    rw [Array.all_eq_true_iff_forall_mem] at h1
    exact h1 v (by simpa using hv)
  have := run_storeCells_at Tryz.prog g 0 t cells.toList 0 old w hg (by simp [hs]) hone
  rw [this]
  congr 2
  simp only [Nat.add_zero, List.take_zero, List.nil_append, Nat.zero_add, Array.length_toList]
  rw [← hs, List.drop_of_length_le (by simp)]
  simp
/-- the world with the array that now is. -/
def plW (w1 : World) (A : Array Value) : World := (w1.alloc (.cells z65 287)).setRow w1.heap.size A
theorem plW_blk (w1 : World) (A : Array Value) : (plW w1 A).heap[w1.heap.size]? = some (.cells A 287 (0, 0)) := setRow_heap _ _ _ _ _ _ (heap_alloc_new w1 _)
theorem plW_only (w1 : World) (A : Array Value) : Only [] w1 (plW w1 A) :=
  ⟨rfl, rfl, rfl, by simp [plW], fun k hk _ => by
    unfold plW
    rw [setRow_other _ _ _ _ (by omega)]
    exact ((Below.refl _ _).alloc (Nat.le_refl _) _).block _ hk⟩
structure PlInv (S : PoolS) (res : List Int) (w : World) (f : Nat) (i : Int) (out' : List Int) (M : List Nat) (out : Value) (wr : World) : Prop where
  run : S.placesFrom f i out' = some res
  own : wr.ownsRow (w.heap.size + 1) 3 1 out out'.length (ints out')
  bits : BitsOf M out'
  blk : wr.heap[w.heap.size]? = some (.cells (mets M) 287 (0, 0))
  o : Only [] w wr
  most : f + out'.length ≤ 4100
theorem pl_fin {S : PoolS} {L : PoolL} {res : List Int} {w W2 w3 : World} {f n : Nat} {y : Int} {out' : List Int} {M' : List Nat} {u v2 : Value} {o : Obj} (hp : PoolAt w L S) (ho2 : Only [] w W2) (hob : ∀ g, u.ownBlock = some g → w.heap.size + 1 ≤ g)
    (hown2 : w3.ownsRow (w.heap.size + 1) 3 1 v2 (out'.length + 1) (ints out' ++ [.int .i64 (n : Int)])) (hg2 : (W2.alloc o).drew.grownBy w3 u.ownBlock) (h4 : ∃ old, w3.heap[w.heap.size]? = some (.cells old 287 (0, 0)))
    (hgo : S.placesFrom f y (out' ++ [(n : Int)]) = some res) (hb : BitsOf M' (out' ++ [(n : Int)])) (hm : f + 1 + out'.length ≤ 4100) (hy : S.next[n]? = some y) :
    PlInv S res w f y (out' ++ [(n : Int)]) M' v2 (w3.setRow w.heap.size (mets M')) ∧ (w3.setRow w.heap.size (mets M')).cell? ⟨L.fb, 1, none⟩ = some (sliceOf L.nb S.next.length) ∧
      Calls Tryz.prog 51 #[.pointer (some ⟨L.nb, n, none⟩)] (w3.setRow w.heap.size (mets M')) fun e w' => e = .returned (.int .i64 y) ∧ w3.setRow w.heap.size (mets M') = w' := by
  obtain ⟨old, h4⟩ := h4
  have ho3 : Only [] w w3 := ((ho2.alloc o).drew').grown hg2 (fun k hk => .inl (by have := hob k hk; omega))
  have ho5 : Only [] w (w3.setRow w.heap.size (mets M')) := ⟨ho3.os, ho3.tape, ho3.output, by simpa using ho3.size, fun k hk hn => by
    rw [setRow_other _ _ _ _ (by omega)]
    exact ho3.block k hk hn⟩
  have hp5 := hp.only ho5 (by simp)
  have hown5 : (w3.setRow w.heap.size (mets M')).ownsRow (w.heap.size + 1) 3 1 v2 (out'.length + 1) (ints out' ++ [.int .i64 (n : Int)]) := by
    refine own_only (X := [w.heap.size]) hown2 ⟨rfl, rfl, rfl, by simp, fun k hk hn => setRow_other _ _ _ _ (by simpa using hn)⟩ (fun k hk => ?_)
    have := (hown2.lt k hk).1
    simp
    omega
  refine ⟨⟨hgo, ?_, hb, setRow_heap _ _ _ _ _ _ h4, ho5, ?_⟩, hp5.f.cell rfl, atomLoad L.nb n y _ (hp5.next hy)⟩
  · rw [List.length_append, ints_snoc]
    exact hown5
  · rw [List.length_append]
    simp
    omega
def PlRel (S : PoolS) (res : List Int) (w : World) (k : Nat) (out i : Value) (wr : World) : Prop := ∃ f i' out' M, k = f ∧ i = .int .i64 i' ∧ PlInv S res w f i' out' M out wr
theorem placesFrom_stop {S : PoolS} {f : Nat} {i : Int} {out res : List Int} (h : S.placesFrom (f + 1) i out = some res) (hi : ¬ (1 ≤ i ∧ i < S.next.length)) : res = out := by
  unfold PoolS.placesFrom at h
  rw [if_neg hi] at h
  exact (Option.some.inj h).symm
theorem placesFrom_go {S : PoolS} {f : Nat} {i : Int} {out res : List Int} (h : S.placesFrom (f + 1) i out = some res) (hi : 1 ≤ i ∧ i < S.next.length) : i ∉ out ∧ ∃ y, S.next[i.toNat]? = some y ∧ S.placesFrom f y (out ++ [i]) = some res := by
  unfold PoolS.placesFrom at h
  rw [if_pos hi] at h
  split at h
  · cases h
  · rename_i hno
    simp only [Option.bind_eq_bind, Option.bind_eq_some_iff] at h
    exact ⟨hno, h⟩
theorem pileHead (w : World) (L : PoolL) (S : PoolS) (hp : PoolAt w L S) : Calls Tryz.prog 183 #[ptr L.fb] w fun e w' => e = .returned (.int .i64 S.head) ∧ w = w' := by
  have hl := atomLoad L.fb 0 S.head w (hp.f.cell rfl)
  unfold ptr
  clear hp
  go_enter Tryz.func183, Tryz.ntmps183
  go_wp2_with (go_at_call 51; refine hl.mono ?_; rintro e w' ⟨rfl, rfl⟩)
  go_ret
  exact ⟨rfl, rfl⟩
attribute [-go_sem] loadCellsFrom
attribute [-go_sem] run_eql_struct
set_option maxRecDepth 100000 in
set_option maxHeartbeats 1600000 in
theorem places_any (w : World) (L : PoolL) (S : PoolS) (hp : PoolAt w L S) (res : List Int) (hr : S.places = some res) : Calls Tryz.prog 120 #[ptr L.fb] w (NewInts res w) := by
  have hm := hp.most
  have hlen := hp.len
  have hpa := hp.alloc (.cells z65 287)
  have hhead := pileHead _ L S hpa
  have hidx := fun W => index_any S.head W
  have hstart : PlRel S res w (S.next.length + 1) (.slice none 0 0) (.int .i64 (idxW S.head)) (w.alloc (.cells z65 287)) :=
    ⟨_, _, [], List.replicate 65 0, rfl, rfl, hr, World.ownsRow_nil _ _ 3 1, BitsOf.start, by rw [← z65_eq]; exact heap_alloc_new w _, (Only.refl _ _).alloc _, by rw [hlen]; simp; omega⟩
  have HST := Lib.hid hstart; have HP := Lib.hid hp
  have hpl := hp.lt
  have HLT : Hid (∀ k ∈ L.all, k < w.heap.size) := Lib.hid hpl
  have HM : Hid (S.next.length ≤ 4097) := Lib.hid (by rw [hlen]; exact hm)
  unfold ptr at hhead ⊢
  generalize idxW S.head = i0 at *
  clear hp hpa hstart hr hlen hpl hm
  generalize hf : S.next.length + 1 = fuel at *
  clear hf
  go_enter Tryz.func120, Tryz.ntmps120
  go_wp2_with (first | (refine wpList_alloc_agg rfl 287 rfl z65 zero65 ?_) | (go_at_call 183; refine hhead.mono ?_; rintro e w' ⟨rfl, rfl⟩) | (go_at_call 95; refine (hidx _).mono ?_; rintro e w' ⟨rfl, rfl⟩))
  go_loopg [3, 5] fuel (fun k out i wr => PlRel S res w k out i wr)
  case atStart => exact HST.out
  case round =>
    obtain ⟨f, i, out', M, rfl, rfl, hinv⟩ := hrel
    cases gk with
    | zero =>
      have := hinv.run
      unfold PoolS.placesFrom at this
      cases this
    | succ f =>
      have hpr := HP.out.only hinv.o (by simp)
      have HI := Lib.hid hinv
      by_cases hi : 1 ≤ i ∧ i < S.next.length
      · obtain ⟨hno, y, hy, hgo⟩ := placesFrom_go hinv.run hi
        obtain ⟨n, rfl⟩ := Int.eq_ofNat_of_zero_le (show 0 ≤ i by omega)
        have hm := HM.out
        have hn : n < 4160 := by omega
        have his := pileIs L.fb n S.next.length L.nb wr (hpr.f.cell rfl) (by omega) (by omega) (by omega)
        have hwm := with_met wr M out' hinv.bits n hn
        have hq : ∀ W, (binOp .eql 287 (.agg (mets (metWith M n))) (.agg (mets M))).run Tryz.prog W = .ok (.bool false) W := fun W => by
          rw [eq_met _ _ (hinv.bits.with hn).1 hinv.bits.1]
          simp [hinv.bits.ne hn hno]
        have ld : (loadCellsFrom ⟨w.heap.size, 0, none⟩ 0 65 #[]).run Tryz.prog wr = .ok (mets M) wr := load_block hinv.blk (by rw [mets_size]; exact hinv.bits.1)
        have hb' := hinv.bits.with hn
        have HB' := Lib.hid hb'; have HGO := Lib.hid hgo; have HY := Lib.hid hy; have HPR := Lib.hid hpr; have HLE := Lib.hid hi
        have HMSo : Hid ((mets M).size = 65) := Lib.hid (by rw [mets_size]; exact hinv.bits.1)
        have HMS : Hid ((mets (metWith M n)).size = 65) := Lib.hid (by rw [mets_size]; exact hb'.1)
        unfold ptr at his
        clear hinv hi hno hy hgo hb' hpr
        generalize hMM : metWith M n = M' at *
        clear hMM
        go_wp2_with (first | (go_at_call 184; refine his.mono ?_; rintro e w' ⟨rfl, rfl⟩) | (go_at_call 185; refine hwm.mono ?_; rintro e w1 ⟨rfl, hb1⟩; have HB1 := Lib.hid hb1; have hsz : w.heap.size < w1.heap.size := Nat.lt_of_lt_of_le (Array.getElem?_eq_some_iff.1 HI.out.blk).1 hb1.size; have hW := plW_only w1 (mets M'); have h4 : (plW w1 (mets M')).heap[w.heap.size]? = some (.cells (mets M) 287 (0, 0)) := (hW.block _ hsz (by simp)).trans ((hb1.block _ (Array.getElem?_eq_some_iff.1 HI.out.blk).1).trans HI.out.blk); have H4 := Lib.hid h4; have HWW := Lib.hid hW; have ld6 : (loadCellsFrom ⟨w1.heap.size, 0, none⟩ 0 65 #[]).run Tryz.prog (plW w1 (mets M')) = .ok (mets M') (plW w1 (mets M')) := load_block (plW_blk w1 _) HMS.out; have ld4 : (loadCellsFrom ⟨w.heap.size, 0, none⟩ 0 65 #[]).run Tryz.prog (plW w1 (mets M')) = .ok (mets M) (plW w1 (mets M')) := load_block h4 HMSo.out; unfold plW at ld6 ld4; clear hb1 hW h4) | (refine wpList_alloc_agg rfl 287 rfl z65 zero65 ?_) | (refine wpList_store_row rfl 287 (.tmp 6) (.tmp 22) rfl _ _ rfl rfl 287 z65 (heap_alloc_new _ _) (by rw [HMS.out]; exact info287) (by rw [HMS.out]; rfl) (mets_one _) ?_))
        clear ld ld4 ld6
        have hW2 : (w1.alloc (.cells z65 287)).setRow w1.heap.size (mets M') = plW w1 (mets M') := rfl
        have h6 := plW_blk w1 (mets M')
        have h4 := H4.out
        have ho2 : Only [] w (plW w1 (mets M')) := (HI.out.o.trans (.of_below HB1.out)).trans HWW.out
        have hown := own_only (own_below HI.out.own HB1.out) HWW.out (by simp)
        have hob : ∀ g, u3.ownBlock = some g → w.heap.size + 1 ≤ g ∧ g < w1.heap.size := fun g hg => ⟨(HI.out.own.lt g hg).1, Nat.lt_of_lt_of_le (HI.out.own.lt g hg).2 HB1.out.size⟩
        clear H4 HWW
        generalize (w1.alloc (.cells z65 287)).setRow w1.heap.size (mets M') = W2 at *
        rw [← hW2] at h6 h4 ho2 hown
        have ld6 : (loadCellsFrom ⟨w1.heap.size, 0, none⟩ 0 65 #[]).run Tryz.prog W2.drew = .ok (mets M') W2.drew := load_block (w := W2.drew) h6 HMS.out
        have h6a : (W2.alloc (.cells #[.int .i64 (n : Int)] 3)).heap[w1.heap.size]? = some (.cells (mets M') 287 (0, 0)) := (((Below.refl _ _).alloc (Nat.le_refl _) _).block _ (Array.getElem?_eq_some_iff.1 h6).1).trans h6
        have h4a : (W2.alloc (.cells #[.int .i64 (n : Int)] 3)).heap[w.heap.size]? = some (.cells (mets M) 287 (0, 0)) := (((Below.refl _ _).alloc (Nat.le_refl _) _).block _ (Array.getElem?_eq_some_iff.1 h4).1).trans h4
        have ld6a : (loadCellsFrom ⟨w1.heap.size, 0, none⟩ 0 65 #[]).run Tryz.prog (W2.alloc (.cells #[.int .i64 (n : Int)] 3)).drew = .ok (mets M') (W2.alloc (.cells #[.int .i64 (n : Int)] 3)).drew := load_block (w := (W2.alloc (.cells #[.int .i64 (n : Int)] 3)).drew) h6a HMS.out
        have hoa : (W2.alloc (.cells #[.int .i64 (n : Int)] 3)).drew.ownsRow (w.heap.size + 1) 3 1 u3 out'.length (ints out') := hown.alloc _
        have hrw : Row (W2.alloc (.cells #[.int .i64 (n : Int)] 3)).drew (some ⟨W2.heap.size, 0, none⟩) [.int .i64 (n : Int)] := row_new W2 [.int .i64 (n : Int)] 3
        have hba : w.heap.size + 1 ≤ (W2.alloc (.cells #[.int .i64 (n : Int)] 3)).drew.heap.size := by
          have := (Array.getElem?_eq_some_iff.1 h4).1
          show _ ≤ (W2.alloc _).heap.size
          simp
          omega
        have hm1 : out'.length + 1 ≤ maxLen := by have := HI.out.most; unfold maxLen; omega
        have hm2 : (out'.length + 1) * 8 ≤ 140737488355328 := by have := HI.out.most; omega
        have HOA := Lib.hid hoa; have HROW := Lib.hid hrw; have HBA := Lib.hid hba; have HM1 := Lib.hid hm1; have HM2 := Lib.hid hm2; have HO2 := Lib.hid ho2; have HOB := Lib.hid hob; have H4A := Lib.hid h4a; have H6A := Lib.hid h6a
        clear hW2 h6 h4 ho2 hown hob h6a h4a hoa hrw hba hm1 hm2 hq
        have hms := HMS.out
        go_region_law ((refine step_append_is rfl (.tmp 27) (.tmp 29) rfl elemInt rfl HOA.out _ 1 _ [.int .i64 (n : Int)] rfl HROW.out rfl (by simp [Value.oneCell']) HM1.out HM2.out HBA.out (fun e => by cases e) ?_; intro v2 w3 hown2 hg2 hat2; have h43 : w3.heap[w.heap.size]? = some (.cells (mets M) 287 (0, 0)) := (hg2.block _ (Array.getElem?_eq_some_iff.1 H4A.out).1 (fun e => by have := (HOB.out _ e.symm).1; omega)).trans H4A.out; have H43 := Lib.hid h43; have h63 : w3.heap[w1.heap.size]? = some (.cells (mets M') 287 (0, 0)) := (hg2.block _ (Array.getElem?_eq_some_iff.1 H6A.out).1 (fun e => by have := (HOB.out _ e.symm).2; omega)).trans H6A.out; have ld63 : (loadCellsFrom ⟨w1.heap.size, 0, none⟩ 0 65 #[]).run Tryz.prog w3 = .ok (mets M') w3 := load_block h63 HMS.out; have st3 := store_all h43 (HMSo.out.trans HMS.out.symm) (mets_one _); obtain ⟨hf1, hf2, hf3⟩ := pl_fin (M' := M') HP.out HO2.out (fun g hg => (HOB.out g hg).1) hown2 hg2 ⟨_, h43⟩ HGO.out HB'.out (by have := HI.out.most; omega) HY.out; have HF1 := Lib.hid hf1; have HF3 := Lib.hid hf3; unfold sliceOf at hf2; clear hown2 hg2 hat2 h43 h63 hf1 hf3))
        all_goals
          have hnl : (n : Int) < S.next.length := by have := HLE.out; omega
          go_wp2_with (go_at_call 51; refine HF3.out.mono ?_; rintro e w' ⟨rfl, rfl⟩)
          go_roundg f
          case measure => omega
          case rel => exact ⟨f, y, _, _, rfl, rfl, HF1.out⟩
      · have hno := placesFrom_stop hinv.run hi
        have his := pileIsNot L.fb L.nb S.next.length i wr (hpr.f.cell rfl) hi
        have HN := Lib.hid hno
        unfold ptr at his
        clear hinv hi hno hpr
        go_wp2_with (go_at_call 184; refine his.mono ?_; rintro e w' ⟨rfl, rfl⟩)
        go_ret
        rw [HN.out]
        exact ⟨_, rfl, own_base HI.out.own (by omega), HI.out.o⟩
end Go.Proofs.YteeefedoffplmaaGreat
