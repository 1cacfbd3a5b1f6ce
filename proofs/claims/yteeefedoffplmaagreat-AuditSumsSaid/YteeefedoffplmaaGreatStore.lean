/- A store in memory: where all its parts lie, and what a step leaves alone. No condition. -/
import Derived.Test.YteeefedoffplmaaGreatFirst
import Derived.Test.YteeefedoffplmaaGreatCollect2
namespace Go.Proofs.YteeefedoffplmaaGreat
open Go.RowKit

/-- where a store lies: all blocks that New made, below base; col tells whose a block is (0: nobody writes it; 1 the pool's, 2 the clock's, 3 the epoch's, 4 + 2 i the chain i's, 5 + 2 i the loading of part i). -/
structure StoreL where
  pool : PoolL
  clock : ClockL
  eb : Nat
  sb : Nat
  ld : Nat
  lt : Nat
  nm : Nat
  ts : Nat
  base : Nat
  n : Nat
  chain : Nat → ChainL
  lp : Nat → Nat
  pt : Nat → Nat
  pg : Nat → Nat
  col : Nat → Nat
def StoreL.is (Y : StoreL) (k c : Nat) : Prop := k < Y.base ∧ Y.col k = c
structure StoreL.Ok (Y : StoreL) : Prop where
  pool : ∀ k ∈ Y.pool.all, Y.is k 1
  cb : Y.is Y.clock.cb 2
  lb : Y.is Y.clock.lb 2
  eb : Y.is Y.eb 3
  xb : ∀ i, i < Y.n → Y.is (Y.chain i).xb (4 + 2 * i)
  sets : ∀ i, i < Y.n → Y.is (Y.chain i).sb (4 + 2 * i)
  lp : ∀ i, i < Y.n → Y.is (Y.lp i) (5 + 2 * i)
  sb : Y.is Y.sb 0
  ld : Y.is Y.ld 0
  lt : Y.is Y.lt 0
  ts : Y.is Y.ts 0
  pt : ∀ i, i < Y.n → Y.is (Y.pt i) 0
  pg : ∀ i, i < Y.n → Y.is (Y.pg i) 0
  n : 1 ≤ Y.n ∧ Y.n ≤ 64
/-- a row that nobody writes. -/
def FRow (w : World) (Y : StoreL) (A : Option Addr) (xs : List Value) : Prop :=
  ∀ j u, xs[j]? = some u → ∃ b, A = some ⟨b, 0, none⟩ ∧ Y.is b 0 ∧ w.cell? ⟨b, j, none⟩ = some u
/-- nobody writes it. -/
structure Fixed (w : World) (Y : StoreL) : Prop where
  sb : ∃ A c, Blk w Y.sb [ptr Y.pool.pb, ptr Y.clock.cb, ptr Y.eb, ptr Y.ld, ptr Y.nm, ptr Y.ts, .slice A Y.n c] 94 ∧ FRow w Y A ((List.range Y.n).map fun i => ptr (Y.pt i))
  ld : ∃ A c, Blk w Y.ld [ptr Y.pool.pb, ptr Y.lt, .slice A Y.n c] 194 ∧ FRow w Y A ((List.range Y.n).map fun i => ptr (Y.lp i))
  lt : Blk w Y.lt [ptr Y.pool.pb] 187
  ts : Blk w Y.ts [ptr Y.pool.pb] 187
  pt : ∀ i, i < Y.n → Blk w (Y.pt i) [ptr (Y.chain i).xb, .int .i64 (i : Int), .int .i64 (Y.n : Int), ptr Y.pool.pb, ptr (Y.pg i), ptr Y.eb, ptr Y.ld] 152
  pg : ∀ i, i < Y.n → Blk w (Y.pg i) [ptr Y.pool.pb] 187
def pairCells (l : List (Int × Int)) : List Value := l.flatMap fun p => [.int .i64 p.1, .int .i64 p.2]
def LPartAt (w : World) (Y : StoreL) (i : Nat) (a : LPartS) : Prop :=
  ∃ A c, Blk w (Y.lp i) [.int .i64 a.state, ptr (Y.chain i).xb, .slice A a.pairs.length c, .int .i64 a.fails] 197 ∧ FRow w Y A (pairCells a.pairs)
structure StoreIn (w : World) (Y : StoreL) (ed : Option Nat) (D : Nat → List Nat) (X : StoreS) : Prop where
  ok : Y.Ok
  fixed : Fixed w Y
  pool : PoolAt w Y.pool X.pool
  clock : ClockAt w Y.clock X.clock
  epoch : EpochAt w Y.eb Y.pool.pb Y.base ed X.epoch
  chain : ∀ i C, X.chains[i]? = some C → ChainAt w (Y.chain i) Y.pool.pb Y.clock.cb Y.base (D i) C
  load : ∀ i a, X.loads[i]? = some a → LPartAt w Y i a
  chains : X.chains.length = Y.n
  loads : X.loads.length = Y.n
  sets : ∀ C ∈ X.chains, C.sets.length = X.pool.slots.length
  slots : 1 ≤ X.pool.slots.length
  apart : ∀ i j, i < Y.n → j < Y.n → i ≠ j → ∀ k ∈ D i, k ∉ D j
  edD : ∀ i, i < Y.n → ∀ k ∈ D i, ed ≠ some k
  edlt : ∀ k, ed = some k → k < w.heap.size
  room : Y.base ≤ w.heap.size
/-- the blocks beyond base that are the store's. -/
def Dyn (Y : StoreL) (ed : Option Nat) (D : Nat → List Nat) (k : Nat) : Prop := ed = some k ∨ ∃ i, i < Y.n ∧ k ∈ D i
/-- what a step of the store's leaves: it turns blocks that are not fixed, and the store's own beyond base. -/
structure Moves (Y : StoreL) (dy dy' : Nat → Prop) (w w' : World) : Prop where
  os : w'.os = w.os
  tape : w'.tape = w.tape
  output : w'.output = w.output
  size : w.heap.size ≤ w'.heap.size
  block : ∀ k, k < w.heap.size → ¬ (k < Y.base ∧ Y.col k ≠ 0) → ¬ dy k → w'.heap[k]? = w.heap[k]?
  dyn : ∀ k, dy' k → dy k ∨ w.heap.size ≤ k
section
variable {Y : StoreL} {dy dy' dy'' : Nat → Prop} {w w' w'' : World} {ed : Option Nat} {D : Nat → List Nat} {X : StoreS} {Z : List Nat}
theorem Moves.refl (Y : StoreL) (dy : Nat → Prop) (w : World) : Moves Y dy dy w w := ⟨rfl, rfl, rfl, Nat.le_refl _, fun _ _ _ _ => rfl, fun _ h => .inl h⟩
theorem Moves.trans (h : Moves Y dy dy' w w') (k : Moves Y dy' dy'' w' w'') : Moves Y dy dy'' w w'' := by
  refine ⟨k.os.trans h.os, k.tape.trans h.tape, k.output.trans h.output, Nat.le_trans h.size k.size, fun i h1 h2 h3 => ?_, fun i hi => ?_⟩
  · rw [k.block i (Nat.lt_of_lt_of_le h1 h.size) h2 (fun e => (h.dyn i e).elim h3 (fun e => by omega))]
    exact h.block i h1 h2 h3
  · rcases k.dyn i hi with e | e
    · exact h.dyn i e
    · exact .inr (Nat.le_trans h.size e)
theorem Moves.of_only (ho : Only Z w w') (hz : ∀ k ∈ Z, (k < Y.base ∧ Y.col k ≠ 0) ∨ dy k) (hd : ∀ k, dy' k → dy k ∨ w.heap.size ≤ k) : Moves Y dy dy' w w' :=
  ⟨ho.os, ho.tape, ho.output, ho.size, fun k h1 h2 h3 => ho.block k h1 (fun e => (hz k e).elim h2 h3), hd⟩
theorem Moves.of_new (ho : Only [] w w') : Moves Y dy dy w w' := .of_only ho (by simp) (fun _ h => .inl h)
theorem Moves.blk {b : Nat} {cs : List Value} {t : TypeId} (hm : Moves Y dy dy' w w') (h : Blk w b cs t) (h1 : ¬ (b < Y.base ∧ Y.col b ≠ 0)) (h2 : ¬ dy b) : Blk w' b cs t := (hm.block b h.lt h1 h2).trans h
/-- a step of a caller's: its own blocks, none of the store's. -/
theorem Fixed.only (h : Fixed w Y) (ho : Only Z w w') (hk : Y.Ok) (hz : ∀ k ∈ Z, ¬ Y.is k 0) : Fixed w' Y := by
  have hs : ∀ A xs, FRow w Y A xs → FRow w' Y A xs := fun A xs hr j u hu => by
    obtain ⟨b, e, hb, hc⟩ := hr j u hu
    exact ⟨b, e, hb, cell_only ho hc (fun e => hz b e hb)⟩
  obtain ⟨A, c, h1, h2⟩ := h.sb
  obtain ⟨A', c', h3, h4⟩ := h.ld
  exact ⟨⟨A, c, h1.only ho (fun e => hz _ e hk.sb), hs _ _ h2⟩, ⟨A', c', h3.only ho (fun e => hz _ e hk.ld), hs _ _ h4⟩, h.lt.only ho (fun e => hz _ e hk.lt), h.ts.only ho (fun e => hz _ e hk.ts),
    fun i hi => (h.pt i hi).only ho (fun e => hz _ e (hk.pt i hi)), fun i hi => (h.pg i hi).only ho (fun e => hz _ e (hk.pg i hi))⟩
theorem LPartAt.only {i : Nat} {a : LPartS} (h : LPartAt w Y i a) (ho : Only Z w w') (h1 : Y.lp i ∉ Z) (hz : ∀ k ∈ Z, ¬ Y.is k 0) : LPartAt w' Y i a := by
  obtain ⟨A, c, h2, h3⟩ := h
  refine ⟨A, c, h2.only ho h1, fun j u hu => ?_⟩
  obtain ⟨b, e, hb, hc⟩ := h3 j u hu
  exact ⟨b, e, hb, cell_only ho hc (fun e => hz b e hb)⟩
theorem StoreIn.dyn_lt (h : StoreIn w Y ed D X) {k : Nat} (hk : Dyn Y ed D k) : Y.base ≤ k ∧ k < w.heap.size := by
  rcases hk with e | ⟨i, hi, e⟩
  · exact ⟨ed_ge h.epoch k e, h.edlt k e⟩
  · obtain ⟨C, hC⟩ : ∃ C, X.chains[i]? = some C := ⟨_, List.getElem?_eq_getElem (by rw [h.chains]; exact hi)⟩
    exact (h.chain i C hC).dlt k e
/-- whatever turns none of the store's blocks. -/
theorem StoreIn.only (h : StoreIn w Y ed D X) (ho : Only Z w w') (hz : ∀ k ∈ Z, Y.base ≤ k ∧ ¬ Dyn Y ed D k) : StoreIn w' Y ed D X := by
  have hk := h.ok
  have hb : ∀ k c, Y.is k c → k ∉ Z := fun k c e m => by have := (hz k m).1; have := e.1; omega
  have hn : ∀ k ∈ Z, ¬ Y.is k 0 := fun k m e => hb k 0 e m
  refine ⟨hk, h.fixed.only ho hk hn, h.pool.only ho (fun k e => hb k 1 (hk.pool k e)), h.clock.only ho (hb _ _ hk.cb) (hb _ _ hk.lb), h.epoch.only ho (hb _ _ hk.eb) (fun k e m => (hz k m).2 (.inl e)), fun i C hC => ?_, fun i a ha => ?_, h.chains, h.loads, h.sets, h.slots, h.apart, h.edD, fun k e => Nat.lt_of_lt_of_le (h.edlt k e) ho.size, Nat.le_trans h.room ho.size⟩
  · have hi : i < Y.n := by rw [← h.chains]; exact (List.getElem?_eq_some_iff.1 hC).1
    exact (h.chain i C hC).only ho (hb _ _ (hk.xb i hi)) (hb _ _ (hk.sets i hi)) (fun k e m => (hz k m).2 (.inr ⟨i, hi, e⟩))
  · have hi : i < Y.n := by rw [← h.loads]; exact (List.getElem?_eq_some_iff.1 ha).1
    exact (h.load i a ha).only ho (hb _ _ (hk.lp i hi)) hn
theorem StoreIn.new (h : StoreIn w Y ed D X) (ho : Only [] w w') : StoreIn w' Y ed D X := h.only ho (by simp)
theorem is_ne {k l c d : Nat} (h : Y.is k c) (h2 : Y.is l d) (hcd : c ≠ d) : k ≠ l := fun e => by subst e; exact hcd (h.2.symm.trans h2.2)
/-- the pool, and it alone. -/
theorem StoreIn.poolStep (h : StoreIn w Y ed D X) {S' : PoolS} (ho : Only Y.pool.blocks w w') (hp : PoolAt w' Y.pool S') (hs : S'.slots.length = X.pool.slots.length) : StoreIn w' Y ed D { X with pool := S' } := by
  have hk := h.ok
  have hb : ∀ k c, Y.is k c → c ≠ 1 → k ∉ Y.pool.blocks := fun k c e hc m => is_ne e (hk.pool k (blocks_all m)) hc rfl
  have hn : ∀ k ∈ Y.pool.blocks, ¬ Y.is k 0 := fun k m e => hb k 0 e (by decide) m
  have hd : ∀ k, Y.base ≤ k → k ∉ Y.pool.blocks := fun k e m => by have := (hk.pool k (blocks_all m)).1; omega
  refine ⟨hk, h.fixed.only ho hk hn, hp, h.clock.only ho (hb _ _ hk.cb (by decide)) (hb _ _ hk.lb (by decide)), h.epoch.only ho (hb _ _ hk.eb (by decide)) (fun k e => hd k (ed_ge h.epoch k e)), fun i C hC => ?_, fun i a ha => ?_, h.chains, h.loads, fun C hC => (h.sets C hC).trans hs.symm, by simpa [hs] using h.slots, h.apart, h.edD, fun k e => Nat.lt_of_lt_of_le (h.edlt k e) ho.size, Nat.le_trans h.room ho.size⟩
  · have hi : i < Y.n := by rw [← h.chains]; exact (List.getElem?_eq_some_iff.1 hC).1
    exact (h.chain i C hC).only ho (hb _ _ (hk.xb i hi) (by omega)) (hb _ _ (hk.sets i hi) (by omega)) (fun k e => hd k ((h.chain i C hC).dlt k e).1)
  · have hi : i < Y.n := by rw [← h.loads]; exact (List.getElem?_eq_some_iff.1 ha).1
    exact (h.load i a ha).only ho (hb _ _ (hk.lp i hi) (by omega)) hn
theorem StoreIn.poolMoves (h : StoreIn w Y ed D X) (ho : Only Y.pool.blocks w w') : Moves Y (Dyn Y ed D) (Dyn Y ed D) w w' :=
  .of_only ho (fun k m => by have := h.ok.pool k (blocks_all m); exact .inl ⟨this.1, by rw [this.2]; decide⟩) (fun _ h => .inl h)
/-- the epoch, and it alone. -/
theorem StoreIn.epochStep (h : StoreIn w Y ed D X) {E' : EpochS} {ed' : Option Nat} (ho : Only (Y.eb :: ed.toList) w w') (he : EpochAt w' Y.eb Y.pool.pb Y.base ed' E') (hed : ed' = ed ∨ ∃ g, ed' = some g ∧ w.heap.size ≤ g) (hlt : ∀ k, ed' = some k → k < w'.heap.size) : StoreIn w' Y ed' D { X with epoch := E' } := by
  have hk := h.ok
  have hd : ∀ k, Y.base ≤ k → ed ≠ some k → k ∉ Y.eb :: ed.toList := fun k e h1 m => by
    have := hk.eb.1
    simp at m
    rcases m with rfl | m
    · omega
    · exact h1 m
  have hb : ∀ k c, Y.is k c → c ≠ 3 → k ∉ Y.eb :: ed.toList := fun k c e hc m => by
    simp at m
    rcases m with m | m
    · exact is_ne e hk.eb hc m
    · have := ed_ge h.epoch k m
      have := e.1
      omega
  have hn : ∀ k ∈ Y.eb :: ed.toList, ¬ Y.is k 0 := fun k m e => hb k 0 e (by decide) m
  refine ⟨hk, h.fixed.only ho hk hn, h.pool.only ho (fun k e => hb k 1 (hk.pool k e) (by decide)), h.clock.only ho (hb _ _ hk.cb (by decide)) (hb _ _ hk.lb (by decide)), he, fun i C hC => ?_, fun i a ha => ?_, h.chains, h.loads, h.sets, h.slots, h.apart, fun i hi k m e => ?_, hlt, Nat.le_trans h.room ho.size⟩
  · have hi : i < Y.n := by rw [← h.chains]; exact (List.getElem?_eq_some_iff.1 hC).1
    exact (h.chain i C hC).only ho (hb _ _ (hk.xb i hi) (by omega)) (hb _ _ (hk.sets i hi) (by omega)) (fun k e => hd k ((h.chain i C hC).dlt k e).1 (h.edD i hi k e))
  · have hi : i < Y.n := by rw [← h.loads]; exact (List.getElem?_eq_some_iff.1 ha).1
    exact (h.load i a ha).only ho (hb _ _ (hk.lp i hi) (by omega)) hn
  · rcases hed with rfl | ⟨g, rfl, hg⟩
    · exact h.edD i hi k m e
    · injection e with e
      have := (h.dyn_lt (.inr ⟨i, hi, m⟩)).2
      omega
theorem StoreIn.epochMoves (h : StoreIn w Y ed D X) {ed' : Option Nat} (ho : Only (Y.eb :: ed.toList) w w') (hed : ed' = ed ∨ ∃ g, ed' = some g ∧ w.heap.size ≤ g) : Moves Y (Dyn Y ed D) (Dyn Y ed' D) w w' :=
  .of_only ho (fun k m => by
    simp at m
    rcases m with rfl | m
    · exact .inl ⟨h.ok.eb.1, by rw [h.ok.eb.2]; decide⟩
    · exact .inr (.inl m)) (fun k e => by
    rcases e with e | e
    · rcases hed with rfl | ⟨g, rfl, hg⟩
      · exact .inl (.inl e)
      · injection e with e
        subst e
        exact .inr hg
    · exact .inl (.inr e))
/-- chain i and the pool. -/
theorem StoreIn.chainStep (h : StoreIn w Y ed D X) {i : Nat} {C' : ChainS} {D' : List Nat} {S' : PoolS} (hi : i < Y.n) (ho : Only (chX (Y.chain i) Y.pool) w w') (hp : PoolAt w' Y.pool S') (hc : ChainAt w' (Y.chain i) Y.pool.pb Y.clock.cb Y.base D' C')
    (hd : ∀ k ∈ D', k ∈ D i ∨ w.heap.size ≤ k) (hs : S'.slots.length = X.pool.slots.length) (hsl : C'.sets.length = X.pool.slots.length) : StoreIn w' Y ed (fun j => if j = i then D' else D j) { X with pool := S', chains := X.chains.set i C' } := by
  have hk := h.ok
  have hm : ∀ k ∈ chX (Y.chain i) Y.pool, Y.is k 1 ∨ Y.is k (4 + 2 * i) := fun k m => by
    simp only [chX, List.mem_cons] at m
    rcases m with rfl | rfl | m
    · exact .inr (hk.xb i hi)
    · exact .inr (hk.sets i hi)
    · exact .inl (hk.pool k (blocks_all m))
  have hb : ∀ k c, Y.is k c → c ≠ 1 → c ≠ 4 + 2 * i → k ∉ chX (Y.chain i) Y.pool := fun k c e h1 h2 m => by
    rcases hm k m with e2 | e2
    · exact is_ne e e2 h1 rfl
    · exact is_ne e e2 h2 rfl
  have hlow : ∀ k, Y.base ≤ k → k ∉ chX (Y.chain i) Y.pool := fun k e m => by
    rcases hm k m with e2 | e2
    all_goals
      have := e2.1
      omega
  have hn : ∀ k ∈ chX (Y.chain i) Y.pool, ¬ Y.is k 0 := fun k m e => hb k 0 e (by decide) (by omega) m
  refine ⟨hk, h.fixed.only ho hk hn, hp, h.clock.only ho (hb _ _ hk.cb (by decide) (by omega)) (hb _ _ hk.lb (by decide) (by omega)), h.epoch.only ho (hb _ _ hk.eb (by decide) (by omega)) (fun k e => hlow k (ed_ge h.epoch k e)), fun j C hC => ?_, fun j a ha => ?_, by simpa using h.chains, h.loads, fun C hC => ?_, by simpa [hs] using h.slots, fun a b ha hb2 hab k => ?_, fun j hj k => ?_, fun k e => Nat.lt_of_lt_of_le (h.edlt k e) ho.size, Nat.le_trans h.room ho.size⟩
  · simp only [List.getElem?_set] at hC
    by_cases hij : i = j
    · subst hij
      have hlt : i < X.chains.length := by rw [h.chains]; exact hi
      rw [if_pos rfl, if_pos hlt] at hC
      injection hC with hC
      subst hC
      simpa using hc
    · rw [if_neg hij] at hC
      have hj : j < Y.n := by rw [← h.chains]; exact (List.getElem?_eq_some_iff.1 hC).1
      rw [if_neg (fun e => hij e.symm)]
      exact (h.chain j C hC).only ho (hb _ _ (hk.xb j hj) (by omega) (by omega)) (hb _ _ (hk.sets j hj) (by omega) (by omega)) (fun k e => hlow k ((h.chain j C hC).dlt k e).1)
  · have hj : j < Y.n := by rw [← h.loads]; exact (List.getElem?_eq_some_iff.1 ha).1
    exact (h.load j a ha).only ho (hb _ _ (hk.lp j hj) (by omega) (by omega)) hn
  · rcases List.mem_or_eq_of_mem_set hC with hC | rfl
    · exact (h.sets C hC).trans hs.symm
    · exact hsl.trans hs.symm
  · by_cases h1 : a = i
    · have h2 : ¬ b = i := fun e => hab (h1.trans e.symm)
      rw [if_pos h1, if_neg h2]
      intro hk1 hk2
      rcases hd k hk1 with e | e
      · exact h.apart i b hi hb2 (fun e => h2 e.symm) k e hk2
      · have := (h.dyn_lt (.inr ⟨b, hb2, hk2⟩)).2
        omega
    · rw [if_neg h1]
      by_cases h2 : b = i
      · rw [if_pos h2]
        intro hk1 hk2
        rcases hd k hk2 with e | e
        · exact h.apart a i ha hi h1 k hk1 e
        · have := (h.dyn_lt (.inr ⟨a, ha, hk1⟩)).2
          omega
      · rw [if_neg h2]
        exact h.apart a b ha hb2 hab k
  · by_cases h1 : j = i
    · rw [if_pos h1]
      intro hk1 e
      rcases hd k hk1 with e2 | e2
      · exact h.edD i hi k e2 e
      · have := h.edlt k e
        omega
    · rw [if_neg h1]
      exact h.edD j hj k
theorem StoreIn.chainMoves (h : StoreIn w Y ed D X) {i : Nat} {D' : List Nat} (hi : i < Y.n) (ho : Only (chX (Y.chain i) Y.pool) w w') (hd : ∀ k ∈ D', k ∈ D i ∨ w.heap.size ≤ k) : Moves Y (Dyn Y ed D) (Dyn Y ed (fun j => if j = i then D' else D j)) w w' :=
  .of_only ho (fun k m => by
    simp only [chX, List.mem_cons] at m
    rcases m with rfl | rfl | m
    · exact .inl ⟨(h.ok.xb i hi).1, by rw [(h.ok.xb i hi).2]; omega⟩
    · exact .inl ⟨(h.ok.sets i hi).1, by rw [(h.ok.sets i hi).2]; omega⟩
    · have := h.ok.pool k (blocks_all m)
      exact .inl ⟨this.1, by rw [this.2]; decide⟩) (fun k e => by
    rcases e with e | ⟨j, hj, e⟩
    · exact .inl (.inl e)
    · replace e : k ∈ (if j = i then D' else D j) := e
      by_cases h1 : j = i
      · rw [if_pos h1] at e
        rcases hd k e with e | e
        · exact .inl (.inr ⟨i, hi, e⟩)
        · exact .inr e
      · rw [if_neg h1] at e
        exact .inl (.inr ⟨j, hj, e⟩))
theorem StoreIn.far (h : StoreIn w Y ed D X) {i : Nat} (hi : i < Y.n) : Far (Y.chain i) Y.pool Y.base :=
  ⟨fun e => is_ne (h.ok.xb i hi) (h.ok.pool _ e) (by omega) rfl, fun e => is_ne (h.ok.sets i hi) (h.ok.pool _ e) (by omega) rfl, fun k e => (h.ok.pool k e).1⟩
/-- the state of a part's loading. -/
theorem StoreIn.loadStep (h : StoreIn w Y ed D X) {i : Nat} {a : LPartS} (ha : X.loads[i]? = some a) (s : Int) : StoreIn (w.setCell ⟨Y.lp i, 0, none⟩ (.int .i64 s)) Y ed D { X with loads := X.loads.set i { a with state := s } } ∧ Moves Y (Dyn Y ed D) (Dyn Y ed D) w (w.setCell ⟨Y.lp i, 0, none⟩ (.int .i64 s)) := by
  have hk := h.ok
  have hi : i < Y.n := by rw [← h.loads]; exact (List.getElem?_eq_some_iff.1 ha).1
  have hil : i < X.loads.length := (List.getElem?_eq_some_iff.1 ha).1
  have ho : Only [Y.lp i] w (w.setCell ⟨Y.lp i, 0, none⟩ (.int .i64 s)) := (Only.refl _ _).setCell (.inl (by simp)) _
  have hb : ∀ k c, Y.is k c → c ≠ 5 + 2 * i → k ∉ [Y.lp i] := fun k c e hc m => by
    simp at m
    exact is_ne e (hk.lp i hi) hc m
  have hlow : ∀ k, Y.base ≤ k → k ∉ [Y.lp i] := fun k e m => by
    simp at m
    have := (hk.lp i hi).1
    omega
  have hn : ∀ k ∈ [Y.lp i], ¬ Y.is k 0 := fun k m e => hb k 0 e (by omega) m
  refine ⟨⟨hk, h.fixed.only ho hk hn, h.pool.only ho (fun k e => hb k 1 (hk.pool k e) (by omega)), h.clock.only ho (hb _ _ hk.cb (by omega)) (hb _ _ hk.lb (by omega)), h.epoch.only ho (hb _ _ hk.eb (by omega)) (fun k e => hlow k (ed_ge h.epoch k e)), fun j C hC => ?_, fun j b hb2 => ?_, h.chains, by simpa using h.loads, h.sets, h.slots, h.apart, h.edD, fun k e => Nat.lt_of_lt_of_le (h.edlt k e) ho.size, Nat.le_trans h.room ho.size⟩, .of_only ho (fun k m => by
    simp at m
    subst m
    exact .inl ⟨(hk.lp i hi).1, by rw [(hk.lp i hi).2]; omega⟩) (fun _ h => .inl h)⟩
  · have hj : j < Y.n := by rw [← h.chains]; exact (List.getElem?_eq_some_iff.1 hC).1
    exact (h.chain j C hC).only ho (hb _ _ (hk.xb j hj) (by omega)) (hb _ _ (hk.sets j hj) (by omega)) (fun k e => hlow k ((h.chain j C hC).dlt k e).1)
  · simp only [List.getElem?_set] at hb2
    by_cases hij : i = j
    · subst hij
      rw [if_pos rfl, if_pos hil] at hb2
      injection hb2 with hb2
      subst hb2
      obtain ⟨A, c, h1, h2⟩ := h.load i a ha
      refine ⟨A, c, h1.set 0 _, fun j u hu => ?_⟩
      obtain ⟨b, e, hbb, hc⟩ := h2 j u hu
      exact ⟨b, e, hbb, cell_only ho hc (fun e => hn b e hbb)⟩
    · rw [if_neg hij] at hb2
      have hj : j < Y.n := by rw [← h.loads]; exact (List.getElem?_eq_some_iff.1 hb2).1
      exact (h.load j b hb2).only ho (hb _ _ (hk.lp j hj) (by omega)) hn
end
end Go.Proofs.YteeefedoffplmaaGreat
