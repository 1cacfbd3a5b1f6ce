/- Events: as values, in memory; is an event right? -/
import Derived.Test.YtpnegacfanbcfaaOpen
namespace Go.Proofs.Ytpnegacfanbcfaa
open Go.RowKit Go.Maps

structure Ev where
  worker : Int
  begin_ : Int
  end_ : Int
  kind : Int
  part : Int
  key : Int
  number : Int
  had : Bool
  value : Int
  has : Bool
  new : Int
  nA : Option Addr
  nc : Nat
  nums : List Int
  pA : Option Addr
  pc : Nat
  pairs : List (Int × Int)

def Ev.arr (e : Ev) : Array Value := #[.int .i64 e.worker, .int .i64 e.begin_, .int .i64 e.end_, .int .i64 e.kind, .int .i64 e.part, .int .i64 e.key, .int .i64 e.number, .bool e.had, .int .i64 e.value, .bool e.has, .int .i64 e.new, .slice e.nA e.nums.length e.nc, .slice e.pA e.pairs.length e.pc]
def Ev.val (e : Ev) : Value := .agg e.arr
def Ev.cells (e : Ev) : List Value := e.arr.toList
def evCells (l : List Ev) : List Value := l.flatMap Ev.cells
def intsZ (l : List Int) : List Value := l.map (.int .i64 ·)
def pairCells (l : List (Int × Int)) : List Value := l.flatMap fun p => [.int .i64 p.1, .int .i64 p.2]
/-- what hangs on an event lies in w. -/
structure Ev.In (e : Ev) (w : World) : Prop where
  n : Row w e.nA (intsZ e.nums)
  p : Row w e.pA (pairCells e.pairs)
  nn : e.nA = none → e.nums.length = 0
  pn : e.pA = none → e.pairs.length = 0
theorem Ev.In.below {e : Ev} {w w' : World} (h : e.In w) (hb : Below w.heap.size w w') : e.In w' := ⟨h.n.below hb, h.p.below hb, h.nn, h.pn⟩
structure Ev.Ok (e : Ev) : Prop where
  begin_ : inI64 e.begin_
  end_ : inI64 e.end_
  kind : inI64 e.kind
  part : inI64 e.part
  key : inI64 e.key
  number : inI64 e.number
  value : inI64 e.value
  new : inI64 e.new
  nums : ∀ x ∈ e.nums, inI64 x
  pairs : ∀ p ∈ e.pairs, inI64 p.1 ∧ inI64 p.2

def writesB (e : Ev) : Bool := e.kind == 2 || e.kind == 5
def isB (e : Ev) (parts : Int) : Bool :=
  decide (1 ≤ e.kind) && (decide (e.kind ≤ 5) && (timesB e.begin_ e.end_ && (decide (0 ≤ e.part) && (decide (e.part < parts) && (!(e.kind == 4 && e.part != 0) &&
    (e.end_ == 0 || (if e.kind = 4 then decide ((e.nums.length : Int) = parts) && e.nums.all (fun n => decide (1 ≤ n)) else if writesB e then decide (2 ≤ e.number) else decide (1 ≤ e.number))))))))

theorem judgeWrites (e : Ev) (w : World) : Calls Try.prog 39 #[e.val] w fun r w' => r = .returned (.bool (writesB e)) ∧ Below w.heap.size w w' := by
  simp only [Ev.val, Ev.arr]
  go_enter Try.func39, Try.ntmps39
  go_wp2
  all_goals
    go_ret
    refine ⟨ret_bool ?_, (Below.refl _ _).alloc (Nat.le_refl _) _⟩
    simp_all [writesB]

theorem isClosure (n : Int) (w : World) : Calls Try.prog 65 #[.int .i64 n] w fun r w' => r = .returned (.bool (decide (n < 1))) ∧ w = w' := by
  go_enter Try.func65, Try.ntmps65
  go_wp2
  go_ret
  exact ⟨rfl, rfl⟩

def NxRel (l : List Int) (w : World) (k : Nat) (i : Value) (wr : World) : Prop :=
  ∃ j : Nat, j ≤ l.length ∧ i = .int .i64 j ∧ k = l.length - j ∧ (∀ j' x, j' < j → l[j']? = some x → 1 ≤ x) ∧ w = wr
def NxPost (l : List Int) (w : World) (e : Ending) (w' : World) : Prop :=
  ∃ x : Int, e = .returned (.int .i64 x) ∧ (decide (0 ≤ x) = !l.all fun n => decide (1 ≤ n)) ∧ w = w'
set_option maxRecDepth 20000 in
theorem indexInts (l : List Int) (A : Option Addr) (c : Nat) (w : World) (hl : l.length ≤ 3000) (hr : Row w A (intsZ l)) :
    Calls Try.prog 74 #[.slice A l.length c, .func (.func 65) #[] #[]] w (NxPost l w) := by
  have HR := Lib.hid hr; clear hr
  go_enter Try.func74, Try.ntmps74
  go_wp2_with fail
  go_loopg [8] l.length (fun k i wr => NxRel l w k i wr)
  case atStart => exact ⟨0, Nat.zero_le _, rfl, rfl, fun j' d h => absurd h (Nat.not_lt_zero _), rfl⟩
  case round =>
    obtain ⟨j, hj, rfl, rfl, hno, rfl⟩ := hrel
    have HNO := Lib.hid hno
    clear hno
    by_cases hlt : j < l.length
    · obtain ⟨x, hx⟩ : ∃ x, l[j]? = some x := ⟨_, List.getElem?_eq_getElem hlt⟩
      obtain ⟨b, off, hA, hcell⟩ := HR.out j (.int .i64 x) (by simp [intsZ, hx])
      have HX := Lib.hid hx
      clear hx
      subst hA
      by_cases hc : x < 1
      · go_wp2_with (go_at_call 65; refine (isClosure x _).mono ?_; rintro e1 w1 ⟨rfl, rfl⟩)
        go_ret
        refine ⟨j, rfl, ?_, rfl⟩
        have : (l.all fun n => decide (1 ≤ n)) = false := List.all_eq_false.2 ⟨x, List.mem_of_getElem? HX.out, by simp; omega⟩
        rw [this]
        simp
      · go_wp2_with (go_at_call 65; refine (isClosure x _).mono ?_; rintro e1 w1 ⟨rfl, rfl⟩)
        go_roundg (l.length - (j + 1))
        case measure => omega
        case rel =>
          refine ⟨j + 1, by omega, by go_num, rfl, fun j' x' hj' hx' => ?_, rfl⟩
          rcases Nat.lt_or_ge j' j with h | h
          · exact HNO.out j' x' h hx'
          · obtain rfl : j' = j := by omega
            rw [HX.out] at hx'
            injection hx' with hx'
            omega
    · have hjl : j = l.length := by omega
      have HJ := Lib.hid hjl
      clear hjl
      go_wp2_with fail
      go_ret
      refine ⟨-1, rfl, ?_, rfl⟩
      have : (l.all fun n => decide (1 ≤ n)) = true := by
        rw [List.all_eq_true]
        intro n hn
        obtain ⟨i, hi⟩ := List.getElem?_of_mem hn
        have := HNO.out i n (by have := (List.getElem?_eq_some_iff.1 hi).1; have := HJ.out; omega) hi
        simpa using this
      rw [this]
      rfl
theorem containsInts (l : List Int) (A : Option Addr) (c : Nat) (w : World) (hl : l.length ≤ 3000) (hr : Row w A (intsZ l)) :
    Calls Try.prog 64 #[.slice A l.length c, .func (.func 65) #[] #[]] w fun r w' => r = .returned (.bool (!l.all fun n => decide (1 ≤ n))) ∧ w = w' := by
  have HR := Lib.hid hr; clear hr
  go_enter Try.func64, Try.ntmps64
  go_wp2_with (go_at_call 74; refine (indexInts l A c _ hl HR.out).mono ?_; rintro e1 w1 ⟨x, rfl, hx, rfl⟩; have HX := Lib.hid hx; clear hx)
  go_ret
  exact ⟨ret_bool HX.out, rfl⟩

attribute [-go_sem] loadCellsFrom
set_option maxRecDepth 20000 in
set_option maxHeartbeats 2000000 in
theorem judgeIs (e : Ev) (parts : Int) (w : World) (hp : 0 ≤ parts ∧ parts ≤ 1000) (hl : e.nums.length ≤ 3000) (hi : e.In w) :
    Calls Try.prog 38 #[e.val, .int .i64 parts] w fun r w' => r = .returned (.bool (isB e parts)) ∧ Below w.heap.size w w' := by
  have HI := Lib.hid hi; clear hi
  obtain ⟨hp1, hp2⟩ := hp
  have hld : ∀ w1 : World, Below (w.alloc (.cells e.arr 52)).heap.size (w.alloc (.cells e.arr 52)) w1 → (loadCellsFrom ⟨w.heap.size, 0, none⟩ 0 13 #[]).run Try.prog w1 = .ok e.arr w1 := fun w1 h => load_block ((h.block _ (by simp)).trans (heap_alloc_new w _)) rfl
  have hl0 := hld _ (Below.refl _ _)
  have HRE : Hid (e.arr = _) := rfl
  unfold Ev.arr at hl0
  clear hld
  simp only [Ev.val, Ev.arr]
  go_enter Try.func38, Try.ntmps38
  go_wp2_with (first
    | (go_at_call 24; refine (judgeTimes _ _ _).mono ?_; rintro e1 w1 ⟨rfl, rfl⟩)
    | (go_at_call 64; refine (containsInts e.nums e.nA e.nc _ hl (HI.out.n.alloc _)).mono ?_; rintro e1 w1 ⟨rfl, rfl⟩)
    | (go_at_call 39; refine (judgeWrites e _).mono ?_; rintro e1 w1 ⟨rfl, hb1⟩; have hn6 : w1.cell? ⟨w.heap.size, 6, none⟩ = some (.int .i64 e.number) := cell_below hb1 _ _ (cell_of_row _ _ 6 _ _ _ (heap_alloc_new w _)); have HB1 := Lib.hid hb1; clear hb1))
  all_goals
    go_ret
    refine ⟨ret_bool ?_, ?_⟩
    · go_tidy
      clear hl0 HI HRE
      simp only [isB]
      grind
    · first
        | exact (Below.refl _ _).alloc (Nat.le_refl _) _
        | exact ((Below.refl _ _).alloc (Nat.le_refl _) _).trans (HB1.out.mono (by simp))
end Go.Proofs.Ytpnegacfanbcfaa
