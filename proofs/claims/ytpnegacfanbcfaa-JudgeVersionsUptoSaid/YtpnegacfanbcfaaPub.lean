/- A part's published events by number: a map whose values are rows of the call's own. -/
import Derived.Test.YtpnegacfanbcfaaWr
import Derived.Deep.RegionLaw
import Derived.Deep.DeepCutAuto
namespace Go.Proofs.Ytpnegacfanbcfaa
open Go.RowKit Go.Maps

def pubB (parts part : Int) (e : Ev) : Bool := isB e parts && writesB e && decide (e.part = part) && !decide (e.end_ = 0)
def pubF (l : List Ev) (parts part : Int) (n : Int) : List Ev := l.filter fun e => pubB parts part e && decide (e.number = n)
def nilV : Value := .slice none 0 0
/-- each key's value is a row of the call's own that holds its events; no two share a block. -/
structure Fam (w : World) (B : Nat) (f : Int → Option Value) (F : Int → List Ev) : Prop where
  own : ∀ n, w.ownsRow B 52 13 ((f n).getD nilV) (F n).length (evCells (F n))
  apart : ∀ n m g, n ≠ m → ((f n).getD nilV).ownBlock = some g → ((f m).getD nilV).ownBlock ≠ some g
theorem evCells_length (l : List Ev) : (evCells l).length = l.length * 13 := by
  unfold evCells
  induction l with
  | nil => rfl
  | cons d l ih => rw [List.flatMap_cons, List.length_append, ih, List.length_cons, Ev.cells_length]; omega
theorem evCells_snoc (l : List Ev) (e : Ev) : evCells (l ++ [e]) = evCells l ++ e.cells := by simp [evCells]
theorem elemEv : ElemOk Try.prog 39 52 13 136 := elemOk_of (by kernel_rfl) (by decide) (.agg #[.int .i64 0, .int .i64 0, .int .i64 0, .int .i64 0, .int .i64 0, .int .i64 0, .int .i64 0, .bool false, .int .i64 0, .bool false, .int .i64 0, .slice none 0 0, .slice none 0 0]) (by kernel_rfl) rfl
theorem Fam.start (w : World) (B : Nat) (parts part : Int) : Fam w B (fun _ => none) (pubF [] parts part) := by
  refine ⟨fun n => ?_, fun n m g _ h => ?_⟩
  · exact ⟨rfl, .inl ⟨rfl, rfl⟩⟩
  · simp [nilV, Value.ownBlock] at h
theorem Fam.below {w w' : World} {B : Nat} {f : Int → Option Value} {F : Int → List Ev} (h : Fam w B f F) (hb : Below w.heap.size w w') : Fam w' B f F := ⟨fun n => own_below (h.own n) hb, h.apart⟩
theorem Fam.congr {w : World} {B : Nat} {f : Int → Option Value} {F F' : Int → List Ev} (h : Fam w B f F) (e : ∀ n, F' n = F n) : Fam w B f F' := by
  have : F' = F := funext e
  rw [this]
  exact h
theorem Fam.step {w w2 w3 : World} {B M : Nat} {f : Int → Option Value} {F : Int → List Ev} (h : Fam w B f F) (n : Int) (e : Ev) {v2 : Value}
    (ho2 : w2.ownsRow B 52 13 v2 ((F n).length + 1) (evCells (F n) ++ e.cells)) (hg2 : w.grownBy w2 ((f n).getD nilV).ownBlock) (hat : v2.ownBlock = ((f n).getD nilV).ownBlock ∨ v2.ownBlock = some w.heap.size)
    (hM : ∃ es c, w2.heap[M]? = some (.map es c)) (hg3 : w2.grownBy w3 (some M)) :
    Fam w3 B (fun y => if y = n then some v2 else f y) (fun y => if y = n then F n ++ [e] else F y) := by
  have hlt : ∀ m g, ((f m).getD nilV).ownBlock = some g → g < w.heap.size := fun m g hg => ((h.own m).lt g hg).2
  refine ⟨fun m => ?_, fun m m' g hne hg => ?_⟩
  · by_cases hm : m = n
    · subst hm
      simp only [if_true, Option.getD_some, List.length_append, List.length_cons, List.length_nil, evCells_snoc]
      exact own_grown_map ho2 hM hg3
    · simp only [if_neg hm]
      refine own_grown_map (own_grown (h.own m) hg2 fun g hg e => ?_) hM hg3
      exact h.apart m n g hm hg e
  · by_cases hm : m = n
    · subst hm
      have hm' : m' ≠ m := fun e => hne e.symm
      simp only [if_true, Option.getD_some] at hg
      simp only [if_neg hm']
      rcases hat with hat | hat
      · rw [hat] at hg
        exact h.apart m m' g hne hg
      · rw [hat] at hg
        injection hg with hg
        subst hg
        intro e
        exact absurd (hlt m' _ e) (Nat.lt_irrefl _)
    · simp only [if_neg hm] at hg
      by_cases hm' : m' = n
      · subst hm'
        simp only [if_true, Option.getD_some]
        rcases hat with hat | hat
        · rw [hat]
          exact h.apart m m' g hne hg
        · rw [hat]
          intro e
          injection e with e
          have := hlt m g hg
          omega
      · simp only [if_neg hm']
        exact h.apart m m' g hne hg
theorem pubF_snoc_yes {l : List Ev} {parts part : Int} {e : Ev} (h : pubB parts part e = true) (n : Int) : pubF (l ++ [e]) parts part n = if n = e.number then pubF l parts part e.number ++ [e] else pubF l parts part n := by
  unfold pubF
  rw [List.filter_append]
  by_cases hn : n = e.number
  · subst hn
    simp [h]
  · simp [h, hn, Ne.symm hn]
theorem pubF_snoc_no {l : List Ev} {parts part : Int} {e : Ev} (h : pubB parts part e = false) (n : Int) : pubF (l ++ [e]) parts part n = pubF l parts part n := by
  unfold pubF
  rw [List.filter_append]
  simp [h]
theorem take_snoc' {α : Type} {l : List α} {j : Nat} {e : α} (h : l[j]? = some e) : l.take (j + 1) = l.take j ++ [e] := by
  rw [List.take_add_one, h]
  rfl

structure PubInv (l : List Ev) (parts part : Int) (w : World) (j : Nat) (wr : World) : Prop where
  ex : ∃ f, MapIs Try.prog 3 (Value.int .i64 ·) wr w.heap.size f ∧ Fam wr w.heap.size f (pubF (l.take j) parts part)
  b : Below w.heap.size w wr
def PubRel (l : List Ev) (parts part : Int) (w : World) (k : Nat) (i : Value) (wr : World) : Prop :=
  ∃ j : Nat, j ≤ l.length ∧ i = .int .i64 j ∧ k = l.length - j ∧ PubInv l parts part w j wr
def PubPost (l : List Ev) (parts part : Int) (w : World) (e : Ending) (w' : World) : Prop :=
  e = .returned (.map (some w.heap.size)) ∧ PubInv l parts part w l.length w'
theorem PubInv.no {l : List Ev} {parts part : Int} {w wr w' : World} {j : Nat} {e : Ev} (h : PubInv l parts part w j wr) (hj : l[j]? = some e) (hno : pubB parts part e = false) (hb : Below wr.heap.size wr w') : PubInv l parts part w (j + 1) w' := by
  obtain ⟨⟨f, hm, hf⟩, hbw⟩ := h
  refine ⟨⟨f, hm.below hb, (hf.below hb).congr fun n => ?_⟩, hbw.trans (hb.mono hbw.size)⟩
  rw [take_snoc' hj, pubF_snoc_no hno]
theorem PubInv.yes {l : List Ev} {parts part : Int} {w wr wa w2 w3 : World} {j : Nat} {e : Ev} {f : Int → Option Value} {v2 : Value} (hm3 : MapIs Try.prog 3 (Value.int .i64 ·) w3 w.heap.size (fun y => if y = e.number then some v2 else f y))
    (hf : Fam wa w.heap.size f (pubF (l.take j) parts part)) (hbw : Below w.heap.size w wr) (hba : Below wr.heap.size wr wa) (hj : l[j]? = some e) (hyes : pubB parts part e = true)
    (ho2 : w2.ownsRow w.heap.size 52 13 v2 ((pubF (l.take j) parts part e.number).length + 1) (evCells (pubF (l.take j) parts part e.number) ++ e.cells)) (hg2 : wa.grownBy w2 ((f e.number).getD nilV).ownBlock)
    (hat : v2.ownBlock = ((f e.number).getD nilV).ownBlock ∨ v2.ownBlock = some wa.heap.size) (hM : ∃ es c, w2.heap[w.heap.size]? = some (.map es c)) (hg3 : w2.grownBy w3 (some w.heap.size)) : PubInv l parts part w (j + 1) w3 := by
  refine ⟨⟨_, hm3, (hf.step e.number e ho2 hg2 hat hM hg3).congr fun n => ?_⟩, ?_⟩
  · rw [take_snoc' hj, pubF_snoc_yes hyes]
  · have h1 : Below w.heap.size w wa := hbw.trans (hba.mono hbw.size)
    have h2 : Below w.heap.size w w2 := h1.grown hg2 h1.size fun k hk => ((hf.own e.number).lt k hk).1
    exact h2.grown hg3 h2.size fun k hk => by injection hk with hk; omega
theorem pub_append {wa w2 : World} {M B : Nat} {f : Int → Option Value} {v : Value} {n : Nat} {xs : List Value} (hm : MapIs Try.prog 3 (Value.int .i64 ·) wa M f) (ho : wa.ownsRow B 52 13 v n xs) (hg : wa.grownBy w2 v.ownBlock) (x : Int) (hx : inI64 x) (v2 : Value) :
    ∃ w3, (Instr.mapUpdate 119 (.map (some M)) (.int .i64 x) v2).run Try.prog w2 = .ok () w3 ∧ MapIs Try.prog 3 (Value.int .i64 ·) w3 M (fun y => if y = x then some v2 else f y) ∧ w2.grownBy w3 (some M) ∧ ∃ es c, w2.heap[M]? = some (.map es c) := by
  obtain ⟨es, c, hr⟩ := hm.raw
  have hb : w2.heap[M]? = wa.heap[M]? := hg.block M hm.lt (fun e => own_ne ho (fun cs hc => by rw [hr] at hc; cases hc) e.symm)
  obtain ⟨w3, h1, h2, h3⟩ := (hm.kept hb).run_update keyed3' int_enc_inj Try.underlying119 x (key3' hx) v2
  exact ⟨w3, h1, h2, h3, es, c, hb.trans hr⟩
end Go.Proofs.Ytpnegacfanbcfaa

/- (*history).published: the contract for every part. The events are at most 1024. -/
namespace Go.Proofs.Ytpnegacfanbcfaa
open Go.RowKit Go.Maps

theorem zero39 (w : World) : (zeroValue 39).run Try.prog w = .ok nilV w := by kernel_rfl
attribute [-go_sem] loadCellsFrom
set_option maxRecDepth 100000 in
set_option maxHeartbeats 8000000 in
theorem judgePublished (l : List Ev) (parts part : Int) (H : Nat) (lA rA : Option Addr) (lc rc rn : Nat) (tv bv ov : Value) (w : World) (hl : l.length ≤ 1024) (hx : w.heap[H]? = some (.cells #[.slice lA l.length lc, .slice rA rn rc, tv, bv, ov] 98 (0, 0)))
    (hrow : Row w lA (evCells l)) (hrr : Row w rA (l.map fun e => Value.bool (isB e parts))) (hrn : rn = l.length) (hok : ∀ e ∈ l, e.Ok) :
    Calls Try.prog 66 #[.pointer (some ⟨H, 0, none⟩), .int .i64 part] w (PubPost l parts part w) := by
  have HX := Lib.hid hx; have HROW := Lib.hid hrow; have HRR := Lib.hid hrr; have HOK := Lib.hid hok
  subst hrn
  have c0 : w.cell? ⟨H, 0, none⟩ = some (.slice lA l.length lc) := cell_of_row _ _ _ _ _ _ hx
  have c0' : (w.alloc (.map #[] 0)).cell? ⟨H, 0, none⟩ = some (.slice lA l.length lc) := cell_below ((Below.refl _ _).alloc (Nat.le_refl _) _) _ _ c0
  have hHlt : H < w.heap.size := (Array.getElem?_eq_some_iff.1 hx).1
  clear hx hrow hrr hok
  have hmm := @run_makeMap Try.prog
  go_enter Try.func66, Try.ntmps66
  go_wp2_with fail

  go_loopg [14] l.length (fun k i wr => PubRel l parts part w k i wr)
  case atStart => exact ⟨0, Nat.zero_le _, rfl, rfl, ⟨⟨fun _ => none, MapIs.made, (Fam.start _ _ parts part).congr fun n => by simp [pubF]⟩, (Below.refl _ _).alloc (Nat.le_refl _) _⟩⟩
  case round =>
    obtain ⟨j, hj, rfl, rfl, hinv⟩ := hrel
    have HI := Lib.hid hinv
    clear hinv c0 hmm
    by_cases hlt : j < l.length
    · obtain ⟨e, he⟩ : ∃ e, l[j]? = some e := ⟨_, List.getElem?_eq_getElem hlt⟩
      obtain ⟨b0, off, hA, hld⟩ := load_ev (HROW.out.below HI.out.b) he
      obtain ⟨r0, roff, hrA, hrc⟩ := (HRR.out.below HI.out.b) j (.bool (isB e parts)) (by simp [he])
      have HE := Lib.hid he
      subst hA
      subst hrA
      have hxr := (HI.out.b.block _ hHlt).trans HX.out
      have d1 : (wr.alloc (.cells e.arr 52)).cell? ⟨H, 1, none⟩ = some (.slice (some ⟨r0, roff, none⟩) l.length rc) := cell_below ((Below.refl _ _).alloc (Nat.le_refl _) _) _ _ (cell_of_row _ _ _ _ _ _ hxr)
      have hrc' : (wr.alloc (.cells e.arr 52)).cell? ⟨r0, roff + j, none⟩ = some (.bool (isB e parts)) := cell_below ((Below.refl _ _).alloc (Nat.le_refl _) _) _ _ hrc
      have ldE : (loadCellsFrom ⟨wr.heap.size, 0, none⟩ 0 13 #[]).run Try.prog (wr.alloc (.cells e.arr 52)) = .ok e.arr (wr.alloc (.cells e.arr 52)) := load_block (heap_alloc_new wr _) rfl
      have HAR : Hid (e.arr = _) := rfl
      unfold Ev.arr at hld d1 hrc' ldE
      clear he hxr hrc
      go_wp2_with (go_at_call 39; refine (judgeWritesV e _).mono ?_; rintro e1 w1 ⟨rfl, hb1⟩; have hE1 : w1.heap[wr.heap.size]? = some (.cells e.arr 52 (0, 0)) := (hb1.block _ (by simp)).trans (heap_alloc_new wr _); have n2 : w1.cell? ⟨wr.heap.size, 2, none⟩ = some (.int .i64 e.end_) := cell_of_row _ _ _ _ _ _ hE1; have n4 : w1.cell? ⟨wr.heap.size, 4, none⟩ = some (.int .i64 e.part) := cell_of_row _ _ _ _ _ _ hE1; have hbw : Below wr.heap.size wr w1 := ((Below.refl _ _).alloc (Nat.le_refl _) _).trans (hb1.mono (by simp)); have HB1 := Lib.hid hbw; have HE1 := Lib.hid hE1; clear hb1 hbw hE1)
      · have hyes : pubB parts part e = true := by simp_all [pubB]
        obtain rfl : e.part = part := by assumption
        obtain ⟨⟨f, hm, hf⟩, hbw⟩ := HI.out
        have hm1 := hm.below HB1.out
        have hf1 := hf.below HB1.out
        have n6 : w1.cell? ⟨wr.heap.size, 6, none⟩ = some (.int .i64 e.number) := cell_of_row _ _ _ _ _ _ HE1.out
        have hon := hf1.own e.number
        have hblk : ∀ g, ((f e.number).getD nilV).ownBlock = some g → w.heap.size ≤ g ∧ g < wr.heap.size := fun g hg => (hf.own e.number).lt g hg
        have hin := (HOK.out e (List.mem_of_getElem? HE.out)).number
        have hfn : (pubF (l.take j) parts e.part e.number).length ≤ 1024 := by
          have h1 := List.length_filter_le (fun e' => pubB parts e.part e' && decide (e'.number = e.number)) (l.take j)
          have h2 := List.length_take_le j l
          unfold pubF
          omega
        have hws : w.heap.size ≤ w1.heap.size := Nat.le_trans hbw.size HB1.out.size
        generalize hxs : pubF (l.take j) parts e.part e.number = xs at *
        obtain ⟨vA, vc, hv, _, _⟩ := row_of_own hon
        rw [hv] at hon hblk
        have lk1 : (Instr.lookup 119 (.map (some w.heap.size)) (.int .i64 e.number) false).run Try.prog w1.drew = .ok (.slice vA xs.length vc) w1.drew := by
          have := MapIs.run_lookup (w := w1.drew) hm1 keyed3' int_enc_inj Try.underlying119 (zero39 _) false e.number (key3' hin)
          simpa [hv] using this
        have lk2 : ∀ o, (Instr.lookup 119 (.map (some w.heap.size)) (.int .i64 e.number) false).run Try.prog (w1.alloc o).drew = .ok (.slice vA xs.length vc) (w1.alloc o).drew := fun o => by
          have := MapIs.run_lookup (w := (w1.alloc o).drew) (hm1.below ((Below.refl _ _).alloc (Nat.le_refl _) o).drew) keyed3' int_enc_inj Try.underlying119 (zero39 _) false e.number (key3' hin)
          simpa [hv] using this
        have ldA : (loadCellsFrom ⟨wr.heap.size, 0, none⟩ 0 13 #[]).run Try.prog w1.drew = .ok e.arr w1.drew := load_block (w := w1.drew) HE1.out rfl
        have hma : ∀ o, MapIs Try.prog 3 (Value.int .i64 ·) (w1.alloc o).drew w.heap.size f := fun o => hm1.below ((Below.refl _ _).alloc (Nat.le_refl _) o).drew
        have hoa : ∀ o, (w1.alloc o).drew.ownsRow w.heap.size 52 13 (.slice vA xs.length vc) xs.length (evCells xs) := fun o => hon.alloc o
        have hfa : ∀ o, Fam (w1.alloc o).drew w.heap.size f (pubF (l.take j) parts e.part) := fun o => hf1.below ((Below.refl _ _).alloc (Nat.le_refl _) o).drew
        have hrE : Row (w1.alloc (.cells e.arr 52)).drew (some ⟨w1.heap.size, 0, none⟩) e.cells := row_new w1 e.cells 52
        have hn6a : ∀ o, (w1.alloc o).drew.cell? ⟨wr.heap.size, 6, none⟩ = some (.int .i64 e.number) := fun o => cell_below (w' := (w1.alloc o).drew) ((Below.refl w1.heap.size w1).alloc (Nat.le_refl _) o).drew _ _ n6
        have HM1 := Lib.hid hma; have HOA := Lib.hid hoa; have HFA := Lib.hid hfa; have HV := Lib.hid hv; have HBL := Lib.hid hblk; have HIN := Lib.hid hin; have HY := Lib.hid hyes; have HXS := Lib.hid hxs; have HBW := Lib.hid hbw; have HRE := Lib.hid hrE; have HN6 := Lib.hid hn6a
        unfold Ev.arr at ldA
        clear hm hf hm1 hf1 hma hoa hfa hon hv hblk hin hyes hxs hbw hrE n2 n4
        go_region_law (refine step_append_is rfl (.tmp 47) (.tmp 49) rfl elemEv rfl (base := w.heap.size) (n := xs.length) (xs := evCells xs) (HOA.out _) _ 1 _ e.cells rfl HRE.out rfl (by simp [Ev.cells, Ev.arr, Value.oneCell']) (by unfold maxLen; omega) (by omega) (by show _ ≤ (w1.alloc _).heap.size; simp; omega) (fun h => by cases h) ?_
                       intro v2 w2 ho2 hg2 hat2
                       have hn62 : w2.cell? ⟨wr.heap.size, 6, none⟩ = some (.int .i64 e.number) := hg2.cell (HN6.out _) (fun h => absurd (HBL.out _ h.symm).2 (Nat.lt_irrefl _))
                       obtain ⟨w3, hrun3, hm3, hg3, hM2⟩ := pub_append (HM1.out _) (HOA.out _) hg2 e.number HIN.out v2
                       have HFIN : Hid (PubInv l parts e.part w (j + 1) w3) := PubInv.yes hm3 (HFA.out (.cells e.arr 52)) HBW.out (HB1.out.trans ((Below.refl wr.heap.size w1).alloc HB1.out.size (.cells e.arr 52)).drew) HE.out HY.out (by rw [HXS.out]; exact ho2) (by rw [HV.out]; exact hg2) (by rw [HV.out]; exact hat2) hM2 hg3
                       clear ho2 hg2 hat2 hm3 hg3 hM2)
        all_goals
          go_wp2_with fail
          go_roundg (l.length - (j + 1))
          case measure => omega
          case rel => exact ⟨j + 1, by omega, by go_num, rfl, HFIN.out⟩
      all_goals
        have hno : pubB parts part e = false := by simp_all [pubB]
        have HNO := Lib.hid hno
        clear hno
        go_roundg (l.length - (j + 1))
        case measure => omega
        case rel => exact ⟨j + 1, by omega, by go_num, rfl, HI.out.no HE.out HNO.out (by first | exact HB1.out | exact (Below.refl _ _).alloc (Nat.le_refl _) _)⟩
    · have hjl : j = l.length := by omega
      have HJ := Lib.hid hjl
      clear hjl
      go_wp2_with fail
      go_ret
      exact ⟨rfl, by rw [← HJ.out]; exact HI.out⟩
end Go.Proofs.Ytpnegacfanbcfaa
