/- (*history).self: the walk. -/
import Derived.Test.YtpnegacfanbcfaaSelfP
import Derived.Deep.DeepCutAuto
namespace Go.Proofs.Ytpnegacfanbcfaa
open Go.RowKit Go.Maps

def SelfPost (l : List Ev) (B H : Nat) (lA : Option Addr) (lc : Nat) (rv tv bv : Value) (outs : List Blm) (w : World) (e : Ending) (w' : World) : Prop :=
  e = .returned (.tuple #[]) ∧ Keeps B H w w' ∧ ∃ ov, HSt l B H lA lc rv tv bv ov outs w'

attribute [-go_sem] loadCellsFrom
set_option maxRecDepth 100000 in
set_option maxHeartbeats 1000000 in
/-- an event that is not right. -/
theorem selfNot (l : List Ev) (starts : List (List (Int × Int))) (B H : Nat) (lA : Option Addr) (lc : Nat) (rv tv bv ov : Value) (outs : List Blm) (i : Nat) (a : Ev) (w0 w : World) (hh : HSt l B H lA lc rv tv bv ov outs w) (hv : VEnv l starts B rv tv bv w0 w) (hn : outs.length ≤ 2000000)
    (hrow : Row w lA (evCells l)) (ha : l[i]? = some a) (_hl : l.length ≤ 1024) (hr : isB a starts.length = false) :
    Calls Try.prog 41 #[.pointer (some ⟨H, 0, none⟩), .int .i64 (i : Int)] w (SelfPost l B H lA lc rv tv bv (outs ++ selfL l starts i a) w) := by
  have hil : i < l.length := (List.getElem?_eq_some_iff.1 ha).1
  obtain ⟨b0, off, hA, hld⟩ := load_ev hrow ha
  obtain ⟨rA, rc, hrv, hrr⟩ := hv.right
  obtain ⟨r0, roff, hrA, hrc⟩ := hrr i (.bool (isB a starts.length)) (by simp [rightCells, ha])
  rw [hr] at hrc
  subst hA
  subst hrA
  have hb1 : Below w.heap.size w (w.alloc (.cells a.arr 52)) := (Below.refl _ _).alloc (Nat.le_refl _) _
  have hst1 := hh.below hb1
  have c0 : w.cell? ⟨H, 0, none⟩ = some (.slice (some ⟨b0, off, none⟩) l.length lc) := cell_of_row _ _ _ _ _ _ hh.x
  have c1 : (w.alloc (.cells a.arr 52)).cell? ⟨H, 1, none⟩ = some (.slice (some ⟨r0, roff, none⟩) l.length rc) := by rw [← hrv]; exact cell_of_row _ _ _ _ _ _ hst1.x
  have c2 : (w.alloc (.cells a.arr 52)).cell? ⟨r0, roff + i, none⟩ = some (.bool false) := cell_below hb1 _ _ hrc
  have HE : Hid (selfL l starts i a = [⟨i, -1, 1⟩]) := by simp [Hid, selfL, hr]
  have hBw := Nat.le_trans hh.hB (Nat.le_of_lt hh.lt)
  have HB1 := Lib.hid hb1; have HST1 := Lib.hid hst1; have HN := Lib.hid hn
  unfold Ev.arr at c1 c2 hld
  clear hh hv hn hrow ha hr hrv hrr hrc hb1 hst1
  go_enter Try.func41, Try.ntmps41
  go_wp2_with (go_at_call 68; refine (judgeBlame l B H _ lc rv tv bv ov outs i (-1) 1 _ HST1.out (by have := HN.out; omega)).mono ?_; rintro e1 w1 ⟨rfl, hk1, hst1⟩; have HK1 := Lib.hid hk1; have HST2 := Lib.hid hst1; clear hk1 hst1)
  go_end0
  rw [HE.out]
  exact ⟨rfl, (Keeps.of_below HB1.out hBw).trans HK1.out, HST2.out⟩

set_option maxRecDepth 100000 in
set_option maxHeartbeats 1000000 in
/-- an event that has not ended, or a snapshot. -/
theorem selfSkip (l : List Ev) (starts : List (List (Int × Int))) (B H : Nat) (lA : Option Addr) (lc : Nat) (rv tv bv ov : Value) (outs : List Blm) (i : Nat) (a : Ev) (w0 w : World) (hh : HSt l B H lA lc rv tv bv ov outs w) (hv : VEnv l starts B rv tv bv w0 w)
    (hrow : Row w lA (evCells l)) (ha : l[i]? = some a) (_hl : l.length ≤ 1024) (hr : isB a starts.length = true) (hs : a.end_ = 0 ∨ a.kind = 4) :
    Calls Try.prog 41 #[.pointer (some ⟨H, 0, none⟩), .int .i64 (i : Int)] w (SelfPost l B H lA lc rv tv bv (outs ++ selfL l starts i a) w) := by
  have hil : i < l.length := (List.getElem?_eq_some_iff.1 ha).1
  obtain ⟨b0, off, hA, hld⟩ := load_ev hrow ha
  obtain ⟨rA, rc, hrv, hrr⟩ := hv.right
  obtain ⟨r0, roff, hrA, hrc⟩ := hrr i (.bool (isB a starts.length)) (by simp [rightCells, ha])
  rw [hr] at hrc
  subst hA
  subst hrA
  have hb1 : Below w.heap.size w (w.alloc (.cells a.arr 52)) := (Below.refl _ _).alloc (Nat.le_refl _) _
  have hst1 := hh.below hb1
  have c0 : w.cell? ⟨H, 0, none⟩ = some (.slice (some ⟨b0, off, none⟩) l.length lc) := cell_of_row _ _ _ _ _ _ hh.x
  have c1 : (w.alloc (.cells a.arr 52)).cell? ⟨H, 1, none⟩ = some (.slice (some ⟨r0, roff, none⟩) l.length rc) := by rw [← hrv]; exact cell_of_row _ _ _ _ _ _ hst1.x
  have c2 : (w.alloc (.cells a.arr 52)).cell? ⟨r0, roff + i, none⟩ = some (.bool true) := cell_below hb1 _ _ hrc
  have HE : Hid (selfL l starts i a = []) := by simp [Hid, selfL, hr, hs]
  have hBw := Nat.le_trans hh.hB (Nat.le_of_lt hh.lt)
  have HB1 := Lib.hid hb1; have HST1 := Lib.hid hst1
  unfold Ev.arr at c1 c2 hld
  clear hh hv hrow ha hr hrv hrr hrc hb1 hst1
  by_cases h0 : (a.end_ == 0) = true
  · clear hs
    go_enter Try.func41, Try.ntmps41
    go_wp2_with fail
    go_end0
    rw [HE.out, List.append_nil]
    exact ⟨rfl, Keeps.of_below HB1.out hBw, ov, HST1.out⟩
  · have h4 : (a.kind == 4) = true := by
      rcases hs with hs | hs
      · exact absurd (by simpa using hs) h0
      · simpa using hs
    have h0' : (a.end_ == 0) = false := by simpa using h0
    clear hs h0
    go_enter Try.func41, Try.ntmps41
    go_wp2_with fail
    go_end0
    rw [HE.out, List.append_nil]
    exact ⟨rfl, Keeps.of_below HB1.out hBw, ov, HST1.out⟩
end Go.Proofs.Ytpnegacfanbcfaa
