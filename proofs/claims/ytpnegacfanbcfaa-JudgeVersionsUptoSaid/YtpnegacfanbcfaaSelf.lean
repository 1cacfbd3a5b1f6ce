/- What the judge holds in memory while it blames; what an event is blamed for by itself. -/
import Derived.Test.YtpnegacfanbcfaaTell
import Derived.Deep.DeepCutAuto
namespace Go.Proofs.Ytpnegacfanbcfaa
open Go.RowKit Go.Maps

def busyB (l : List Ev) (parts part : Int) : Bool := l.any fun e => isB e parts && writesB e && decide (e.end_ = 0) && decide (e.part = part)
def toldAt (l : List Ev) (starts : List (List (Int × Int))) (p : Nat) : List Tab := told l starts.length (starts.getD p []) p
def valueOf (t : Tab) (key : Int) : Int := (t key).getD 0
def selfA (l : List Ev) (starts : List (List (Int × Int))) (i : Int) (a : Ev) : List Blm :=
  if (decide (((toldAt l starts a.part.toNat).length : Int) < a.number) && !busyB l starts.length a.part) = true then [⟨i, -1, 3⟩] else []
def numOf (a : Ev) : Int := if a.kind = 2 then a.number - 1 else a.number
def selfC (l : List Ev) (starts : List (List (Int × Int))) (i : Int) (a : Ev) : List Blm :=
  if ((toldAt l starts a.part.toNat).length : Int) < numOf a ∨ a.kind = 5 then []
  else
    let t := (toldAt l starts a.part.toNat).getD (numOf a - 1).toNat tab0
    if ((t a.key).isSome != a.had || valueOf t a.key != a.value) = true then [⟨i, -1, 4⟩] else []
def selfL (l : List Ev) (starts : List (List (Int × Int))) (i : Int) (a : Ev) : List Blm :=
  if isB a starts.length = true then (if a.end_ = 0 ∨ a.kind = 4 then [] else selfA l starts i a ++ selfC l starts i a) else [⟨i, -1, 1⟩]

def rightCells (l : List Ev) (parts : Int) : List Value := l.map fun e => .bool (isB e parts)
def busyCells (l : List Ev) (parts : Nat) : List Value := (List.range parts).map fun (p : Nat) => .bool (busyB l parts (p : Int))

structure VEnv (l : List Ev) (starts : List (List (Int × Int))) (B : Nat) (rv tv bv : Value) (w0 wr : World) : Prop where
  hB : B = w0.heap.size
  b : Below B w0 wr
  r : wr.ownsRow B 4 1 rv l.length (rightCells l starts.length)
  t : ∃ tvs, wr.ownsRow B 100 1 tv starts.length tvs ∧ ∀ (p : Nat) v, tvs[p]? = some v → ∃ bs, Tells wr B v bs (toldAt l starts p)
  z : wr.ownsRow B 4 1 bv starts.length (busyCells l starts.length)

section
variable {l : List Ev} {starts : List (List (Int × Int))} {B H : Nat} {rv tv bv ov : Value} {w0 wr w' : World} {lA : Option Addr} {lc : Nat} {outs : List Blm}
theorem Tells.keeps {v : Value} {bs : List Nat} {acc : List Tab} (h : Tells wr B v bs acc) (hk : Keeps B H wr w') (hH : ∃ cs, wr.heap[H]? = some (.cells cs 98 (0, 0))) : Tells w' B v bs acc := by
  obtain ⟨cs, hx⟩ := hH
  exact ⟨h.len, hk.own h.own (by decide) (fun cs' hc => by rw [hx] at hc; cases hc), fun j b t h1 h2 => ⟨(h.ms j b t h1 h2).1, hk.map (h.ms j b t h1 h2).2 ⟨cs, _, _, hx⟩⟩⟩
theorem VEnv.keeps (h : VEnv l starts B rv tv bv w0 wr) (hk : Keeps B H wr w') (hH : ∃ cs, wr.heap[H]? = some (.cells cs 98 (0, 0))) : VEnv l starts B rv tv bv w0 w' := by
  obtain ⟨cs, hx⟩ := hH
  have n4 : ∀ cs', wr.heap[H]? ≠ some (.cells cs' 4 (0, 0)) := fun cs' hc => by rw [hx] at hc; cases hc
  have n100 : ∀ cs', wr.heap[H]? ≠ some (.cells cs' 100 (0, 0)) := fun cs' hc => by rw [hx] at hc; cases hc
  obtain ⟨tvs, ht, hts⟩ := h.t
  exact ⟨h.hB, h.b.trans hk.b, hk.own h.r (by decide) n4, ⟨tvs, hk.own ht (by decide) n100, fun p v hp => let ⟨bs, hb⟩ := hts p v hp; ⟨bs, hb.keeps hk ⟨cs, hx⟩⟩⟩, hk.own h.z (by decide) n4⟩
theorem VEnv.below (h : VEnv l starts B rv tv bv w0 wr) (hb : Below wr.heap.size wr w') : VEnv l starts B rv tv bv w0 w' := by
  obtain ⟨tvs, ht, hts⟩ := h.t
  exact ⟨h.hB, h.b.trans (hb.mono h.b.size |>.mono (by rw [h.hB]; exact Nat.le_refl _)), own_below h.r hb, ⟨tvs, own_below ht hb, fun p v hp => let ⟨bs, hb'⟩ := hts p v hp; ⟨bs, hb'.below hb⟩⟩, own_below h.z hb⟩
theorem VEnv.right (h : VEnv l starts B rv tv bv w0 wr) : ∃ A c, rv = .slice A l.length c ∧ Row wr A (rightCells l starts.length) := by
  obtain ⟨A, c, h1, h2, _⟩ := row_of_own h.r
  exact ⟨A, c, h1, h2⟩
theorem VEnv.told (h : VEnv l starts B rv tv bv w0 wr) {p : Nat} (hp : p < starts.length) : ∃ A c A1 c1 bs, tv = .slice A starts.length c ∧ (∃ b off, A = some ⟨b, off, none⟩ ∧ wr.cell? ⟨b, off + p, none⟩ = some (.slice A1 (toldAt l starts p).length c1)) ∧
    Tells wr B (.slice A1 (toldAt l starts p).length c1) bs (toldAt l starts p) := by
  obtain ⟨tvs, ht, hts⟩ := h.t
  obtain ⟨A, c, h1, h2, _⟩ := row_of_own ht
  have hl : tvs.length = starts.length := by have := ht.1; omega
  have hv : tvs[p]? = some (tvs[p]'(by omega)) := List.getElem?_eq_getElem _
  obtain ⟨bs, hb⟩ := hts p _ hv
  obtain ⟨A1, c1, g1, g2, _⟩ := row_of_own hb.own
  obtain ⟨b, off, e1, e2⟩ := h2 p _ hv
  rw [g1] at e2 hb
  exact ⟨A, c, A1, c1, bs, h1, ⟨b, off, e1, e2⟩, hb⟩
theorem VEnv.busy (h : VEnv l starts B rv tv bv w0 wr) {p : Nat} (hp : p < starts.length) : ∃ A c, bv = .slice A starts.length c ∧ ∃ b off, A = some ⟨b, off, none⟩ ∧ wr.cell? ⟨b, off + p, none⟩ = some (.bool (busyB l starts.length p)) := by
  obtain ⟨A, c, h1, h2, _⟩ := row_of_own h.z
  obtain ⟨b, off, e1, e2⟩ := h2 p (.bool (busyB l starts.length p)) (by simp [busyCells, hp])
  exact ⟨A, c, h1, b, off, e1, e2⟩
end
def SelfRel (l : List Ev) (B H : Nat) (lA : Option Addr) (lc : Nat) (rv tv bv : Value) (outs : List Blm) (a : Ev) (P : Nat) (w wc : World) : Prop :=
  (∃ ov, HSt l B H lA lc rv tv bv ov outs wc) ∧ Keeps B H w wc ∧ wc.heap[P]? = some (.cells a.arr 52 (0, 0))
end Go.Proofs.Ytpnegacfanbcfaa

/- (*history).self: the walk. -/
namespace Go.Proofs.Ytpnegacfanbcfaa
open Go.RowKit Go.Maps

def SelfPost (l : List Ev) (B H : Nat) (lA : Option Addr) (lc : Nat) (rv tv bv : Value) (outs : List Blm) (w : World) (e : Ending) (w' : World) : Prop :=
  e = .returned (.tuple #[]) ∧ Keeps B H w w' ∧ ∃ ov, HSt l B H lA lc rv tv bv ov outs w'

attribute [-go_sem] loadCellsFrom
set_option maxRecDepth 100000 in
set_option maxHeartbeats 1000000 in
/-- an event that is not right. -/
theorem selfNot (l : List Ev) (starts : List (List (Int × Int))) (B H : Nat) (lA : Option Addr) (lc : Nat) (rv tv bv ov : Value) (outs : List Blm) (i : Nat) (a : Ev) (w0 w : World) (hh : HSt l B H lA lc rv tv bv ov outs w) (hv : VEnv l starts B rv tv bv w0 w) (hn : outs.length ≤ 2000000)
    (hrow : Row w lA (evCells l)) (ha : l[i]? = some a) (_hl : l.length ≤ 1024) (hr : isB a starts.length = false) :
    Calls Try.prog 41 #[.pointer (some ⟨H, 0, none⟩), .int .i64 (i : Int)] w (SelfPost l B H lA lc rv tv bv (outs ++ selfL l starts i a) w) := by
  have hil : i < l.length := (List.getElem?_eq_some_iff.1 ha).1
  obtain ⟨b0, off, hA, hld⟩ := load_ev hrow ha
  obtain ⟨rA, rc, hrv, hrr⟩ := hv.right
  obtain ⟨r0, roff, hrA, hrc⟩ := hrr i (.bool (isB a starts.length)) (by simp [rightCells, ha])
  rw [hr] at hrc
  subst hA
  subst hrA
  have hb1 : Below w.heap.size w (w.alloc (.cells a.arr 52)) := (Below.refl _ _).alloc (Nat.le_refl _) _
  have hst1 := hh.below hb1
  have c0 : w.cell? ⟨H, 0, none⟩ = some (.slice (some ⟨b0, off, none⟩) l.length lc) := cell_of_row _ _ _ _ _ _ hh.x
  have c1 : (w.alloc (.cells a.arr 52)).cell? ⟨H, 1, none⟩ = some (.slice (some ⟨r0, roff, none⟩) l.length rc) := by rw [← hrv]; exact cell_of_row _ _ _ _ _ _ hst1.x
  have c2 : (w.alloc (.cells a.arr 52)).cell? ⟨r0, roff + i, none⟩ = some (.bool false) := cell_below hb1 _ _ hrc
  have HE : Hid (selfL l starts i a = [⟨i, -1, 1⟩]) := by simp [Hid, selfL, hr]
  have hBw := Nat.le_trans hh.hB (Nat.le_of_lt hh.lt)
  have HB1 := Lib.hid hb1; have HST1 := Lib.hid hst1; have HN := Lib.hid hn
  unfold Ev.arr at c1 c2 hld
  clear hh hv hn hrow ha hr hrv hrr hrc hb1 hst1
  go_enter Try.func41, Try.ntmps41
  go_wp2_with (go_at_call 68; refine (judgeBlame l B H _ lc rv tv bv ov outs i (-1) 1 _ HST1.out (by have := HN.out; omega)).mono ?_; rintro e1 w1 ⟨rfl, hk1, hst1⟩; have HK1 := Lib.hid hk1; have HST2 := Lib.hid hst1; clear hk1 hst1)
  go_end0
  rw [HE.out]
  exact ⟨rfl, (Keeps.of_below HB1.out hBw).trans HK1.out, HST2.out⟩

set_option maxRecDepth 100000 in
set_option maxHeartbeats 1000000 in
/-- an event that has not ended, or a snapshot. -/
theorem selfSkip (l : List Ev) (starts : List (List (Int × Int))) (B H : Nat) (lA : Option Addr) (lc : Nat) (rv tv bv ov : Value) (outs : List Blm) (i : Nat) (a : Ev) (w0 w : World) (hh : HSt l B H lA lc rv tv bv ov outs w) (hv : VEnv l starts B rv tv bv w0 w)
    (hrow : Row w lA (evCells l)) (ha : l[i]? = some a) (_hl : l.length ≤ 1024) (hr : isB a starts.length = true) (hs : a.end_ = 0 ∨ a.kind = 4) :
    Calls Try.prog 41 #[.pointer (some ⟨H, 0, none⟩), .int .i64 (i : Int)] w (SelfPost l B H lA lc rv tv bv (outs ++ selfL l starts i a) w) := by
  have hil : i < l.length := (List.getElem?_eq_some_iff.1 ha).1
  obtain ⟨b0, off, hA, hld⟩ := load_ev hrow ha
  obtain ⟨rA, rc, hrv, hrr⟩ := hv.right
  obtain ⟨r0, roff, hrA, hrc⟩ := hrr i (.bool (isB a starts.length)) (by simp [rightCells, ha])
  rw [hr] at hrc
  subst hA
  subst hrA
  have hb1 : Below w.heap.size w (w.alloc (.cells a.arr 52)) := (Below.refl _ _).alloc (Nat.le_refl _) _
  have hst1 := hh.below hb1
  have c0 : w.cell? ⟨H, 0, none⟩ = some (.slice (some ⟨b0, off, none⟩) l.length lc) := cell_of_row _ _ _ _ _ _ hh.x
  have c1 : (w.alloc (.cells a.arr 52)).cell? ⟨H, 1, none⟩ = some (.slice (some ⟨r0, roff, none⟩) l.length rc) := by rw [← hrv]; exact cell_of_row _ _ _ _ _ _ hst1.x
  have c2 : (w.alloc (.cells a.arr 52)).cell? ⟨r0, roff + i, none⟩ = some (.bool true) := cell_below hb1 _ _ hrc
  have HE : Hid (selfL l starts i a = []) := by simp [Hid, selfL, hr, hs]
  have hBw := Nat.le_trans hh.hB (Nat.le_of_lt hh.lt)
  have HB1 := Lib.hid hb1; have HST1 := Lib.hid hst1
  unfold Ev.arr at c1 c2 hld
  clear hh hv hrow ha hr hrv hrr hrc hb1 hst1
  by_cases h0 : (a.end_ == 0) = true
  · clear hs
    go_enter Try.func41, Try.ntmps41
    go_wp2_with fail
    go_end0
    rw [HE.out, List.append_nil]
    exact ⟨rfl, Keeps.of_below HB1.out hBw, ov, HST1.out⟩
  · have h4 : (a.kind == 4) = true := by
      rcases hs with hs | hs
      · exact absurd (by simpa using hs) h0
      · simpa using hs
    have h0' : (a.end_ == 0) = false := by simpa using h0
    clear hs h0
    go_enter Try.func41, Try.ntmps41
    go_wp2_with fail
    go_end0
    rw [HE.out, List.append_nil]
    exact ⟨rfl, Keeps.of_below HB1.out hBw, ov, HST1.out⟩
end Go.Proofs.Ytpnegacfanbcfaa
