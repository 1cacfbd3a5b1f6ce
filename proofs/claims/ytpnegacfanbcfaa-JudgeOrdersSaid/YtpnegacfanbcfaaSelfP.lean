/- What the judge holds in memory while it blames; what an event is blamed for by itself. -/
import Derived.Test.YtpnegacfanbcfaaTellP
namespace Go.Proofs.Ytpnegacfanbcfaa
open Go.RowKit Go.Maps

def busyB (l : List Ev) (parts part : Int) : Bool := l.any fun e => isB e parts && writesB e && decide (e.end_ = 0) && decide (e.part = part)
def toldAt (l : List Ev) (starts : List (List (Int × Int))) (p : Nat) : List Tab := told l starts.length (starts.getD p []) p
def valueOf (t : Tab) (key : Int) : Int := (t key).getD 0
def selfA (l : List Ev) (starts : List (List (Int × Int))) (i : Int) (a : Ev) : List Blm :=
  if (decide (((toldAt l starts a.part.toNat).length : Int) < a.number) && !busyB l starts.length a.part) = true then [⟨i, -1, 3⟩] else []
def numOf (a : Ev) : Int := if a.kind = 2 then a.number - 1 else a.number
def selfC (l : List Ev) (starts : List (List (Int × Int))) (i : Int) (a : Ev) : List Blm :=
  if ((toldAt l starts a.part.toNat).length : Int) < numOf a ∨ a.kind = 5 then []
  else
    let t := (toldAt l starts a.part.toNat).getD (numOf a - 1).toNat tab0
    if ((t a.key).isSome != a.had || valueOf t a.key != a.value) = true then [⟨i, -1, 4⟩] else []
def selfL (l : List Ev) (starts : List (List (Int × Int))) (i : Int) (a : Ev) : List Blm :=
  if isB a starts.length = true then (if a.end_ = 0 ∨ a.kind = 4 then [] else selfA l starts i a ++ selfC l starts i a) else [⟨i, -1, 1⟩]

def rightCells (l : List Ev) (parts : Int) : List Value := l.map fun e => .bool (isB e parts)
def busyCells (l : List Ev) (parts : Nat) : List Value := (List.range parts).map fun (p : Nat) => .bool (busyB l parts (p : Int))

structure VEnv (l : List Ev) (starts : List (List (Int × Int))) (B : Nat) (rv tv bv : Value) (w0 wr : World) : Prop where
  hB : B = w0.heap.size
  b : Below B w0 wr
  r : wr.ownsRow B 4 1 rv l.length (rightCells l starts.length)
  t : ∃ tvs, wr.ownsRow B 100 1 tv starts.length tvs ∧ ∀ (p : Nat) v, tvs[p]? = some v → ∃ bs, Tells wr B v bs (toldAt l starts p)
  z : wr.ownsRow B 4 1 bv starts.length (busyCells l starts.length)

section
variable {l : List Ev} {starts : List (List (Int × Int))} {B H : Nat} {rv tv bv ov : Value} {w0 wr w' : World} {lA : Option Addr} {lc : Nat} {outs : List Blm}
theorem Tells.keeps {v : Value} {bs : List Nat} {acc : List Tab} (h : Tells wr B v bs acc) (hk : Keeps B H wr w') (hH : ∃ cs, wr.heap[H]? = some (.cells cs 98 (0, 0))) : Tells w' B v bs acc := by
  obtain ⟨cs, hx⟩ := hH
  exact ⟨h.len, hk.own h.own (by decide) (fun cs' hc => by rw [hx] at hc; cases hc), fun j b t h1 h2 => ⟨(h.ms j b t h1 h2).1, hk.map (h.ms j b t h1 h2).2 ⟨cs, _, _, hx⟩⟩⟩
theorem VEnv.keeps (h : VEnv l starts B rv tv bv w0 wr) (hk : Keeps B H wr w') (hH : ∃ cs, wr.heap[H]? = some (.cells cs 98 (0, 0))) : VEnv l starts B rv tv bv w0 w' := by
  obtain ⟨cs, hx⟩ := hH
  have n4 : ∀ cs', wr.heap[H]? ≠ some (.cells cs' 4 (0, 0)) := fun cs' hc => by rw [hx] at hc; cases hc
  have n100 : ∀ cs', wr.heap[H]? ≠ some (.cells cs' 100 (0, 0)) := fun cs' hc => by rw [hx] at hc; cases hc
  obtain ⟨tvs, ht, hts⟩ := h.t
  exact ⟨h.hB, h.b.trans hk.b, hk.own h.r (by decide) n4, ⟨tvs, hk.own ht (by decide) n100, fun p v hp => let ⟨bs, hb⟩ := hts p v hp; ⟨bs, hb.keeps hk ⟨cs, hx⟩⟩⟩, hk.own h.z (by decide) n4⟩
theorem VEnv.below (h : VEnv l starts B rv tv bv w0 wr) (hb : Below wr.heap.size wr w') : VEnv l starts B rv tv bv w0 w' := by
  obtain ⟨tvs, ht, hts⟩ := h.t
  exact ⟨h.hB, h.b.trans (hb.mono h.b.size |>.mono (by rw [h.hB]; exact Nat.le_refl _)), own_below h.r hb, ⟨tvs, own_below ht hb, fun p v hp => let ⟨bs, hb'⟩ := hts p v hp; ⟨bs, hb'.below hb⟩⟩, own_below h.z hb⟩
theorem VEnv.right (h : VEnv l starts B rv tv bv w0 wr) : ∃ A c, rv = .slice A l.length c ∧ Row wr A (rightCells l starts.length) := by
  obtain ⟨A, c, h1, h2, _⟩ := row_of_own h.r
  exact ⟨A, c, h1, h2⟩
theorem VEnv.told (h : VEnv l starts B rv tv bv w0 wr) {p : Nat} (hp : p < starts.length) : ∃ A c A1 c1 bs, tv = .slice A starts.length c ∧ (∃ b off, A = some ⟨b, off, none⟩ ∧ wr.cell? ⟨b, off + p, none⟩ = some (.slice A1 (toldAt l starts p).length c1)) ∧
    Tells wr B (.slice A1 (toldAt l starts p).length c1) bs (toldAt l starts p) := by
  obtain ⟨tvs, ht, hts⟩ := h.t
  obtain ⟨A, c, h1, h2, _⟩ := row_of_own ht
  have hl : tvs.length = starts.length := by have := ht.1; omega
  have hv : tvs[p]? = some (tvs[p]'(by omega)) := List.getElem?_eq_getElem _
  obtain ⟨bs, hb⟩ := hts p _ hv
  obtain ⟨A1, c1, g1, g2, _⟩ := row_of_own hb.own
  obtain ⟨b, off, e1, e2⟩ := h2 p _ hv
  rw [g1] at e2 hb
  exact ⟨A, c, A1, c1, bs, h1, ⟨b, off, e1, e2⟩, hb⟩
theorem VEnv.busy (h : VEnv l starts B rv tv bv w0 wr) {p : Nat} (hp : p < starts.length) : ∃ A c, bv = .slice A starts.length c ∧ ∃ b off, A = some ⟨b, off, none⟩ ∧ wr.cell? ⟨b, off + p, none⟩ = some (.bool (busyB l starts.length p)) := by
  obtain ⟨A, c, h1, h2, _⟩ := row_of_own h.z
  obtain ⟨b, off, e1, e2⟩ := h2 p (.bool (busyB l starts.length p)) (by simp [busyCells, hp])
  exact ⟨A, c, h1, b, off, e1, e2⟩
end
def SelfRel (l : List Ev) (B H : Nat) (lA : Option Addr) (lc : Nat) (rv tv bv : Value) (outs : List Blm) (a : Ev) (P : Nat) (w wc : World) : Prop :=
  (∃ ov, HSt l B H lA lc rv tv bv ov outs wc) ∧ Keeps B H w wc ∧ wc.heap[P]? = some (.cells a.arr 52 (0, 0))
end Go.Proofs.Ytpnegacfanbcfaa
