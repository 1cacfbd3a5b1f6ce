/- The document's judge of versions: its history, a blame. -/
import Derived.Test.YtpnegacfanbcfaaVD
import Derived.Test.YtpnegacfanbcfaaSelfGo
namespace Go.Proofs.Ytpnegacfanbcfaa
open Go.RowKit Go.Maps

def rtoldAt (l : List Ev) (starts : List Tl) (p : Nat) : List Tl := rtold l starts.length (starts.getD p []) p
theorem rtoldAt_map (l : List Ev) (starts : List Tl) (p : Nat) : (rtoldAt l starts p).map tabOf = toldAt l starts p := rtold_map _ _ _ _
/-- the history, its versions told, its blames. -/
structure RV2 (l : List Ev) (starts : List Tl) (w0 : World) (X : Nat) (lA : Option Addr) (lc : Nat) (tv ov : Value) (outs : List Blm) (w : World) : Prop where
  hX : w0.heap.size ≤ X
  x : w.heap[X]? = some (.cells #[.int .i64 (starts.length : Nat), .slice lA l.length lc, tv, ov] 88 (0, 0))
  o : w.ownsRow w0.heap.size 55 3 ov outs.length (blCells outs)
  row : Row w0 lA (evCells l)
  evs : ∀ e ∈ l, e.In w0
  t : ∃ tvs, w.ownsRow w0.heap.size 89 1 tv starts.length tvs ∧ ∀ (p : Nat) v, tvs[p]? = some v → ∃ hs, Tabs w w0.heap.size v (rtoldAt l starts p) hs ∧ ∀ t ∈ rtoldAt l starts p, t.length ≤ 3900000
  b : Below w0.heap.size w0 w
section
variable {l : List Ev} {starts : List Tl} {w0 w w' : World} {X : Nat} {lA : Option Addr} {lc : Nat} {tv ov ov' : Value} {outs outs' : List Blm}
theorem RV2.lt (h : RV2 l starts w0 X lA lc tv ov outs w) : X < w.heap.size := (Array.getElem?_eq_some_iff.1 h.x).1
theorem RV2.hist (h : RV2 l starts w0 X lA lc tv ov outs w) : RHist l starts.length X lA lc w :=
  ⟨cell_of_row _ _ 0 _ _ _ h.x, cell_of_row _ _ 1 _ _ _ h.x, h.row.below h.b, fun e he => (h.evs e he).below h.b⟩
theorem Tabs.keeps {B : Nat} {v : Value} {ts : List Tl} {hs : List (Option Addr × Nat)} (h : Tabs w B v ts hs) (hk : Keeps B X w w') (hX : ∃ cs, w.heap[X]? = some (.cells cs 88 (0, 0))) : Tabs w' B v ts hs := by
  obtain ⟨cs, hX⟩ := hX
  refine ⟨h.len, hk.own h.own (by decide) (fun cs' hc => ?_), fun k t x h1 h2 => (h.rows k t x h1 h2).kept fun k' cs' fr hc => ?_⟩
  · rw [hX] at hc
    injection hc with hc
    injection hc with _ hc
    cases hc
  · refine (hk.k k' (Array.getElem?_eq_some_iff.1 hc).1 (fun e => ?_) (fun cs2 h2 => ?_)).trans hc
    · rw [e, hX] at hc
      injection hc with hc
      injection hc with _ hc
      cases hc
    · rw [hc] at h2
      injection h2 with h2
      injection h2 with _ h2
      cases h2
theorem RV2.keeps (h : RV2 l starts w0 X lA lc tv ov outs w) (hk : Keeps w0.heap.size X w w') (hx : w'.heap[X]? = some (.cells #[.int .i64 (starts.length : Nat), .slice lA l.length lc, tv, ov'] 88 (0, 0))) (ho : w'.ownsRow w0.heap.size 55 3 ov' outs'.length (blCells outs')) :
    RV2 l starts w0 X lA lc tv ov' outs' w' := by
  refine ⟨h.hX, hx, ho, h.row, h.evs, ?_, h.b.trans hk.b⟩
  obtain ⟨tvs, h1, h2⟩ := h.t
  refine ⟨tvs, hk.own h1 (by decide) (fun cs' hc => ?_), fun p v hp => ?_⟩
  · rw [h.x] at hc
    injection hc with hc
    injection hc with _ hc
    cases hc
  · obtain ⟨hs, h3, h4⟩ := h2 p v hp
    exact ⟨hs, h3.keeps hk ⟨_, h.x⟩, h4⟩
theorem RV2.below (h : RV2 l starts w0 X lA lc tv ov outs w) (hb : Below w.heap.size w w') : RV2 l starts w0 X lA lc tv ov outs w' :=
  h.keeps (Keeps.of_below hb (Nat.le_trans h.hX (Nat.le_of_lt h.lt))) (heap_below' hb h.x) (own_below h.o hb)
theorem RV2.told (h : RV2 l starts w0 X lA lc tv ov outs w) {p : Nat} (hp : p < starts.length) : ∃ tb tc v hs, tv = .slice (some ⟨tb, 0, none⟩) starts.length tc ∧ w.cell? ⟨tb, p, none⟩ = some v ∧ Tabs w w0.heap.size v (rtoldAt l starts p) hs ∧ ∀ t ∈ rtoldAt l starts p, t.length ≤ 3900000 := by
  obtain ⟨tvs, h1, h2⟩ := h.t
  obtain ⟨tb, tc, rfl, _, _⟩ := h1.form (by omega)
  have hl := h1.1
  obtain ⟨v, hv⟩ : ∃ v, tvs[p]? = some v := ⟨_, List.getElem?_eq_getElem (by omega)⟩
  obtain ⟨hs, h3, h4⟩ := h2 p v hv
  exact ⟨tb, tc, v, hs, rfl, by rw [h1.cellAt p (by omega)]; exact hv, h3, h4⟩
end
def RBPost (l : List Ev) (starts : List Tl) (w0 : World) (X : Nat) (lA : Option Addr) (lc : Nat) (tv : Value) (outs : List Blm) (r : Value) (w : World) (e : Ending) (w' : World) : Prop :=
  e = .returned r ∧ Keeps w0.heap.size X w w' ∧ ∃ ov, RV2 l starts w0 X lA lc tv ov outs w'

attribute [-go_sem] loadCellsFrom
set_option maxRecDepth 100000 in
set_option maxHeartbeats 2000000 in
theorem refBlame (l : List Ev) (starts : List Tl) (w0 : World) (X : Nat) (lA : Option Addr) (lc : Nat) (tv ov : Value) (outs : List Blm) (a b c : Int) (w : World) (hh : RV2 l starts w0 X lA lc tv ov outs w) (hn : outs.length ≤ 3000000) :
    Calls Try.prog 59 #[.pointer (some ⟨X, 0, none⟩), .int .i64 a, .int .i64 b, .int .i64 c] w (RBPost l starts w0 X lA lc tv (outs ++ [⟨a, b, c⟩]) (.tuple #[]) w) := by
  obtain ⟨oA, oc, rfl, hrow, hnil⟩ := row_of_own hh.o
  have HH := Lib.hid hh; have HN := Lib.hid hn
  have c4 : w.cell? ⟨X, 3, none⟩ = some (.slice oA outs.length oc) := cell_of_row _ _ _ _ _ _ hh.x
  have hlt := hh.lt
  clear hrow hnil hh hn
  go_enter Try.func59, Try.ntmps59
  have hb0 : Below w.heap.size w (w.alloc (.cells #[.int .i64 a, .int .i64 b, .int .i64 c] 55)) := (Below.refl _ _).alloc (Nat.le_refl _) _
  have hh1 := HH.out.below hb0
  have HH1 := Lib.hid hh1; have HB0 := Lib.hid hb0
  clear hb0 hh1
  go_wp2_with (at_builtin; refine wpList_append_is rfl (.tmp 12) (.tmp 17) rfl elemBlame rfl HH1.out.o _ 1 _ [.int .i64 a, .int .i64 b, .int .i64 c] rfl (row_new w _ _) rfl (by simp [Value.oneCell']) (by have := HN.out; unfold maxLen; omega) (by have := HN.out; omega) (by have := HH.out.hX; have := HH.out.lt; simp; omega) (fun e => by cases e) ?_; intro v6 w6 ho6 hg6 hat6; obtain ⟨A6, c6, rfl, _, _⟩ := row_of_own ho6; have hx6 : w6.heap[X]? = some (.cells #[.int .i64 (starts.length : Nat), .slice lA l.length lc, tv, .slice oA outs.length oc] 88 (0, 0)) := (hg6.block _ HH1.out.lt (fun e => own_ne HH1.out.o (fun cs hc => by rw [HH1.out.x] at hc; injection hc with hc; injection hc with _ hc; cases hc) e.symm)).trans HH1.out.x; have y4 : w6.cell? ⟨X, 3, none⟩ = some (.slice oA outs.length oc) := cell_of_row _ _ _ _ _ _ hx6; have yz : w6.frozen? ⟨X, 3, none⟩ = false := frozen_block hx6; have HX6 := Lib.hid hx6; have HG6 := Lib.hid hg6; have HO6 := Lib.hid ho6; clear hx6 hg6 ho6 hat6)
  go_end0
  have hlt' := HH.out.lt
  have hHB := HH.out.hX
  have hk : Keeps w0.heap.size X w (w6.setCell ⟨X, 3, none⟩ (.slice A6 (outs.length + 1) c6)) := by
    refine ⟨?_, fun k hk hne hn => ?_⟩
    · exact ((HB0.out.mono (by omega)).grown HG6.out (by simp; omega) (fun k hk => (HH1.out.o.lt k hk).1)).setCell (by exact hHB) _
    · refine (Below.heap_setCell _ _ _ _ hne).trans ((HG6.out.block k (by simp; omega) (fun e => ?_)).trans (HB0.out.block k hk))
      obtain ⟨cs, hc⟩ := own_block_cells HH1.out.o e.symm
      rw [HB0.out.block k hk] at hc
      exact hn cs hc
  refine ⟨rfl, hk, .slice A6 (outs.length + 1) c6, HH.out.keeps hk (set_block HX6.out _) ?_⟩
  rw [List.length_append, blCells_snoc]
  exact own_setCell HO6.out (fun cs hc => by
    rw [HX6.out] at hc
    injection hc with hc
    injection hc with _ hc
    cases hc) _
end Go.Proofs.Ytpnegacfanbcfaa

/- The document's judge of versions: an event alone. -/
namespace Go.Proofs.Ytpnegacfanbcfaa
open Go.RowKit Go.Maps

theorem rtellsL_pos (F : Int → List Ev) : ∀ (k : Nat) (acc : List Tl), acc.length ≤ (rtellsL F k acc).length
  | 0, _ => Nat.le_refl _
  | k + 1, acc => by
    unfold rtellsL
    split
    · have := rtellsL_pos F k (acc ++ [behindL (rlast acc) ‹Ev›])
      simp only [List.length_append, List.length_singleton] at this
      omega
    · exact Nat.le_refl _
theorem rtoldAt_pos (l : List Ev) (starts : List Tl) (p : Nat) : 1 ≤ (rtoldAt l starts p).length := rtellsL_pos _ _ [starts.getD p []]
theorem rtoldAt_len (l : List Ev) (starts : List Tl) (p : Nat) : (toldAt l starts p).length = (rtoldAt l starts p).length := by rw [← rtoldAt_map, List.length_map]

attribute [-go_sem] loadCellsFrom
/-- behind the first test. -/
def SfRel (l : List Ev) (starts : List Tl) (w0 : World) (X : Nat) (lA : Option Addr) (lc : Nat) (tv : Value) (outs : List Blm) (a : Ev) (P : Nat) (w wc : World) : Prop :=
  (∃ ov, RV2 l starts w0 X lA lc tv ov outs wc) ∧ Keeps w0.heap.size X w wc ∧ wc.heap[P]? = some (.cells a.arr 52 (0, 0))
theorem Keeps.box {B X : Nat} {w w' : World} (h : Keeps B X w w') {P : Nat} {cs : Array Value} (hP : w.heap[P]? = some (.cells cs 52 (0, 0))) (hX : ∃ cs, w.heap[X]? = some (.cells cs 88 (0, 0))) : w'.heap[P]? = some (.cells cs 52 (0, 0)) := by
  obtain ⟨cs', hX⟩ := hX
  refine (h.k P (Array.getElem?_eq_some_iff.1 hP).1 (fun e => ?_) (fun cs2 h2 => ?_)).trans hP
  · rw [e, hX] at hP
    injection hP with hP
    injection hP with _ hP
    cases hP
  · rw [hP] at h2
    injection h2 with h2
    injection h2 with _ h2
    cases h2
set_option maxRecDepth 100000 in
set_option maxHeartbeats 4000000 in
theorem refSelf (l : List Ev) (starts : List Tl) (w0 : World) (X : Nat) (lA : Option Addr) (lc : Nat) (tv ov : Value) (outs : List Blm) (i : Nat) (a : Ev) (w : World) (hh : RV2 l starts w0 X lA lc tv ov outs w) (hn : outs.length ≤ 2000000) (ha : l[i]? = some a) (hl : l.length ≤ 1024) (_hsl : starts.length ≤ 64) (hsm : ∀ e ∈ l, e.Small) (hok : a.Ok) :
    Calls Try.prog 34 #[.pointer (some ⟨X, 0, none⟩), .int .i64 (i : Int)] w (RBPost l starts w0 X lA lc tv (outs ++ selfL l starts i a) (.bool (goneB starts.length a)) w) := by
  have hil : i < l.length := (List.getElem?_eq_some_iff.1 ha).1
  obtain ⟨b0, off, hA, hld⟩ := load_ev hh.hist.row ha
  have hx1 := hh.hist.ll
  rw [hA] at hx1
  have hbx : Below w.heap.size w (w.alloc (.cells a.arr 52)) := (Below.refl _ _).alloc (Nat.le_refl _) _
  have hP0 : (w.alloc (.cells a.arr 52)).heap[w.heap.size]? = some (.cells a.arr 52 (0, 0)) := heap_alloc_new w _
  have hBw : w0.heap.size ≤ w.heap.size := hh.b.size
  have hl0 : (loadCellsFrom ⟨w.heap.size, 0, none⟩ 0 13 #[]).run Try.prog (w.alloc (.cells a.arr 52)) = .ok a.arr (w.alloc (.cells a.arr 52)) := load_block hP0 rfl
  have hsa := hsm a (List.mem_of_getElem? ha)
  have hia := hh.hist.evs a (List.mem_of_getElem? ha)
  have HH := Lib.hid hh; have HN := Lib.hid hn; have HA := Lib.hid ha; have HSM := Lib.hid hsm; have HOK := Lib.hid hok; have HEA := Lib.hid hA; have HBX := Lib.hid hbx; have HP0 := Lib.hid hP0; have HSA := Lib.hid hsa; have HIA := Lib.hid hia
  have HC35 : Hid (Calls Try.prog 35 #[.pointer (some ⟨X, 0, none⟩), a.val] (w.alloc (.cells a.arr 52)) fun r w' => r = .returned (.bool (isB a starts.length)) ∧ Below (w.alloc (.cells a.arr 52)).heap.size (w.alloc (.cells a.arr 52)) w') :=
    refIs a starts.length X _ ((hh.below hbx).hist.p) hsa.1 (hia.below hbx)
  unfold Ev.val at HC35
  unfold Ev.arr at hld hl0 HC35
  clear hh hn ha hsm hok hA hbx hP0 hsa hia
  cases hr : isB a starts.length with
  | false =>
    have HR := Lib.hid hr
    have HSL : Hid (selfL l starts i a = [⟨i, -1, 1⟩]) := by show _ = _; unfold selfL; rw [if_neg (by rw [hr]; decide)]
    have HG : Hid (goneB starts.length a = false) := by show _ = _; unfold goneB; rw [hr]; rfl
    clear hr
    go_enter Try.func34, Try.ntmps34
    go_wp2_with (first
      | (go_at_call 35; refine HC35.out.mono ?_
         rintro e1 w1 ⟨rfl, hb1⟩
         rw [HR.out]
         have HB1 := Lib.hid (HBX.out.trans (hb1.mono HBX.out.size))
         clear hb1)
      | (go_at_call 59; refine (refBlame l starts w0 X lA lc tv ov outs (i : Int) (-1) 1 _ (HH.out.below HB1.out) (by have := HN.out; omega)).mono ?_; rintro e1 w5 ⟨rfl, hk5, hst5⟩; have HK5 := Lib.hid hk5; have HST5 := Lib.hid hst5; clear hk5 hst5))
    go_ret
    rw [HSL.out, HG.out]
    exact ⟨rfl, (Keeps.of_below HB1.out hBw).trans HK5.out, HST5.out⟩
  | true =>
    have HR := Lib.hid hr
    by_cases he : a.end_ = 0
    · have he' : (a.end_ == 0) = true := by simpa using he
      have HSL : Hid (selfL l starts i a = []) := by show _ = _; unfold selfL; rw [if_pos hr, if_pos (.inl he)]
      have HG : Hid (goneB starts.length a = false) := by show _ = _; unfold goneB; rw [he]; simp
      clear hr he
      go_enter Try.func34, Try.ntmps34
      go_wp2_with (go_at_call 35; refine HC35.out.mono ?_
                   rintro e1 w1 ⟨rfl, hb1⟩
                   rw [HR.out]
                   have c2 : w1.cell? ⟨w.heap.size, 2, none⟩ = some (.int .i64 a.end_) := cell_below hb1 _ _ (cell_of_row _ _ 2 _ _ _ HP0.out)
                   have HB1 := Lib.hid (HBX.out.trans (hb1.mono HBX.out.size))
                   clear hb1)
      go_ret
      rw [HSL.out, HG.out, List.append_nil]
      exact ⟨rfl, Keeps.of_below HB1.out hBw, ov, HH.out.below HB1.out⟩
    have he' : (a.end_ == 0) = false := by simpa using he
    have HG : Hid (goneB starts.length a = true) := by show _ = _; unfold goneB; rw [hr]; simp [he]
    by_cases hk : a.kind = 4
    · have hk' : (a.kind == 4) = true := by simpa using hk
      have HSL : Hid (selfL l starts i a = []) := by show _ = _; unfold selfL; rw [if_pos hr, if_pos (.inr hk)]
      clear hr he hk
      go_enter Try.func34, Try.ntmps34
      go_wp2_with (go_at_call 35; refine HC35.out.mono ?_
                   rintro e1 w1 ⟨rfl, hb1⟩
                   rw [HR.out]
                   have c2 : w1.cell? ⟨w.heap.size, 2, none⟩ = some (.int .i64 a.end_) := cell_below hb1 _ _ (cell_of_row _ _ 2 _ _ _ HP0.out)
                   have c3 : w1.cell? ⟨w.heap.size, 3, none⟩ = some (.int .i64 a.kind) := cell_below hb1 _ _ (cell_of_row _ _ 3 _ _ _ HP0.out)
                   have HB1 := Lib.hid (HBX.out.trans (hb1.mono HBX.out.size))
                   clear hb1)
      go_ret
      rw [HSL.out, HG.out, List.append_nil]
      exact ⟨rfl, Keeps.of_below HB1.out hBw, ov, HH.out.below HB1.out⟩
    have hk' : (a.kind == 4) = false := by simpa using hk
    have HSL : Hid (selfL l starts i a = selfA l starts i a ++ selfC l starts i a) := by show _ = _; unfold selfL; rw [if_pos hr, if_neg (by intro h; rcases h with h | h; exact he h; exact hk h)]
    obtain ⟨hp0, hp1, hn1, hn2⟩ := isB_go hr he hk
    obtain ⟨pn, hpn⟩ : ∃ pn : Nat, a.part = pn := ⟨a.part.toNat, by omega⟩
    obtain ⟨nn, hnn⟩ : ∃ nn : Nat, a.number = nn := ⟨a.number.toNat, by omega⟩
    have hpl : pn < starts.length := by omega
    have hpt : a.part.toNat = pn := by omega
    have hn1' : 1 ≤ nn := by omega
    have hnb : (nn : Int) ≤ 9223372036854775807 := by have := HOK.out.number.2; omega
    have HPN := Lib.hid hpn; have HNN := Lib.hid hnn; have HN2 := Lib.hid hn2; have HNB := Lib.hid hnb; have HPT := Lib.hid hpt
    clear hr he hk hp0 hp1 hn1 hn2 hpn hnn hnb hpt
    go_enter Try.func34, Try.ntmps34
    go_wp2_with (go_at_call 35; refine HC35.out.mono ?_
                 rintro e1 w1 ⟨rfl, hb1⟩
                 rw [HR.out]
                 have HB1 := Lib.hid (HBX.out.trans (hb1.mono HBX.out.size))
                 have HP1 : Hid (w1.heap[w.heap.size]? = some (.cells a.arr 52 (0, 0))) := heap_below' hb1 HP0.out
                 have c2 : w1.cell? ⟨w.heap.size, 2, none⟩ = some (.int .i64 a.end_) := cell_of_row _ _ 2 _ _ _ HP1.out
                 have c3 : w1.cell? ⟨w.heap.size, 3, none⟩ = some (.int .i64 a.kind) := cell_of_row _ _ 3 _ _ _ HP1.out
                 clear hb1)
    have hv1 := HH.out.below HB1.out
    obtain ⟨tb, tc, v, hs, htv, htc, htab, htl⟩ := hv1.told hpl
    obtain ⟨tl, htl'⟩ : ∃ tl, tl = (rtoldAt l starts pn).length := ⟨_, rfl⟩
    have htp := rtoldAt_pos l starts pn
    obtain ⟨g, gc, rfl, _, _⟩ := htab.own.form (by omega)
    have x2 : w1.cell? ⟨X, 2, none⟩ = some (.slice (some ⟨tb, 0, none⟩) starts.length tc) := by rw [← htv]; exact cell_of_row _ _ 2 _ _ _ hv1.x
    have n4 : w1.cell? ⟨w.heap.size, 4, none⟩ = some (.int .i64 (pn : Int)) := by rw [← HPN.out]; exact cell_of_row _ _ 4 _ _ _ HP1.out
    have hpl' : (pn : Int) < starts.length := by omega
    have HV1 := Lib.hid hv1; have HTAB := Lib.hid htab; have HTL := Lib.hid htl; have HTQ := Lib.hid htl'
    rw [← htl'] at htc
    clear hv1 htab htl c2 c3 htv htl' htp
    go_quiet (fail)
    obtain ⟨w2, hw2⟩ : ∃ w2, w2 = w1.drewN nq := ⟨_, rfl⟩
    rw [← hw2]
    have HB2 : Hid (Below w1.heap.size w1 w2) := by show Below _ _ _; rw [hw2]; exact below_drewN (Below.refl _ _) _
    have HV2 := Lib.hid (HV1.out.below HB2.out)
    have HP2 : Hid (w2.heap[w.heap.size]? = some (.cells a.arr 52 (0, 0))) := heap_below' HB2.out HP1.out
    clear x2 n4 htc hw2
    go_upto_region 10 with fail
    have HEA : Hid (selfA l starts i a = if (decide ((tl : Int) < (nn : Int)) && !busyB l starts.length a.part) = true then [⟨i, -1, 3⟩] else []) := by
      show _ = _
      unfold selfA
      rw [HPT.out, rtoldAt_len, ← HTQ.out, HNN.out]
    have HK2 : Hid (Keeps w0.heap.size X w w2) := Keeps.of_below (HB1.out.trans (HB2.out.mono HB1.out.size)) hBw
    have hB2 : w0.heap.size ≤ w2.heap.size := HV2.out.b.size
    go_cut [49] (fun cv wc => cv = .bool (decide ((tl : Int) < (nn : Int)) && !busyB l starts.length a.part) ∧ Below w2.heap.size w2 wc)
    case first =>
      have m4 : w2.cell? ⟨w.heap.size, 4, none⟩ = some (.int .i64 a.part) := cell_of_row _ _ 4 _ _ _ HP2.out
      have m6 : w2.cell? ⟨w.heap.size, 6, none⟩ = some (.int .i64 (nn : Int)) := by rw [← HNN.out]; exact cell_of_row _ _ 6 _ _ _ HP2.out
      by_cases hgt : (tl : Int) < (nn : Int)
      · have hgt' : decide ((tl : Int) < (nn : Int)) = true := by simpa using hgt
        skip
        go_wp2_with (go_at_call 60; refine (refBusy l starts.length X lA lc a.part _ HV2.out.hist.p HV2.out.hist.ll HV2.out.hist.row hl (fun e he => (HSM.out e he).1) HV2.out.hist.evs).mono ?_
                     rintro e3 w3 ⟨rfl, hb3⟩
                     have HB3 := Lib.hid hb3
                     clear hb3)
        all_goals
          go_meet
          exact ⟨by rw [hgt']; simp, HB3.out⟩
      · have hgt' : decide ((tl : Int) < (nn : Int)) = false := by simpa using hgt
        skip
        go_wp2_with fail
        all_goals
          go_meet
          exact ⟨by rw [hgt']; simp, Below.refl _ _⟩
    case rest =>
    obtain ⟨hcv, hb3⟩ := hcut
    subst hcv
    obtain ⟨w3, hw3⟩ : ∃ w3 : World, w3 = wc := ⟨_, rfl⟩
    subst hw3
    have HB3 := Lib.hid hb3
    clear hb3
    go_upto_if 49 with fail
    go_cut [] (fun wc => SfRel l starts w0 X lA lc tv (outs ++ selfA l starts i a) a w.heap.size w wc ∧ Keeps w0.heap.size X w2 wc)
    case first =>
      cases hcc : (decide ((tl : Int) < (nn : Int)) && !busyB l starts.length a.part) with
      | true =>
        have EQ : Hid (selfA l starts i a = [⟨i, -1, 3⟩]) := by show _ = _; rw [HEA.out, if_pos hcc]
        clear hcc
        go_wp2_with (go_at_call 59; refine (refBlame l starts w0 X lA lc tv ov outs (i : Int) (-1) 3 _ (HV2.out.below HB3.out) (by have := HN.out; omega)).mono ?_; rintro e1 w5 ⟨rfl, hk5, hst5⟩; have HK5 := Lib.hid hk5; have HST5 := Lib.hid hst5; clear hk5 hst5)
        go_meet
        rw [EQ.out]
        exact ⟨⟨HST5.out, (HK2.out.trans (Keeps.of_below HB3.out hB2)).trans HK5.out, HK5.out.box (heap_below' HB3.out HP2.out) ⟨_, (HV2.out.below HB3.out).x⟩⟩, (Keeps.of_below HB3.out hB2).trans HK5.out⟩
      | false =>
        have EQ : Hid (selfA l starts i a = []) := by show _ = _; rw [HEA.out, if_neg (by rw [hcc]; decide)]
        clear hcc
        go_wp2_with fail
        go_meet
        rw [EQ.out, List.append_nil]
        exact ⟨⟨⟨ov, HV2.out.below HB3.out⟩, HK2.out.trans (Keeps.of_below HB3.out hB2), heap_below' HB3.out HP2.out⟩, Keeps.of_below HB3.out hB2⟩
    case rest =>
      obtain ⟨⟨⟨ov2, hst2⟩, hk2, hP2⟩, hk22⟩ := hcut
      obtain ⟨V, hV⟩ : ∃ V : World, V = wc := ⟨_, rfl⟩
      subst hV
      have HS2 := Lib.hid hst2; have HKV := Lib.hid hk2; have HPV := Lib.hid hP2
      have HLA : Hid ((selfA l starts i a).length ≤ 1) := by show _ ≤ _; rw [HEA.out]; split <;> simp
      have HLN : Hid ((outs ++ selfA l starts i a).length ≤ 3000000) := by have := HN.out; have := HLA.out; show _ ≤ _; simp only [List.length_append]; omega
      have p3 : V.cell? ⟨w.heap.size, 3, none⟩ = some (.int .i64 a.kind) := cell_of_row _ _ 3 _ _ _ hP2
      have p5 : V.cell? ⟨w.heap.size, 5, none⟩ = some (.int .i64 a.key) := cell_of_row _ _ 5 _ _ _ hP2
      have p6 : V.cell? ⟨w.heap.size, 6, none⟩ = some (.int .i64 (nn : Int)) := by rw [← HNN.out]; exact cell_of_row _ _ 6 _ _ _ hP2
      have p7 : V.cell? ⟨w.heap.size, 7, none⟩ = some (.bool a.had) := cell_of_row _ _ 7 _ _ _ hP2
      have p8 : V.cell? ⟨w.heap.size, 8, none⟩ = some (.int .i64 a.value) := cell_of_row _ _ 8 _ _ _ hP2
      have HTB : Hid (Tabs V w0.heap.size (.slice (some ⟨g, 0, none⟩) (rtoldAt l starts pn).length gc) (rtoldAt l starts pn) hs) := (HTAB.out.below HB2.out).keeps hk22 ⟨_, HV2.out.x⟩
      clear hst2 hk2 hP2 hk22
      by_cases k2 : a.kind = 2
      · have k2' : (a.kind == 2) = true := by simpa using k2
        have hn2' := HN2.out k2
        obtain ⟨q, hq⟩ : ∃ q : Nat, nn = q + 2 := ⟨nn - 2, by have := HNN.out; omega⟩
        have hw1 : IntKind.i64.wrap ((q : Int) + 2 - 1) = (q : Int) + 1 := (IntWalk.i64_left _).trans ((IntWalk.wrap64_in _ (by have := HNB.out; omega)).trans (by omega))
        have hw2 : IntKind.i64.wrap ((q : Int) + 1) = (q : Int) + 1 := (IntWalk.i64_left _).trans (IntWalk.wrap64_in _ (by have := HNB.out; omega))
        have hw3 : IntKind.i64.wrap (q : Int) = (q : Int) := (IntWalk.i64_left _).trans (IntWalk.wrap64_in _ (by have := HNB.out; omega))
        have hw4 : IntKind.i64.wrap ((q : Int) + 1 - 1) = (q : Int) := (IntWalk.i64_left _).trans ((IntWalk.wrap64_in _ (by have := HNB.out; omega)).trans (by omega))
        subst hq
        have p6q : V.cell? ⟨w.heap.size, 6, none⟩ = some (.int .i64 ((q : Int) + 2)) := by simpa using p6
        clear p6 hn2'
        have HNO : Hid (numOf a = (q : Int) + 1) := by show _ = _; unfold numOf; rw [if_pos k2, HNN.out]; omega
        by_cases hle : q + 1 ≤ tl
        · have hle' : decide ((q : Int) + 1 ≤ (tl : Int)) = true := by rw [decide_eq_true_eq]; omega
          have k5' : (a.kind != 5) = true := by simp [k2]
          obtain ⟨t, ht⟩ : ∃ t, (rtoldAt l starts pn)[q]? = some t := ⟨_, List.getElem?_eq_getElem (by rw [← HTQ.out]; omega)⟩
          obtain ⟨hd0, hhd⟩ : ∃ hd, hs[q]? = some hd := ⟨_, List.getElem?_eq_getElem (by rw [HTB.out.len, ← HTQ.out]; omega)⟩
          obtain ⟨tA, tc1⟩ := hd0
          have HR58 := Lib.hid (HTB.out.rows q t (tA, tc1) ht hhd)
          have HTLEN := Lib.hid (HTL.out t (List.mem_of_getElem? ht))
          have ldT : ∀ p : BelowOf V, (loadCellsFrom ⟨g, q, none⟩ 0 1 #[]).run Try.prog p.v = .ok #[.slice tA t.length tc1] p.v := by
            intro p
            exact run_loadCells_list (P := Try.prog) p.v ⟨g, q, none⟩ [.slice tA t.length tc1] (fun k v hv => by
              have hk0 : k = 0 := by
                rcases Nat.eq_zero_or_pos k with h' | h'
                · exact h'
                · rw [List.getElem?_eq_none (by simp; omega)] at hv
                  cases hv
              subst hk0
              have := (HTB.out.below p.h).own.cellAt q (by rw [← HTQ.out]; omega)
              have hcq : (tabCells (rtoldAt l starts pn) hs)[q]? = some (.slice tA t.length tc1) := by
                unfold tabCells
                rw [List.getElem?_map, (List.getElem?_zip_eq_some (z := (t, (tA, tc1)))).2 ⟨ht, hhd⟩]
                rfl
              rw [hcq] at this
              rw [addr_add, Nat.add_zero, this]
              exact hv)
          have p5' : ∀ p : BelowOf V, p.v.cell? ⟨w.heap.size, 5, none⟩ = some (.int .i64 a.key) := fun p => p.cell p5
          have HC : Hid (selfC l starts i a = if ((tabOf t a.key).isSome != a.had || (tabOf t a.key).getD 0 != a.value) = true then [⟨i, -1, 4⟩] else []) := by
            have e1 : (toldAt l starts pn).getD q tab0 = tabOf t := by
              rw [← rtoldAt_map, List.getD_eq_getElem?_getD, List.getElem?_map, ht]
              rfl
            have e2 : numOf a - 1 = (q : Int) := by
              unfold numOf
              have := HNO.out; unfold numOf at this; omega
            have e3 : ¬ (((toldAt l starts pn).length : Int) < numOf a ∨ a.kind = 5) := by
              rw [rtoldAt_len, ← HTQ.out]
              intro h
              rcases h with h | h
              · omega
              · omega
            show _ = _
            unfold selfC
            rw [HPT.out, if_neg e3, e2, Int.toNat_natCast, e1]
            rfl
          have hq1 : (q : Int) < tl := by omega
          clear ht hhd
          obtain ⟨vv, hvv⟩ : ∃ vv, (tabOf t a.key).getD 0 = vv := ⟨_, rfl⟩
          obtain ⟨hd, hhd⟩ : ∃ hd, (tabOf t a.key).isSome = hd := ⟨_, rfl⟩
          rw [hvv, hhd] at HC
          have HVV := Lib.hid hvv; have HHD := Lib.hid hhd
          clear hvv hhd
          go_wp2_with fail
          refine wp_region_quiet_below (w := V) (by kernel_rfl) (by kernel_rfl) ?_
          repeat (go_big_quiet_step ((go_at_call 61; exact calls_below _ ((refFind t tA tc1 a.key _ (by exact HR58.out.row.below (BelowOf.h _)) (by have := HTLEN.out; omega)).mono fun _ _ h => ⟨h.1.trans (congrArg (fun x => Ending.returned x) (by rw [HVV.out, HHD.out])), h.2⟩))))
          refine wpQuiet_nil ?_
          intro w6 hw'
          obtain ⟨q6, rfl⟩ := hw'
          clear hw2 hw3 hw4 ldT p5' hle' hq1
          try clear hw1
          have r7 := q6.cell p7
          have r8 := q6.cell p8
          clear p7 p8
          obtain ⟨hb, hhb⟩ : ∃ hb, a.had = hb := ⟨_, rfl⟩
          rw [hhb] at r7 HC
          clear hhb
          have hva : (vv != a.value) = true ∨ (vv != a.value) = false := by cases (vv != a.value) <;> simp
          cases hd <;> cases hb <;> rcases hva with hva | hva
          all_goals go_wp2_with (go_at_call 59; refine (refBlame l starts w0 X lA lc tv ov2 (outs ++ selfA l starts i a) (i : Int) (-1) 4 _ (HS2.out.below q6.h) (by exact HLN.out)).mono ?_; rintro e1 w5 ⟨rfl, hk5, hst5⟩; have HK5 := Lib.hid hk5; have HST5 := Lib.hid hst5; clear hk5 hst5)
          all_goals
            go_ret
            rw [HSL.out, HG.out, ← List.append_assoc]
            first
              | (have EQ : selfC l starts i a = [⟨i, -1, 4⟩] := by
                   rw [HC.out]
                   go_tidy
                   grind
                 rw [EQ]
                 exact ⟨rfl, (HKV.out.trans (Keeps.of_below q6.h (Nat.le_trans hBw HKV.out.b.size))).trans HK5.out, HST5.out⟩)
              | (have EQ : selfC l starts i a = [] := by
                   rw [HC.out]
                   go_tidy
                   grind
                 rw [EQ, List.append_nil]
                 exact ⟨rfl, HKV.out.trans (Keeps.of_below q6.h (Nat.le_trans hBw HKV.out.b.size)), ov2, HS2.out.below q6.h⟩)
        · have hle' : decide ((q : Int) + 1 ≤ (tl : Int)) = false := by rw [decide_eq_false_iff_not]; omega
          have HC : Hid (selfC l starts i a = []) := by
            show _ = _
            unfold selfC
            rw [if_pos (.inl (by rw [HNO.out, HPT.out, rtoldAt_len, ← HTQ.out]; omega))]
          go_wp2_with fail
          all_goals
            go_ret
            rw [HSL.out, HC.out, HG.out, List.append_nil]
            exact ⟨rfl, HKV.out, ov2, HS2.out⟩
      · have k2' : (a.kind == 2) = false := by simpa using k2
        by_cases k5 : a.kind = 5
        · have k5' : (a.kind != 5) = false := by simp [k5]
          have HC : Hid (selfC l starts i a = []) := by
            show _ = _
            unfold selfC
            rw [if_pos (.inr k5)]
          go_wp2_with fail
          all_goals
            go_ret
            rw [HSL.out, HC.out, HG.out, List.append_nil]
            exact ⟨rfl, HKV.out, ov2, HS2.out⟩
        · have k5' : (a.kind != 5) = true := by simp [k5]
          obtain ⟨q, hq⟩ : ∃ q : Nat, nn = q + 1 := ⟨nn - 1, by omega⟩
          have hw2 : IntKind.i64.wrap ((q : Int) + 1) = (q : Int) + 1 := (IntWalk.i64_left _).trans (IntWalk.wrap64_in _ (by have := HNB.out; omega))
          have hw3 : IntKind.i64.wrap (q : Int) = (q : Int) := (IntWalk.i64_left _).trans (IntWalk.wrap64_in _ (by have := HNB.out; omega))
          have hw4 : IntKind.i64.wrap ((q : Int) + 1 - 1) = (q : Int) := (IntWalk.i64_left _).trans ((IntWalk.wrap64_in _ (by have := HNB.out; omega)).trans (by omega))
          subst hq
          have p6q : V.cell? ⟨w.heap.size, 6, none⟩ = some (.int .i64 ((q : Int) + 1)) := by simpa using p6
          clear p6
          have HNO : Hid (numOf a = (q : Int) + 1) := by show _ = _; unfold numOf; rw [if_neg k2, HNN.out]; omega
          by_cases hle : q + 1 ≤ tl
          · have hle' : decide ((q : Int) + 1 ≤ (tl : Int)) = true := by rw [decide_eq_true_eq]; omega
            obtain ⟨t, ht⟩ : ∃ t, (rtoldAt l starts pn)[q]? = some t := ⟨_, List.getElem?_eq_getElem (by rw [← HTQ.out]; omega)⟩
            obtain ⟨hd0, hhd⟩ : ∃ hd, hs[q]? = some hd := ⟨_, List.getElem?_eq_getElem (by rw [HTB.out.len, ← HTQ.out]; omega)⟩
            obtain ⟨tA, tc1⟩ := hd0
            have HR58 := Lib.hid (HTB.out.rows q t (tA, tc1) ht hhd)
            have HTLEN := Lib.hid (HTL.out t (List.mem_of_getElem? ht))
            have ldT : ∀ p : BelowOf V, (loadCellsFrom ⟨g, q, none⟩ 0 1 #[]).run Try.prog p.v = .ok #[.slice tA t.length tc1] p.v := by
              intro p
              exact run_loadCells_list (P := Try.prog) p.v ⟨g, q, none⟩ [.slice tA t.length tc1] (fun k v hv => by
                have hk0 : k = 0 := by
                  rcases Nat.eq_zero_or_pos k with h' | h'
                  · exact h'
                  · rw [List.getElem?_eq_none (by simp; omega)] at hv
                    cases hv
                subst hk0
                have := (HTB.out.below p.h).own.cellAt q (by rw [← HTQ.out]; omega)
                have hcq : (tabCells (rtoldAt l starts pn) hs)[q]? = some (.slice tA t.length tc1) := by
                  unfold tabCells
                  rw [List.getElem?_map, (List.getElem?_zip_eq_some (z := (t, (tA, tc1)))).2 ⟨ht, hhd⟩]
                  rfl
                rw [hcq] at this
                rw [addr_add, Nat.add_zero, this]
                exact hv)
            have p5' : ∀ p : BelowOf V, p.v.cell? ⟨w.heap.size, 5, none⟩ = some (.int .i64 a.key) := fun p => p.cell p5
            have HC : Hid (selfC l starts i a = if ((tabOf t a.key).isSome != a.had || (tabOf t a.key).getD 0 != a.value) = true then [⟨i, -1, 4⟩] else []) := by
              have e1 : (toldAt l starts pn).getD q tab0 = tabOf t := by
                rw [← rtoldAt_map, List.getD_eq_getElem?_getD, List.getElem?_map, ht]
                rfl
              have e2 : numOf a - 1 = (q : Int) := by
                unfold numOf
                have := HNO.out; unfold numOf at this; omega
              have e3 : ¬ (((toldAt l starts pn).length : Int) < numOf a ∨ a.kind = 5) := by
                rw [rtoldAt_len, ← HTQ.out]
                intro h
                rcases h with h | h
                · omega
                · omega
              show _ = _
              unfold selfC
              rw [HPT.out, if_neg e3, e2, Int.toNat_natCast, e1]
              rfl
            have hq1 : (q : Int) < tl := by omega
            clear ht hhd
            obtain ⟨vv, hvv⟩ : ∃ vv, (tabOf t a.key).getD 0 = vv := ⟨_, rfl⟩
            obtain ⟨hd, hhd⟩ : ∃ hd, (tabOf t a.key).isSome = hd := ⟨_, rfl⟩
            rw [hvv, hhd] at HC
            have HVV := Lib.hid hvv; have HHD := Lib.hid hhd
            clear hvv hhd
            go_wp2_with fail
            refine wp_region_quiet_below (w := V) (by kernel_rfl) (by kernel_rfl) ?_
            repeat (go_big_quiet_step ((go_at_call 61; exact calls_below _ ((refFind t tA tc1 a.key _ (by exact HR58.out.row.below (BelowOf.h _)) (by have := HTLEN.out; omega)).mono fun _ _ h => ⟨h.1.trans (congrArg (fun x => Ending.returned x) (by rw [HVV.out, HHD.out])), h.2⟩))))
            refine wpQuiet_nil ?_
            intro w6 hw'
            obtain ⟨q6, rfl⟩ := hw'
            clear hw2 hw3 hw4 ldT p5' hle' hq1
            try clear hw1
            have r7 := q6.cell p7
            have r8 := q6.cell p8
            clear p7 p8
            obtain ⟨hb, hhb⟩ : ∃ hb, a.had = hb := ⟨_, rfl⟩
            rw [hhb] at r7 HC
            clear hhb
            have hva : (vv != a.value) = true ∨ (vv != a.value) = false := by cases (vv != a.value) <;> simp
            cases hd <;> cases hb <;> rcases hva with hva | hva
            all_goals go_wp2_with (go_at_call 59; refine (refBlame l starts w0 X lA lc tv ov2 (outs ++ selfA l starts i a) (i : Int) (-1) 4 _ (HS2.out.below q6.h) (by exact HLN.out)).mono ?_; rintro e1 w5 ⟨rfl, hk5, hst5⟩; have HK5 := Lib.hid hk5; have HST5 := Lib.hid hst5; clear hk5 hst5)
            all_goals
              go_ret
              rw [HSL.out, HG.out, ← List.append_assoc]
              first
                | (have EQ : selfC l starts i a = [⟨i, -1, 4⟩] := by
                     rw [HC.out]
                     go_tidy
                     grind
                   rw [EQ]
                   exact ⟨rfl, (HKV.out.trans (Keeps.of_below q6.h (Nat.le_trans hBw HKV.out.b.size))).trans HK5.out, HST5.out⟩)
                | (have EQ : selfC l starts i a = [] := by
                     rw [HC.out]
                     go_tidy
                     grind
                   rw [EQ, List.append_nil]
                   exact ⟨rfl, HKV.out.trans (Keeps.of_below q6.h (Nat.le_trans hBw HKV.out.b.size)), ov2, HS2.out.below q6.h⟩)
          · have hle' : decide ((q : Int) + 1 ≤ (tl : Int)) = false := by rw [decide_eq_false_iff_not]; omega
            have HC : Hid (selfC l starts i a = []) := by
              show _ = _
              unfold selfC
              rw [if_pos (.inl (by rw [HNO.out, HPT.out, rtoldAt_len, ← HTQ.out]; omega))]
            go_wp2_with fail
            all_goals
              go_ret
              rw [HSL.out, HC.out, HG.out, List.append_nil]
              exact ⟨rfl, HKV.out, ov2, HS2.out⟩
end Go.Proofs.Ytpnegacfanbcfaa
