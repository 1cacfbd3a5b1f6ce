/- The document's judge of versions: two events, of any kinds. -/
import Derived.Test.YtpnegacfanbcfaaVI
import Derived.Test.YtpnegacfanbcfaaVH
import Derived.Test.YtpnegacfanbcfaaVG
import Derived.Test.YtpnegacfanbcfaaVF
import Derived.Test.YtpnegacfanbcfaaLess
import Derived.Test.YtpnegacfanbcfaaVT
import Derived.Deep.RegionLaw
namespace Go.Proofs.Ytpnegacfanbcfaa
open Go.RowKit Go.Maps

theorem refPair (l : List Ev) (starts : List Tl) (w0 : World) (X : Nat) (lA : Option Addr) (lc : Nat) (tv ov : Value) (outs : List Blm) (i k : Nat) (a b : Ev) (w : World) (hh : RV2 l starts w0 X lA lc tv ov outs w) (hn : outs.length ≤ 2000000)
    (ha : l[i]? = some a) (hb : l[k]? = some b) (hl : l.length ≤ 1024) (hsa : a.Small)
    (hra : isB a starts.length = true) (hrb : isB b starts.length = true) (hea : a.end_ ≠ 0) (heb : b.end_ ≠ 0) :
    Calls Try.prog 36 #[.pointer (some ⟨X, 0, none⟩), .int .i64 (i : Int), .int .i64 (k : Int)] w (PairPost l starts w0 X lA lc tv (outs ++ besideL i k a b) w) := by
  have hpa := isB_part hra
  have hpb := isB_part hrb
  by_cases hka : a.kind = 4
  · have h1 := isB_snap hra hea hka
    by_cases hkb : b.kind = 4
    · have h2 := isB_snap hrb heb hkb
      exact pairSS l starts w0 X lA lc tv ov outs i k a b w hh hn ha hb hl hsa.1 (h1.1.trans h2.1.symm) hka hkb
    · exact pairSN l starts w0 X lA lc tv ov outs i k a b w hh hn ha hb hl hka hkb hsa.1 ⟨hpb.1, by rw [h1.1]; exact hpb.2⟩
  · by_cases hkb : b.kind = 4
    · have h2 := isB_snap hrb heb hkb
      exact pairNS l starts w0 X lA lc tv ov outs i k a b w hh hn ha hb hl hka hkb ⟨hpa.1, by rw [h2.1]; exact hpa.2⟩
    · exact pairNN l starts w0 X lA lc tv ov outs i k a b w hh hn ha hb hl hka hkb
end Go.Proofs.Ytpnegacfanbcfaa

/- The document's judge of versions: what its loops carry; plain. -/
namespace Go.Proofs.Ytpnegacfanbcfaa
open Go.RowKit Go.Maps

theorem refAll_succ {l : List Ev} {starts : List (List (Int × Int))} {e : Ev} {j : Nat} (h : l[j]? = some e) : refAllL l starts (j + 1) = refAllL l starts j ++ sortB (oneU l starts (e, j)) := by
  unfold refAllL
  rw [zipIdx_take_succ h, List.flatMap_append]
  simp
theorem refAll_length (l : List Ev) (starts : List (List (Int × Int))) (j : Nat) : (refAllL l starts j).length = (allU l starts j).length := by
  unfold refAllL allU
  exact (perm_flat fun x _ => sortB_perm _).length_eq

theorem elemTables : ElemOk Try.prog 86 89 1 24 := elemOk_of (by kernel_rfl) (by decide) (.slice none 0 0) (by kernel_rfl) rfl
/-- the first loop: so many parts told. -/
structure RT (l : List Ev) (starts : List Tl) (w0 : World) (X : Nat) (lA : Option Addr) (lc j : Nat) (tv : Value) (w : World) : Prop where
  hX : w0.heap.size ≤ X
  x : w.heap[X]? = some (.cells #[.int .i64 (starts.length : Nat), .slice lA l.length lc, tv, .slice none 0 0] 88 (0, 0))
  t : ∃ tvs, w.ownsRow w0.heap.size 89 1 tv j tvs ∧ ∀ (p : Nat) v, tvs[p]? = some v → ∃ hs, Tabs w w0.heap.size v (rtoldAt l starts p) hs ∧ ∀ t ∈ rtoldAt l starts p, t.length ≤ 3900000
  b : Below w0.heap.size w0 w
theorem Tabs.base {w : World} {B B' : Nat} {v : Value} {ts : List Tl} {hs : List (Option Addr × Nat)} (h : Tabs w B v ts hs) (hb : B' ≤ B) : Tabs w B' v ts hs := ⟨h.len, own_base h.own hb, h.rows⟩
theorem Tabs.grown {w w' : World} {B B' j : Nat} {v tv : Value} {tvs : List Value} {ts : List Tl} {hs : List (Option Addr × Nat)} (h : Tabs w B v ts hs) (ht : w.ownsRow B' 89 1 tv j tvs) (hg : w.grownBy w' tv.ownBlock) : Tabs w' B v ts hs :=
  ⟨h.len, own_grown h.own hg (fun g h1 h2 => own_apart h.own ht (by decide) g h1 h2), fun k t x h1 h2 => (h.rows k t x h1 h2).kept fun k' cs fr hc => (hg.block _ (Array.getElem?_eq_some_iff.1 hc).1 (fun e => by
    obtain ⟨cs', h'⟩ := own_block_cells ht e.symm
    rw [hc] at h'
    injection h' with h'
    injection h' with _ h'
    cases h')).trans hc⟩
theorem Tabs.setBox {w : World} {B X f : Nat} {v u : Value} {ts : List Tl} {hs : List (Option Addr × Nat)} {cs : Array Value} (h : Tabs w B v ts hs) (hx : w.heap[X]? = some (.cells cs 88 (0, 0))) : Tabs (w.setCell ⟨X, f, none⟩ u) B v ts hs :=
  ⟨h.len, own_setCell h.own (fun cs' hc => by
    rw [hx] at hc
    injection hc with hc
    injection hc with _ hc
    cases hc) _, fun k t x h1 h2 => (h.rows k t x h1 h2).kept fun k' cs' fr hc => (Below.heap_setCell _ _ _ _ (fun e => by
      rw [e] at hc
      change w.heap[X]? = _ at hc
      rw [hx] at hc
      injection hc with hc
      injection hc with _ hc
      cases hc)).trans hc⟩
section
variable {l : List Ev} {starts : List Tl} {w0 w w' : World} {X : Nat} {lA : Option Addr} {lc j : Nat} {tv : Value}
theorem RT.lt (h : RT l starts w0 X lA lc j tv w) : X < w.heap.size := (Array.getElem?_eq_some_iff.1 h.x).1
theorem RT.below (h : RT l starts w0 X lA lc j tv w) (hb : Below w.heap.size w w') : RT l starts w0 X lA lc j tv w' := by
  obtain ⟨tvs, h1, h2⟩ := h.t
  refine ⟨h.hX, heap_below' hb h.x, ⟨tvs, own_below h1 hb, fun p v hp => ?_⟩, h.b.trans (hb.mono h.b.size)⟩
  obtain ⟨hs, h3, h4⟩ := h2 p v hp
  exact ⟨hs, h3.below hb, h4⟩
theorem RT.hist (h : RT l starts w0 X lA lc j tv w) (hr : Row w0 lA (evCells l)) (he : ∀ e ∈ l, e.In w0) : RHist l starts.length X lA lc w :=
  ⟨cell_of_row _ _ 0 _ _ _ h.x, cell_of_row _ _ 1 _ _ _ h.x, hr.below h.b, fun e hm => (he e hm).below h.b⟩
theorem RT.two (h : RT l starts w0 X lA lc starts.length tv w) (hr : Row w0 lA (evCells l)) (he : ∀ e ∈ l, e.In w0) : RV2 l starts w0 X lA lc tv (.slice none 0 0) [] w :=
  ⟨h.hX, h.x, ⟨rfl, .inl ⟨rfl, rfl⟩⟩, hr, he, h.t, h.b⟩
theorem RT.append {v tv2 : Value} {tvs : List Value} {hs : List (Option Addr × Nat)} (h : RT l starts w0 X lA lc j tv w) (ht : w.ownsRow w0.heap.size 89 1 tv j tvs)
    (hts : ∀ (p : Nat) v, tvs[p]? = some v → ∃ hs, Tabs w w0.heap.size v (rtoldAt l starts p) hs ∧ ∀ t ∈ rtoldAt l starts p, t.length ≤ 3900000)
    (hv : Tabs w w0.heap.size v (rtoldAt l starts j) hs) (hvl : ∀ t ∈ rtoldAt l starts j, t.length ≤ 3900000) (hg : w.grownBy w' tv.ownBlock) (ho : w'.ownsRow w0.heap.size 89 1 tv2 (j + 1) (tvs ++ [v])) :
    RT l starts w0 X lA lc (j + 1) tv2 (w'.setCell ⟨X, 2, none⟩ tv2) := by
  have n89 : ∀ cs, w.heap[X]? ≠ some (.cells cs 89 (0, 0)) := fun cs hc => by
    rw [h.x] at hc
    injection hc with hc
    injection hc with _ hc
    cases hc
  have hx := (hg.block _ h.lt (fun e => own_ne ht n89 e.symm)).trans h.x
  have n89' : ∀ cs, w'.heap[X]? ≠ some (.cells cs 89 (0, 0)) := fun cs hc => by
    rw [hx] at hc
    injection hc with hc
    injection hc with _ hc
    cases hc
  have hl : tvs.length = j := by have := ht.1; omega
  refine ⟨h.hX, set_block hx _, ⟨_, own_setCell ho n89' _, fun p u hp => ?_⟩, ?_⟩
  · rcases Nat.lt_trichotomy p tvs.length with hp' | hp' | hp'
    · rw [List.getElem?_append_left hp'] at hp
      obtain ⟨hs', h1, h2⟩ := hts p u hp
      exact ⟨hs', (h1.grown ht hg).setBox hx, h2⟩
    · subst hp'
      rw [List.getElem?_concat_length] at hp
      injection hp with hp
      subst hp
      rw [hl]
      exact ⟨hs, (hv.grown ht hg).setBox hx, hvl⟩
    · rw [List.getElem?_eq_none (by simp; omega)] at hp
      cases hp
  · have := h.lt
    have := h.hX
    exact (h.b.grown hg (by omega) (fun k hk => (ht.lt k hk).1)).setCell (by exact h.hX) _
end
def RTRel (l : List Ev) (starts : List Tl) (w0 : World) (X : Nat) (lA : Option Addr) (lc : Nat) (k : Nat) (i : Value) (wr : World) : Prop :=
  ∃ j : Nat, j ≤ starts.length ∧ i = .int .i64 j ∧ k = starts.length - j ∧ ∃ tv, RT l starts w0 X lA lc j tv wr
def RMRel (l : List Ev) (starts : List Tl) (w0 : World) (X : Nat) (lA : Option Addr) (lc : Nat) (tv : Value) (k : Nat) (i : Value) (wr : World) : Prop :=
  ∃ j : Nat, j ≤ l.length ∧ i = .int .i64 j ∧ k = l.length - j ∧ ∃ ov, RV2 l starts w0 X lA lc tv ov (refAllL l starts j) wr
def RIRel (l : List Ev) (starts : List Tl) (w0 : World) (X : Nat) (lA : Option Addr) (lc : Nat) (tv : Value) (i : Nat) (a : Ev) (k : Nat) (c : Value) (wr : World) : Prop :=
  ∃ j : Nat, j ≤ l.length ∧ c = .int .i64 j ∧ k = l.length - j ∧ ∃ ov, RV2 l starts w0 X lA lc tv ov (refAllL l starts i ++ selfL l starts i a ++ besU l starts.length i a j) wr
end Go.Proofs.Ytpnegacfanbcfaa

/- The document's judge of versions: its answer is versionsL's, sizes within the bounds; else 201. -/
namespace Go.Proofs.Ytpnegacfanbcfaa
open Go.RowKit Go.Maps

theorem bne0 {x : Int} (h : x ≠ 0) : (x != 0) = true := by simpa using h
attribute [-go_sem] loadCellsFrom
set_option maxRecDepth 100000 in
set_option maxHeartbeats 2000000 in
theorem refVersMany (l : List Ev) (starts : List Tl) (lA sA : Option Addr) (lc sc : Nat) (w : World) (hl : l.length ≤ 1048576) (hs : starts.length ≤ 1048576) (h : 1024 < l.length ∨ starts.length = 0 ∨ 64 < starts.length) :
    Calls Try.prog 19 #[.slice sA starts.length sc, .slice lA l.length lc] w (VersPost l starts w) := by
  have HP : Hid (VersPost l starts w (.returned (.tuple #[.slice none 0 0, .int .i64 201])) w) := by
    show VersPost _ _ _ _ _
    unfold VersPost
    rw [if_pos h]
    exact ⟨rfl, rfl⟩
  by_cases h1 : (1024 : Int) < (l.length : Int)
  · clear h
    go_enter Try.func19, Try.ntmps19
    go_wp2_with fail
    go_ret2
    exact HP.out
  · by_cases h2 : ((starts.length : Int) == 0) = true
    · have t4 : decide ((1024 : Int) < (l.length : Int)) = false := by simpa using h1
      clear h h1
      go_enter Try.func19, Try.ntmps19
      go_wp2_with fail
      go_ret2
      exact HP.out
    · have h2' : ((starts.length : Int) == 0) = false := by simpa using h2
      have h3 : (64 : Int) < (starts.length : Int) := by
        have : ¬ (starts.length : Int) = 0 := by simpa using h2
        omega
      have t4 : decide ((1024 : Int) < (l.length : Int)) = false := by simpa using h1
      clear h h1 h2
      go_enter Try.func19, Try.ntmps19
      go_wp2_with fail
      go_ret2
      exact HP.out

set_option maxRecDepth 100000 in
set_option maxHeartbeats 8000000 in
theorem refVersGo (l : List Ev) (starts : List Tl) (heads : List (Option Addr × Nat)) (lA sA : Option Addr) (lc sc : Nat) (w : World) (hrow : Row w lA (evCells l)) (hin : ∀ e ∈ l, e.In w) (hok : ∀ e ∈ l, e.Ok) (hsm : ∀ e ∈ l, e.Small)
    (hst : StartIn starts heads sA w) (hsl : ∀ s ∈ starts, s.length ≤ 3000) (h1 : l.length ≤ 1024) (h2 : 1 ≤ starts.length) (h3 : starts.length ≤ 64) :
    Calls Try.prog 19 #[.slice sA starts.length sc, .slice lA l.length lc] w (VersPost l starts w) := by
  have HROW := Lib.hid hrow; have HIN := Lib.hid hin; have HOK := Lib.hid hok; have HSM := Lib.hid hsm; have HST := Lib.hid hst; have HSL := Lib.hid hsl
  clear hrow hin hok hsm hst hsl
  have t1 : ((starts.length : Int) == 0) = false := by
    have : ¬ ((starts.length : Int) = 0) := by omega
    simpa using this
  have t2 : (l.length : Int) ≤ 1024 := by omega
  have t3 : (starts.length : Int) ≤ 64 := by omega
  have t4 : decide ((1024 : Int) < (l.length : Int)) = false := by simp; omega
  have t5 : decide ((64 : Int) < (starts.length : Int)) = false := by simp; omega
  go_enter Try.func19, Try.ntmps19
  go_wp2_with fail
  go_loopg [7] starts.length (fun k i wr => RTRel l starts w w.heap.size lA lc k i wr)
  case atStart => exact ⟨0, Nat.zero_le _, rfl, rfl, .slice none 0 0, Nat.le_refl _, heap_alloc_new w _, ⟨[], ⟨rfl, .inl ⟨rfl, rfl⟩⟩, fun p v hp => by simp at hp⟩, (Below.refl _ _).alloc (Nat.le_refl _) _⟩
  case round =>
    obtain ⟨j2, hj2, rfl, rfl, tv, hv2⟩ := hrel
    by_cases hlt2 : j2 < starts.length
    · obtain ⟨s, hs⟩ : ∃ s, starts[j2]? = some s := ⟨_, List.getElem?_eq_getElem hlt2⟩
      obtain ⟨h, hh⟩ : ∃ h, heads[j2]? = some h := ⟨_, List.getElem?_eq_getElem (by rw [HST.out.len]; exact hlt2)⟩
      obtain ⟨s0, soff, hsA, hsc⟩ := (HST.out.row.below hv2.b) j2 (.slice h.1 s.length h.2) (by rw [List.getElem?_map, (List.getElem?_zip_eq_some.2 ⟨hs, hh⟩ : (starts.zip heads)[j2]? = some (s, h))]; rfl)
      obtain ⟨tvs, ht, hts⟩ := hv2.t
      obtain ⟨tA, tc, htv, _, _⟩ := row_of_own ht
      subst htv
      have hltw := hv2.lt
      have k2 : wr.cell? ⟨w.heap.size, 2, none⟩ = some (.slice tA j2 tc) := cell_of_row _ _ _ _ _ _ hv2.x
      have k2p : ∀ p : BelowOf wr, p.v.cell? ⟨w.heap.size, 2, none⟩ = some (.slice tA j2 tc) := fun p => p.cell k2
      have k2q : ∀ (p : BelowOf wr) o, (p.v.alloc o).cell? ⟨w.heap.size, 2, none⟩ = some (.slice tA j2 tc) := fun p o => cell_below ((Below.refl _ _).alloc (Nat.le_refl _) o) _ _ (p.cell k2)
      have hsl2 := HSL.out s (List.mem_of_getElem? hs)
      have hsr := (HST.out.parts j2 s h hs hh).below hv2.b
      have hsn : h.1 = none → s.length = 0 := fun e => by
        rcases Nat.eq_zero_or_pos s.length with h0 | h0
        · exact h0
        · have hz : 0 < (pairCells s).length := by rw [pairCells_length]; omega
          obtain ⟨b, off, hb, _⟩ := hsr 0 _ (List.getElem?_eq_getElem hz)
          rw [e] at hb
          cases hb
      have htold : rtoldAt l starts j2 = rtold l starts.length s j2 := by simp [rtoldAt, hs]
      have HV2w := Lib.hid hv2; have HT := Lib.hid ht; have HTS := Lib.hid hts; have HSR := Lib.hid hsr; have HSL2 := Lib.hid hsl2; have HTD := Lib.hid htold; have HSN := Lib.hid hsn
      clear hs hh hv2 ht hts hsr hsl2 htold hsn
      subst hsA
      go_wp2_with fail
      go_region_law (first
        | (go_simp; go_at_call 33
           refine (refTells l starts.length w.heap.size lA lc s h.1 h.2 j2 wr.drew ((HV2w.out.below (Below.refl wr.heap.size wr).drew).hist HROW.out HIN.out) h1 HSM.out HSR.out HSN.out HSL2.out).mono ?_
           rintro e1 w1 ⟨v, hs, rfl, htl, hvl, hll, hbl⟩
           obtain ⟨vA, vc, rfl, _, _⟩ := row_of_own htl.own
           obtain ⟨p, rfl⟩ : ∃ p : BelowOf wr, w1 = p.v := ⟨⟨w1, Below.trans (Below.refl wr.heap.size wr).drew hbl⟩, rfl⟩
           have HTL := Lib.hid htl; have HVL := Lib.hid hvl
           clear htl hbl hvl hll)
        | (refine step_append_is rfl (.tmp 39) (.tmp 47) rfl elemTables rfl (base := w.heap.size) (n := j2) (xs := tvs) ((own_below HT.out (BelowOf.h _)).alloc _) _ 1 _ [.slice vA (rtold l starts.length s j2).length vc] rfl (row_new _ [.slice vA (rtold l starts.length s j2).length vc] 89) rfl (by simp [Value.oneCell']) (by unfold maxLen; omega) (by omega) (by have := BelowOf.le_alloc p (.cells #[.slice vA (rtold l starts.length s j2).length vc] 89); have := HV2w.out.b.size; omega) (fun e => by cases e) ?_
           intro v6 w6 ho6 hg6 hat6
           obtain ⟨A6, c6, rfl, _, _⟩ := row_of_own ho6
           have hva := HV2w.out.below (p.h.alloc p.h.size (.cells #[.slice vA (rtold l starts.length s j2).length vc] 89))
           have hx6 := (hg6.block _ hva.lt (fun e => own_ne ((own_below HT.out (BelowOf.h _)).alloc _) (fun cs hc => by rw [hva.x] at hc; injection hc with hc; injection hc with _ hc; cases hc) e.symm)).trans hva.x
           have y6 : w6.cell? ⟨w.heap.size, 2, none⟩ = some (.slice tA j2 tc) := cell_of_row _ _ _ _ _ _ hx6
           have yz : w6.frozen? ⟨w.heap.size, 2, none⟩ = false := frozen_block hx6
           have HFIN : Hid (RT l starts w w.heap.size lA lc (j2 + 1) (.slice A6 (j2 + 1) c6) (w6.setCell ⟨w.heap.size, 2, none⟩ (.slice A6 (j2 + 1) c6))) := by
             refine RT.append (tvs := tvs) (hs := hs) hva ((own_below HT.out (BelowOf.h _)).alloc _) (fun q u hq => ?_) ?_ ?_ hg6 ho6
             · obtain ⟨hs', hb', hb2⟩ := HTS.out q u hq
               exact ⟨hs', hb'.below (p.h.alloc p.h.size _), hb2⟩
             · rw [HTD.out]
               exact (HTL.out.base HV2w.out.b.size).below ((Below.refl _ _).alloc (Nat.le_refl _) _)
             · rw [HTD.out]
               exact HVL.out
           clear hx6 ho6 hg6 hat6 hva))
      all_goals
        go_wp2_with fail
        go_roundg (starts.length - (j2 + 1))
        case measure => omega
        case rel => exact ⟨j2 + 1, by omega, by go_num, rfl, _, HFIN.out⟩
    · have hjl : j2 = starts.length := by omega
      subst hjl
      have hr0 := hv2.two HROW.out HIN.out
      have HR0 := Lib.hid hr0
      clear hr0 hv2
      obtain ⟨wB, hwB⟩ : ∃ wB, wB = wr := ⟨_, rfl⟩
      subst hwB
      go_wp2_with fail
      go_loopg [8] l.length (fun k i wr => RMRel l starts w w.heap.size lA lc tv k i wr)
      case atStart => exact ⟨0, Nat.zero_le _, rfl, rfl, _, HR0.out⟩
      case round =>
        obtain ⟨j3, hj3, rfl, rfl, ov, hrv⟩ := hrel
        have hbn : (refAllL l starts j3).length ≤ 1575000 := by rw [refAll_length]; exact allU_le h1 hj3
        by_cases hlt3 : j3 < l.length
        · obtain ⟨a, ha⟩ : ∃ a, l[j3]? = some a := ⟨_, List.getElem?_eq_getElem hlt3⟩
          have hal := List.mem_of_getElem? ha
          obtain ⟨oA, oc, rfl, _, _⟩ := row_of_own hrv.o
          obtain ⟨N0, hN0⟩ : ∃ N0, N0 = (refAllL l starts j3).length := ⟨_, rfl⟩
          have c3 : wr.cell? ⟨w.heap.size, 3, none⟩ = some (.slice oA N0 oc) := by rw [hN0]; exact cell_of_row _ _ _ _ _ _ hrv.x
          have hltw := hrv.lt
          have HRV := Lib.hid hrv; have HA := Lib.hid ha; have HAL := Lib.hid hal; have HBN := Lib.hid hbn; have HN0 := Lib.hid hN0
          clear hrv ha hal hbn hN0
          have HSRT : Hid (∀ (ov : Value) (ch : List Blm) (w2 : World), (∀ z ∈ ch, z.at_ = (j3 : Int)) → ch.length ≤ 1000000 → RV2 l starts w w.heap.size lA lc tv ov (refAllL l starts j3 ++ ch) w2 →
              Calls Try.prog 37 #[.pointer (some ⟨w.heap.size, 0, none⟩), .int .i64 (N0 : Int)] w2 (fun e w3 => e = .returned (.tuple #[]) ∧ RV2 l starts w w.heap.size lA lc tv ov (refAllL l starts j3 ++ sortB ch) w3)) := by
            intro ov ch w2 hat hch hs2
            rw [HN0.out]
            refine (refSort w.heap.size w.heap.size _ _ tv ov (refAllL l starts j3) ch j3 w2 (Nat.le_refl _) hs2.x hs2.o hat (by have := HBN.out; rw [List.length_append]; omega) hs2.b.size).mono ?_
            rintro e w3 ⟨rfl, hk, hx, ho⟩
            exact ⟨rfl, hs2.keeps hk hx ho⟩
          have HAT : Hid (∀ z ∈ oneU l starts (a, j3), z.at_ = (j3 : Int)) := fun z hz => oneU_at l starts (a, j3) z hz
          have HCL : Hid ((oneU l starts (a, j3)).length ≤ 1000000) := by
            have e1 := selfL_length l starts j3 a
            have e2 := besU_length l starts.length j3 a l.length (Nat.le_refl _)
            have e3 : ((if goneB starts.length a = true then besU l starts.length j3 a l.length else []) : List Blm).length ≤ 2048 := by
              split
              · omega
              · simp
            show (selfL l starts j3 a ++ _).length ≤ _
            rw [List.length_append]
            exact Nat.le_trans (Nat.add_le_add e1 e3) (by decide)
          cases hg : goneB starts.length a with
          | false =>
            have HG := Lib.hid hg
            have HONE : Hid (oneU l starts (a, j3) = selfL l starts j3 a) := by show _ = _; unfold oneU; rw [if_neg (by rw [hg]; decide), List.append_nil]
            clear hg
            go_wp2_with (first
              | (go_at_call 34; refine (refSelf l starts w w.heap.size lA lc tv _ (refAllL l starts j3) j3 a _ HRV.out (by have := HBN.out; omega) HA.out h1 h3 HSM.out (HOK.out a HAL.out)).mono ?_; rintro e1 w1 ⟨rfl, hk1, ov1, hs1⟩; rw [HG.out]; rw [← HONE.out] at hs1; have HS1 := Lib.hid hs1; clear hk1 hs1)
              | (go_at_call 37; refine (HSRT.out _ _ _ HAT.out HCL.out HS1.out).mono ?_; rintro e2 w2 ⟨rfl, hs2⟩; have HS2 := Lib.hid hs2; clear hs2))
            go_roundg (l.length - (j3 + 1))
            case measure => omega
            case rel => exact ⟨j3 + 1, by omega, by go_num, rfl, _, by rw [refAll_succ HA.out]; exact HS2.out⟩
          | true =>
            have HG := Lib.hid hg
            have HONE : Hid (oneU l starts (a, j3) = selfL l starts j3 a ++ besU l starts.length j3 a l.length) := by show _ = _; unfold oneU; rw [if_pos hg]
            have hra : isB a starts.length = true := by unfold goneB at hg; rw [Bool.and_eq_true] at hg; exact hg.1
            have hea : a.end_ ≠ 0 := by unfold goneB at hg; rw [Bool.and_eq_true] at hg; simpa using hg.2
            have HRA := Lib.hid hra; have HEA := Lib.hid hea
            clear hg hra hea
            go_wp2_with (go_at_call 34; refine (refSelf l starts w w.heap.size lA lc tv _ (refAllL l starts j3) j3 a _ HRV.out (by have := HBN.out; omega) HA.out h1 h3 HSM.out (HOK.out a HAL.out)).mono ?_; rintro e1 w1 ⟨rfl, hk1, ov1, hs1⟩; rw [HG.out]; have HS1 := Lib.hid hs1; clear hk1 hs1)
            obtain ⟨wC, hwC⟩ : ∃ wC, wC = w1 := ⟨_, rfl⟩
            subst hwC
            go_loopg [10] l.length (fun k i wr => RIRel l starts w w.heap.size lA lc tv j3 a k i wr)
            case atStart => exact ⟨0, Nat.zero_le _, rfl, rfl, ov1, by simpa [besU] using HS1.out⟩
            case round =>
              obtain ⟨k4, hk4, rfl, rfl, ov4, hs4⟩ := hrel
              have hbn2 := besU_length l starts.length j3 a k4 hk4
              have hbn3 := selfL_length l starts j3 a
              have HB3 : Hid ((refAllL l starts j3 ++ selfL l starts j3 a ++ besU l starts.length j3 a k4).length ≤ 2000000) := by
                show _ ≤ _
                have := HBN.out
                rw [List.length_append, List.length_append]
                omega
              clear hbn2 hbn3
              by_cases hlt4 : k4 < l.length
              · obtain ⟨b, hb⟩ : ∃ b, l[k4]? = some b := ⟨_, List.getElem?_eq_getElem hlt4⟩
                have hbl := List.mem_of_getElem? hb
                obtain ⟨b0, off, hbA, hld⟩ := load_ev hs4.hist.row hb
                have hib := (HIN.out b hbl).below hs4.b
                have hle : ∀ w5, Below wr.heap.size wr w5 → w5.cell? ⟨b0, off + k4 * 13 + 2, none⟩ = some (.int .i64 b.end_) := fun w5 h5 => ((HROW.out.below hs4.b).below h5).evEnd hb _ _ hbA
                have HS4 := Lib.hid hs4; have HB := Lib.hid hb; have HBL := Lib.hid hbl; have HIB := Lib.hid hib; have HLE := Lib.hid hle
                clear hs4 hb hbl hib hle
                subst hbA
                unfold Ev.arr at hld
                by_cases hkj : k4 = j3
                · have hne' : ((k4 : Int) != (j3 : Int)) = false := by simp [hkj]
                  have HKJ := Lib.hid hkj
                  clear hkj
                  go_wp2_with fail
                  go_roundg (l.length - (k4 + 1))
                  case measure => omega
                  case rel =>
                    refine ⟨k4 + 1, by omega, by go_num, rfl, ov4, ?_⟩
                    have hbk : besideK starts.length j3 a (b, k4) = [] := by simp [besideK, HKJ.out]
                    rw [besU_succ HB.out, hbk, List.append_nil]
                    exact HS4.out
                · have hne' : ((k4 : Int) != (j3 : Int)) = true := by
                    have h' : ¬ (k4 : Int) = j3 := by omega
                    simp [h']
                  have HKJ := Lib.hid hkj
                  clear hkj
                  cases hbb : isB b starts.length with
                  | false =>
                    have HBB := Lib.hid hbb
                    clear hbb
                    go_wp2_with (go_at_call 35; refine (refIs b starts.length w.heap.size _ HS4.out.hist.p (HSM.out b HBL.out).1 HIB.out).mono ?_; rintro e5 w5 ⟨rfl, hb5⟩; rw [HBB.out]; have HB5 := Lib.hid hb5; clear hb5)
                    go_roundg (l.length - (k4 + 1))
                    case measure => omega
                    case rel =>
                      refine ⟨k4 + 1, by omega, by go_num, rfl, ov4, ?_⟩
                      have hbk : besideK starts.length j3 a (b, k4) = [] := by simp [besideK, goneB, HBB.out]
                      rw [besU_succ HB.out, hbk, List.append_nil]
                      exact HS4.out.below HB5.out
                  | true =>
                    have HBB := Lib.hid hbb
                    clear hbb
                    by_cases hbe : b.end_ = 0
                    · have hbe' : (b.end_ != 0) = false := by simpa using hbe
                      have HBE := Lib.hid hbe
                      clear hbe
                      go_wp2_with (go_at_call 35; refine (refIs b starts.length w.heap.size _ HS4.out.hist.p (HSM.out b HBL.out).1 HIB.out).mono ?_; rintro e5 w5 ⟨rfl, hb5⟩; rw [HBB.out]; have hle5 := HLE.out _ hb5; have HB5 := Lib.hid hb5; clear hb5)
                      go_roundg (l.length - (k4 + 1))
                      case measure => omega
                      case rel =>
                        refine ⟨k4 + 1, by omega, by go_num, rfl, ov4, ?_⟩
                        have hbk : besideK starts.length j3 a (b, k4) = [] := by simp [besideK, goneB, HBE.out]
                        rw [besU_succ HB.out, hbk, List.append_nil]
                        exact HS4.out.below HB5.out
                    · have hbe' : (b.end_ != 0) = true := by simpa using hbe
                      have HBE := Lib.hid hbe
                      clear hbe
                      go_wp2_with (first
                        | (go_at_call 35; refine (refIs b starts.length w.heap.size _ HS4.out.hist.p (HSM.out b HBL.out).1 HIB.out).mono ?_; rintro e5 w5 ⟨rfl, hb5⟩; rw [HBB.out]; have hle5 := HLE.out _ hb5; have HB5 := Lib.hid hb5; clear hb5)
                        | (go_at_call 36; refine (refPair l starts w w.heap.size _ lc tv ov4 _ j3 k4 a b _ (HS4.out.below HB5.out) HB3.out HA.out HB.out h1 (HSM.out a HAL.out) HRA.out HBB.out HEA.out HBE.out).mono ?_; rintro e6 w6 ⟨rfl, hk6, ov6, hs6⟩; have HS6 := Lib.hid hs6; clear hk6 hs6))
                      go_roundg (l.length - (k4 + 1))
                      case measure => omega
                      case rel =>
                        refine ⟨k4 + 1, by omega, by go_num, rfl, ov6, ?_⟩
                        have hbk : besideK starts.length j3 a (b, k4) = besideL j3 k4 a b := by simp [besideK, HKJ.out, goneB, HBB.out, HBE.out]
                        rw [besU_succ HB.out, hbk, ← List.append_assoc]
                        exact HS6.out
              · have hkl : k4 = l.length := by omega
                subst hkl
                rw [List.append_assoc, ← HONE.out] at hs4
                have HS4 := Lib.hid hs4
                clear hs4
                go_wp2_with (go_at_call 37; refine (HSRT.out _ _ _ HAT.out HCL.out HS4.out).mono ?_; rintro e2 w2 ⟨rfl, hs2⟩; have HS2 := Lib.hid hs2; clear hs2)
                go_roundg (l.length - (j3 + 1))
                case measure => omega
                case rel => exact ⟨j3 + 1, by omega, by go_num, rfl, _, by rw [refAll_succ HA.out]; exact HS2.out⟩
        · have hjl : j3 = l.length := by omega
          subst hjl
          obtain ⟨oA, oc, rfl, _, _⟩ := row_of_own hrv.o
          have c3 : wr.cell? ⟨w.heap.size, 3, none⟩ = some (.slice oA (refAllL l starts l.length).length oc) := cell_of_row _ _ _ _ _ _ hrv.x
          have hltw := hrv.lt
          have HRV := Lib.hid hrv
          clear hrv hbn
          go_wp2_with fail
          go_ret2
          have hcond : ¬ (1024 < l.length ∨ starts.length = 0 ∨ 64 < starts.length) := by omega
          unfold VersPost
          rw [if_neg hcond, ← refAll_is]
          exact ⟨_, rfl, HRV.out.o, HRV.out.b⟩
end Go.Proofs.Ytpnegacfanbcfaa
