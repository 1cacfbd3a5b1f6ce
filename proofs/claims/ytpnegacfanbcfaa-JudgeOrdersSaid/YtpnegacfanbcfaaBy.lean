/- by: what it answers is a row of the call's own, of places. -/
import Derived.Test.YtpnegacfanbcfaaOrderParts
import Derived.Test.YtpnegacfanbcfaaClone
import Derived.BigRegion
import Derived.Deep.DeepCutAuto
import Derived.Deep.LoopGhost
import Derived.Deep.RegionLaw
import Derived.Deep.RegionWith
import Derived.RegionTactic
namespace Go.Proofs.Ytpnegacfanbcfaa
open Go.RowKit

/-- places under n. -/
def PlacesIn (n : Nat) (xs : List Value) : Prop := ∀ u ∈ xs, ∃ k : Nat, u = .int .i64 (k : Int) ∧ k < n
theorem PlacesIn.snoc {n : Nat} {xs : List Value} (h : PlacesIn n xs) {k : Nat} (hk : k < n) : PlacesIn n (xs ++ [.int .i64 (k : Int)]) := by
  intro u hu
  rcases List.mem_append.1 hu with hu | hu
  · exact h u hu
  · exact ⟨k, by simpa using hu, hk⟩
theorem PlacesIn.set {n : Nat} {xs : List Value} (h : PlacesIn n xs) {k : Nat} (hk : k < n) (j : Nat) : PlacesIn n (xs.set j (.int .i64 (k : Int))) := by
  intro u hu
  rcases List.mem_or_eq_of_mem_set hu with hu | hu
  · exact h u hu
  · exact ⟨k, hu, hk⟩

/-- by's row so far. -/
structure ByAt (n : Nat) (w : World) (v : Value) (m : Nat) (wr : World) : Prop where
  own : ∃ xs, wr.ownsRow w.heap.size 3 1 v m xs ∧ PlacesIn n xs
  b : Below w.heap.size w wr
def ByRel (n : Nat) (w : World) (k : Nat) (v i : Value) (wr : World) : Prop :=
  ∃ j m : Nat, j ≤ n ∧ m ≤ j ∧ i = .int .i64 (j : Int) ∧ k = n - j ∧ ByAt n w v m wr
def ByIn (n : Nat) (w : World) (v : Value) (m : Nat) (k : Nat) (i : Value) (wr : World) : Prop :=
  ∃ q : Nat, q ≤ m ∧ i = .int .i64 (q : Int) ∧ k = q ∧ ByAt n w v (m + 1) wr
theorem ByAt.append {n : Nat} {w wr w2 : World} {v v2 : Value} {m : Nat} {o : Obj} (h : ByAt n w v m wr) (hg : (wr.alloc o).grownBy w2 v.ownBlock) {xs : List Value} {k : Nat} (hk : k < n)
    (hp : PlacesIn n xs) (ho : w2.ownsRow w.heap.size 3 1 v2 (m + 1) (xs ++ [.int .i64 (k : Int)])) : ByAt n w v2 (m + 1) w2 := by
  obtain ⟨ys, hy, _⟩ := h.own
  have hs := h.b.size
  refine ⟨⟨_, ho, hp.snoc hk⟩, (h.b.alloc hs o).grown hg (by simp; omega) (fun k e => (hy.lt k e).1)⟩

theorem ByAt.store {n : Nat} {w wr : World} {g m c : Nat} (h : ByAt n w (.slice (some ⟨g, 0, none⟩) m c) m wr) {k : Nat} (hk : k < n) (j : Nat) : ByAt n w (.slice (some ⟨g, 0, none⟩) m c) m (wr.setCell ⟨g, j, none⟩ (.int .i64 (k : Int))) := by
  obtain ⟨xs, hx, hp⟩ := h.own
  have hg := (hx.lt g rfl).1
  exact ⟨⟨_, (hx.stored j _).1, hp.set hk j⟩, h.b.setCell (by show w.heap.size ≤ g; omega) _⟩
theorem ByAt.drew {n : Nat} {w wr : World} {v : Value} {m : Nat} (h : ByAt n w v m wr) : ByAt n w v m wr.drew := ⟨h.own, h.b.drew⟩
theorem ByAt.drewN {n : Nat} {w wr : World} {v : Value} {m : Nat} (h : ByAt n w v m wr) (k : Nat) : ByAt n w v m (wr.drewN k) := ⟨h.own, below_drewN h.b k⟩
theorem ByAt.get {n : Nat} {w wr : World} {g m c : Nat} (h : ByAt n w (.slice (some ⟨g, 0, none⟩) m c) m wr) {q : Nat} (hq : q < m) : ∃ k : Nat, k < n ∧ wr.cell? ⟨g, q, none⟩ = some (.int .i64 (k : Int)) := by
  obtain ⟨xs, hx, hp⟩ := h.own
  have hc := hx.cellAt q (by omega)
  have hl := hx.1
  have hq' : q < xs.length := by omega
  rw [List.getElem?_eq_getElem hq'] at hc
  obtain ⟨k, hk, hkn⟩ := hp _ (List.getElem_mem hq')
  rw [hk] at hc
  exact ⟨k, hkn, hc⟩
theorem ByAt.frozen {n : Nat} {w wr : World} {g m c : Nat} (h : ByAt n w (.slice (some ⟨g, 0, none⟩) m c) m wr) (q : Nat) : wr.frozen? ⟨g, q, none⟩ = false := by
  obtain ⟨xs, hx, hp⟩ := h.own
  exact hx.frozenAt q
theorem wrap_pred (q : Nat) (h : q < 4096) : IntKind.i64.wrap (((q + 1 : Nat) : Int) - 1) = (q : Int) := by rw [IntWalk.i64_in _ (by omega)]; omega

set_option maxRecDepth 100000 in
set_option maxHeartbeats 2000000 in
theorem by_walk (l : List Deed) (lA : Option Addr) (lc : Nat) (en : Bool) (w : World) (hrl : Row w lA (deedCells l)) (hlen : l.length ≤ 64) :
    Calls Try.prog 15 #[.slice lA l.length lc, .bool en] w fun e w' => Below w.heap.size w w' ∧ ∃ v m xs, e = .returned v ∧ m ≤ l.length ∧ w'.ownsRow w.heap.size 3 1 v m xs ∧ PlacesIn l.length xs := by
  have HRL := Lib.hid hrl
  clear hrl
  go_enter Try.func15, Try.ntmps15
  go_wp2_with fail
  go_loopg [5, 6] l.length (fun k v i wr => ByRel l.length w k v i wr)
  case atStart => exact ⟨0, 0, Nat.zero_le _, Nat.le_refl _, rfl, rfl, ⟨[], ⟨rfl, .inl ⟨rfl, rfl⟩⟩, fun u hu => by cases hu⟩, Below.refl _ _⟩
  case round =>
    obtain ⟨j, m, hj, hm, rfl, rfl, hb⟩ := hrel
    obtain ⟨wo, hwo⟩ : ∃ wo : World, wo = wr := ⟨_, rfl⟩
    subst hwo
    by_cases hlt : j < l.length
    · obtain ⟨d, hd⟩ : ∃ d, l[j]? = some d := ⟨_, List.getElem?_eq_getElem hlt⟩
      obtain ⟨lb, loff, hA, f0, f1, _⟩ := (HRL.out.below hb.b).deed hd
      obtain ⟨xs, hxs, hxp⟩ := hb.own
      obtain ⟨A, c, rfl, _, _⟩ := row_of_own hxs
      have hbs := hb.b.size
      have HB := Lib.hid hb; have HD := Lib.hid hd; have HXS := Lib.hid hxs; have HXP := Lib.hid hxp
      clear hb hd hxs hxp
      subst hA
      by_cases he : d.end_ = 0
      · have he' : (d.end_ == 0) = true := by simp [he]
        clear he
        go_wp2_with fail
        go_roundg (l.length - (j + 1))
        case measure => omega
        case rel => exact ⟨j + 1, m, by omega, by omega, by go_num, rfl, HB.out⟩
      · have he' : (d.end_ == 0) = false := by simpa using he
        clear he
        go_wp2_with (at_builtin; go_loud (refine wpList_append_is rfl (.tmp 22) (.tmp 24) rfl elemInt rfl (HXS.out.alloc (.cells #[.int .i64 (j : Int)] 3)) _ 1 _ [.int .i64 (j : Int)] rfl (row_one (cell_new _ _ _)) rfl (by simp [Value.oneCell']) (by unfold maxLen; omega) (by omega) (by simp; omega) (fun e => by cases e) ?_)
                     intro v2 w2 ho2 hg2 hat2
                     have hb2 := HB.out.append hg2 hlt HXP.out ho2
                     obtain ⟨A2, c2, rfl, _, hnn⟩ := row_of_own ho2
                     obtain ⟨g, rfl⟩ : ∃ g, A2 = some ⟨g, 0, none⟩ := by
                       rcases ho2.2 with ⟨_, h0⟩ | ⟨g, _, _, h0, _⟩
                       · omega
                       · injection h0 with h0
                         exact ⟨g, h0⟩
                     have HB2 := Lib.hid hb2
                     clear hb2 ho2 hg2 hat2 hnn)
        have hml : m < 64 := by omega
        go_loopg [7] m (fun k i wr => ByIn l.length w (.slice (some ⟨g, 0, none⟩) (m + 1) c2) m k i wr)
        case atStart => exact ⟨m, Nat.le_refl _, rfl, rfl, HB2.out⟩
        case round =>
          obtain ⟨q, hq, rfl, hkq, hb3⟩ := hrel
          have hzq := hb3.frozen q
          obtain ⟨wi, hwi⟩ : ∃ wi : World, wi = wr := ⟨_, rfl⟩
          subst hwi
          have HB3 := Lib.hid hb3
          obtain ⟨lb', loff', hA', e0, e1, _⟩ := (HRL.out.below hb3.b).deed HD.out
          injection hA' with hA'
          injection hA' with hA1 hA2
          subst hA1 hA2
          by_cases hq0 : q = 0
          · obtain ⟨k0, _, hcz⟩ := hb3.get (q := q) (by omega)
            subst hq0
            have hg0 : decide ((0 : Int) < 0) = false := rfl
            clear hb3
            go_wp2_with fail
            go_quiet (fail)
            go_wp2_with fail
            go_roundg (l.length - (j + 1))
            case measure => omega
            case rel => exact ⟨j + 1, m + 1, by omega, by omega, by go_num, rfl, (HB3.out.drewN _).store hlt 0⟩
          · obtain ⟨q', hq'⟩ : ∃ q', q = q' + 1 := ⟨q - 1, by omega⟩
            have hg0 : decide (0 < q) = true := by simp; omega
            obtain ⟨k, hk, hcq⟩ := hb3.get (q := q') (by omega)
            obtain ⟨dk, hdk⟩ : ∃ d, l[k]? = some d := ⟨_, List.getElem?_eq_getElem hk⟩
            obtain ⟨lb', loff', hA', k0, k1, _⟩ := (HRL.out.below hb3.b).deed hdk
            injection hA' with hA'
            injection hA' with hA1 hA2
            subst hA1 hA2
            have hw : IntKind.i64.wrap ((q : Int) - 1) = (q' : Int) := by rw [IntWalk.i64_in _ (by omega)]; omega
            have hqm : q' < m + 1 := by omega
            have HQ := Lib.hid hq'; have HKQ := Lib.hid hkq
            obtain ⟨k9, _, hcz⟩ := hb3.get (q := q) (by omega)
            clear hb3 hdk hq' hkq
            cases en
            · by_cases hc : d.begin_ < dk.begin_
              · have hc' : decide (d.begin_ < dk.begin_) = true := by simpa using hc
                clear hc
                go_wp2_with fail
                go_quiet (fail)
                go_wp2_with fail
                go_roundg q'
                case measure => have := HQ.out; have := HKQ.out; omega
                case rel => exact ⟨q', by omega, by have := HQ.out; go_num, rfl, (HB3.out.drewN _).store hk q⟩
              · have hc' : decide (d.begin_ < dk.begin_) = false := by simpa using hc
                clear hc
                go_wp2_with fail
                go_quiet (fail)
                go_wp2_with fail
                go_roundg (l.length - (j + 1))
                case measure => omega
                case rel => exact ⟨j + 1, m + 1, by omega, by omega, by go_num, rfl, (HB3.out.drewN _).store hlt q⟩
            · by_cases hc : d.end_ < dk.end_
              · have hc' : decide (d.end_ < dk.end_) = true := by simpa using hc
                clear hc
                go_wp2_with fail
                go_quiet (fail)
                go_wp2_with fail
                go_roundg q'
                case measure => have := HQ.out; have := HKQ.out; omega
                case rel => exact ⟨q', by omega, by have := HQ.out; go_num, rfl, (HB3.out.drewN _).store hk q⟩
              · have hc' : decide (d.end_ < dk.end_) = false := by simpa using hc
                clear hc
                go_wp2_with fail
                go_quiet (fail)
                go_wp2_with fail
                go_roundg (l.length - (j + 1))
                case measure => omega
                case rel => exact ⟨j + 1, m + 1, by omega, by omega, by go_num, rfl, (HB3.out.drewN _).store hlt q⟩
    · go_wp2_with fail
      go_ret
      obtain ⟨xs, hx, hp⟩ := hb.own
      exact ⟨hb.b, _, _, _, rfl, by omega, hx, hp⟩
end Go.Proofs.Ytpnegacfanbcfaa
