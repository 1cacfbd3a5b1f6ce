/- fits: it answers fitsGo, where each deed is of a cell that there is. -/
import Derived.Test.YtpnegacfanbcfaaBy
import Derived.Test.YtpnegacfanbcfaaFitsP
import Derived.Deep.CutBlock
namespace Go.Proofs.Ytpnegacfanbcfaa
open Go.RowKit

def bools (l : List Bool) : List Value := l.map (.bool ·)
def nums (l : List Int) : List Value := l.map (.int .i64 ·)
theorem elemBools : ElemOk Try.prog 82 4 1 1 := elemOk_of (by kernel_rfl) (by decide) (.bool false) (by kernel_rfl) rfl
theorem make_falses (n : Nat) (hn : n ≤ 64) : ∃ Z : Array Value, Z.size = n ∧ Z.toList = bools (List.replicate n false) ∧ ∀ w : World, (Instr.makeSlice 82 (.int .i64 (n : Int)) (.int .i64 (n : Int))).run Try.prog w = .ok (.slice (some ⟨w.heap.size, 0, none⟩) n n) (w.alloc (.cells Z 4)) := by
  obtain ⟨ht, hs, i, z, hi, hz, h2, h3, h4⟩ := elemBools
  have hz' : z = .bool false := by
    have h : (Try.prog.info? 4).bind (fun i => i.zero) = some (.bool false) := by kernel_rfl
    rw [hi] at h
    simp only [Option.bind_some] at h
    rw [hz] at h
    injection h
  subst hz'
  refine ⟨madeCells (Value.bool false).cells (n * 1), by simp [size_madeCells], ?_, fun w => ?_⟩
  · simp [madeCells, bools, Value.cells, Nat.mod_one]
    apply List.ext_getElem?
    intro j
    by_cases hj : j < n <;> simp [hj]
  · have := run_makeSlice (P := Try.prog) (w := w) 82 4 i (.bool false) ht hi hz .i64 .i64 (n : Int) (n : Int) (by omega) (Int.le_refl _) (by rw [h2]; simp; omega) (by rw [h3]; omega) (by omega)
    rw [h2] at this
    simpa using this

/-- the two rows of fits. -/
structure FSt (n m g p cc : Nat) (w : World) (inn : List Bool) (cells : List Int) (wr : World) : Prop where
  c : wr.ownsRow w.heap.size 3 1 (.slice (some ⟨g, 0, none⟩) m cc) m (nums cells)
  i : wr.ownsRow w.heap.size 4 1 (.slice (some ⟨p, 0, none⟩) n n) n (bools inn)
  b : Below w.heap.size w wr
variable {n m g p cc : Nat} {w wr wr' : World} {inn : List Bool} {cells : List Int}
theorem FSt.below (h : FSt n m g p cc w inn cells wr) (hb : Below wr.heap.size wr wr') : FSt n m g p cc w inn cells wr' :=
  ⟨own_below h.c hb, own_below h.i hb, h.b.trans (hb.mono h.b.size)⟩
theorem FSt.lens (h : FSt n m g p cc w inn cells wr) : inn.length = n ∧ cells.length = m := by
  have h1 := h.c.1
  have h2 := h.i.1
  simp [nums, bools] at h1 h2
  exact ⟨h2, h1⟩
theorem FSt.cell (h : FSt n m g p cc w inn cells wr) {a : Nat} (ha : a < m) : wr.cell? ⟨g, a, none⟩ = some (.int .i64 (cells.getD a 0)) := by
  rw [h.c.cellAt a (by omega)]
  have := h.lens.2
  simp [nums, List.getD, show a < cells.length by omega]
theorem FSt.bit (h : FSt n m g p cc w inn cells wr) {a : Nat} (ha : a < n) : wr.cell? ⟨p, a, none⟩ = some (.bool (inn.getD a false)) := by
  rw [h.i.cellAt a (by omega)]
  have := h.lens.1
  simp [bools, List.getD, show a < inn.length by omega]
theorem FSt.setBit (h : FSt n m g p cc w inn cells wr) (k : Nat) : FSt n m g p cc w (inn.set k true) cells (wr.setCell ⟨p, k, none⟩ (.bool true)) := by
  have hs := h.i.stored k (.bool true)
  obtain ⟨cs, hc⟩ := own_block_cells h.i (g := p) rfl
  have hg := (h.i.lt p rfl).1
  refine ⟨own_setCell h.c (fun cs' hc' => by rw [hc] at hc'; injection hc' with hc'; injection hc' with _ hc'; cases hc') _, ?_, h.b.setCell (by show w.heap.size ≤ p; omega) _⟩
  have := hs.1
  rwa [show (bools inn).set k (.bool true) = bools (inn.set k true) by simp [bools, List.map_set]] at this
theorem FSt.setCell (h : FSt n m g p cc w inn cells wr) (a : Nat) (v : Int) : FSt n m g p cc w inn (cells.set a v) (wr.setCell ⟨g, a, none⟩ (.int .i64 v)) := by
  have hs := h.c.stored a (.int .i64 v)
  obtain ⟨cs, hc⟩ := own_block_cells h.c (g := g) rfl
  have hg := (h.c.lt g rfl).1
  refine ⟨?_, own_setCell h.i (fun cs' hc' => by rw [hc] at hc'; injection hc' with hc'; injection hc' with _ hc'; cases hc') _, h.b.setCell (by show w.heap.size ≤ g; omega) _⟩
  have := hs.1
  rwa [show (nums cells).set a (.int .i64 v) = nums (cells.set a v) by simp [nums, List.map_set]] at this

def FitRel (l : List Deed) (first : List Int) (order : List Int) (g p cc : Nat) (w : World) (k : Nat) (i : Value) (wr : World) : Prop :=
  ∃ (j : Nat) (inn : List Bool) (cells : List Int), j ≤ order.length ∧ i = .int .i64 (j : Int) ∧ k = order.length - j ∧ fitsGo l order (List.replicate l.length false) first = fitsGo l (order.drop j) inn cells ∧ FSt l.length first.length g p cc w inn cells wr
def FreeRel (l : List Deed) (first : List Int) (b : Int) (inn : List Bool) (cells : List Int) (g p cc : Nat) (w : World) (k : Nat) (i : Value) (wr : World) : Prop :=
  ∃ j : Nat, j ≤ l.length ∧ i = .int .i64 (j : Int) ∧ k = l.length - j ∧ (∀ j' e, j' < j → l[j']? = some e → (inn.getD j' false || !aheadB e.end_ b) = true) ∧ FSt l.length first.length g p cc w inn cells wr
def DoneRel (l : List Deed) (first : List Int) (inn : List Bool) (cells : List Int) (g p cc : Nat) (w : World) (k : Nat) (i : Value) (wr : World) : Prop :=
  ∃ j : Nat, j ≤ l.length ∧ i = .int .i64 (j : Int) ∧ k = l.length - j ∧ (∀ j' e, j' < j → l[j']? = some e → (decide (e.end_ = 0) || inn.getD j' false) = true) ∧ FSt l.length first.length g p cc w inn cells wr

theorem drop_cons' {α : Type} {l : List α} {j : Nat} {k : α} (h : l[j]? = some k) : l.drop j = k :: l.drop (j + 1) := by
  obtain ⟨hj, rfl⟩ := List.getElem?_eq_some_iff.1 h
  exact List.drop_eq_getElem_cons hj

theorem fits_at {l : List Deed} {kn : Nat} {d : Deed} {o : List Int} (hb : inn.getD kn false = false) (hd : l[kn]? = some d) :
    fitsGo l ((kn : Int) :: o) inn cells = (freeL l inn d.begin_ && (doesOk d (cells.getD d.a.toNat 0) && fitsGo l o (inn.set kn true) (cells.set d.a.toNat (doesNext d (cells.getD d.a.toNat 0))))) := by
  rw [fitsGo, if_pos ⟨by omega, by rw [Int.toNat_natCast]; exact hb⟩]
  simp only [Int.toNat_natCast, hd]
theorem free_no {l : List Deed} {b : Int} {j : Nat} {e : Deed} (he : l[j]? = some e) (hb : inn.getD j false = false) (ha : aheadB e.end_ b = true) : freeL l inn b = false := by
  rw [Bool.eq_false_iff]
  intro h
  unfold freeL at h
  rw [List.all_eq_true] at h
  have := h (e, j) (List.mem_zipIdx_iff_getElem?.2 he)
  simp only [hb, ha] at this
  cases this
/-- behind the switch. -/
def DoneSw (l : List Deed) (first : List Int) (d : Deed) (v : Int) (inn : List Bool) (cells : List Int) (g p cc P : Nat) (w : World) (nx n ok : Value) (wc : World) : Prop :=
  nx = .int .i64 (doesNext d v) ∧ n = .int .i64 (doesN d v) ∧ ok = .bool (doesIs d v) ∧ wc.heap[P]? = some (.cells d.arr 27 (0, 0)) ∧ FSt l.length first.length g p cc w inn cells wc

attribute [-go_sem] loadCellsFrom

set_option maxRecDepth 100000 in
set_option maxHeartbeats 3000000 in
theorem fits_walk (first : List Int) (l : List Deed) (order : List Int) (fA lA oA : Option Addr) (fc lc oc : Nat) (w : World) (hrf : Row w fA (nums first)) (hrl : Row w lA (deedCells l)) (hro : Row w oA (nums order))
    (hf0 : fA = none → first.length = 0) (h1 : 1 ≤ first.length) (h256 : first.length ≤ 256) (h64 : l.length ≤ 64) (ho64 : order.length ≤ 64) (ha : ∀ d ∈ l, 0 ≤ d.a ∧ d.a < first.length) :
    Calls Try.prog 14 #[.slice fA first.length fc, .slice lA l.length lc, .slice oA order.length oc] w fun e w' => e = .returned (.bool (fitsGo l order (List.replicate l.length false) first)) ∧ Below w.heap.size w w' := by
  have HRF := Lib.hid hrf; have HRL := Lib.hid hrl; have HRO := Lib.hid hro; have HA := Lib.hid ha
  obtain ⟨Z, hZ1, hZ2, hmk⟩ := make_falses l.length h64
  have HZ1 := Lib.hid hZ1; have HZ2 := Lib.hid hZ2
  clear hrf hrl hro ha hZ1 hZ2
  go_enter Try.func14, Try.ntmps14
  go_wp2_with (at_builtin; refine wpList_append_is rfl (.const (.slice none 0 0)) (.tmp 18) rfl elemInt rfl (World.ownsRow_nil w w.heap.size 3 1) fA first.length fc (nums first) rfl HRF.out (by simp [nums]) (by intro u hu; obtain ⟨x, _, rfl⟩ := List.mem_map.1 hu; rfl) (by unfold maxLen; omega) (by omega) (Nat.le_refl _) hf0 ?_
               intro v1 w1 ho1 hg1 hat1
               simp only [Nat.zero_add, List.nil_append] at ho1
               obtain ⟨A1, cc, rfl, _, hn1⟩ := row_of_own ho1
               obtain ⟨g, rfl⟩ : ∃ g, A1 = some ⟨g, 0, none⟩ := by
                 rcases ho1.2 with ⟨_, h0⟩ | ⟨g, _, _, h0, _⟩
                 · omega
                 · injection h0 with h0
                   exact ⟨g, h0⟩
               have hbw1 : Below w.heap.size w w1 := (Below.refl _ _).grown hg1 (Nat.le_refl _) (fun k hk => by cases hk)
               have HO1 := Lib.hid ho1; have HBW1 := Lib.hid hbw1
               clear ho1 hg1 hat1 hn1 hbw1)
  have hst0 : FSt l.length first.length g w1.heap.size cc w (List.replicate l.length false) first (w1.alloc (.cells Z 4)) := by
    have hsz := HBW1.out.size
    refine ⟨HO1.out.alloc _, ?_, HBW1.out.alloc hsz _⟩
    have := World.ownsRow_lit (base := w.heap.size) (e := 4) (size := 1) w1 Z l.length hsz (by unfold maxLen; omega) (by rw [HZ1.out]; omega)
    rwa [HZ2.out] at this
  obtain ⟨p, hp⟩ : ∃ p, p = w1.heap.size := ⟨_, rfl⟩
  rw [← hp] at hst0 ⊢
  have HS0 := Lib.hid hst0
  clear hst0 hmk
  go_loopg [9] order.length (fun k i wr => FitRel l first order g p cc w k i wr)
  case atStart => exact ⟨0, _, _, Nat.zero_le _, rfl, rfl, by rw [List.drop_zero], HS0.out⟩
  case round =>
    obtain ⟨j, inn, cells, hj, rfl, rfl, hfg, hst⟩ := hrel
    clear hp HS0 HO1 HBW1
    obtain ⟨wo, hwo⟩ : ∃ wo : World, wo = wr := ⟨_, rfl⟩
    subst hwo
    have HST := Lib.hid hst; have HFG := Lib.hid hfg
    by_cases hlt : j < order.length
    · obtain ⟨k, hk⟩ : ∃ k, order[j]? = some k := ⟨_, List.getElem?_eq_getElem hlt⟩
      obtain ⟨ob, ooff, hoA, hok⟩ := HRO.out.below hst.b j (.int .i64 k) (by simp [nums, hk])
      have HFG2 : Hid (fitsGo l (order.drop j) inn cells = fitsGo l (k :: order.drop (j + 1)) inn cells) := by
        show _ = _
        rw [drop_cons' hk]
      have hoA' := hoA
      subst hoA
      clear hst hfg hk
      by_cases hk0 : k < 0
      · have hk0' : decide (k < 0) = true := by simpa using hk0
        have HNO : Hid (fitsGo l (k :: order.drop (j + 1)) inn cells = false) := by
          show _ = _
          unfold fitsGo
          rw [if_neg (by omega)]
        clear hk0
        go_wp2_with fail
        go_ret
        exact ⟨(by rw [HFG.out, HFG2.out, HNO.out]; rfl), HST.out.b⟩
      · obtain ⟨kn, rfl⟩ : ∃ kn : Nat, k = (kn : Int) := ⟨k.toNat, by omega⟩
        clear hk0
        by_cases hkl : kn < l.length
        · have hbit := HST.out.bit hkl
          have hkl' : decide (l.length ≤ kn) = false := by simpa using hkl
          by_cases hin : inn.getD kn false = true
          · have HNO : Hid (fitsGo l ((kn : Int) :: order.drop (j + 1)) inn cells = false) := by
              show _ = _
              unfold fitsGo
              rw [if_neg (fun h => by rw [Int.toNat_natCast, hin] at h; cases h.2)]
            rw [hin] at hbit
            clear hin
            go_wp2_with fail
            go_ret
            exact ⟨(by rw [HFG.out, HFG2.out, HNO.out]; rfl), HST.out.b⟩
          · rw [Bool.not_eq_true] at hin
            rw [hin] at hbit
            obtain ⟨d, hd⟩ : ∃ d, l[kn]? = some d := ⟨_, List.getElem?_eq_getElem hkl⟩
            have HIN := Lib.hid hin; have HD := Lib.hid hd
            clear hin hd
            have hdl := HA.out d (List.mem_of_getElem? HD.out)
            obtain ⟨an, han⟩ : ∃ an : Nat, d.a = (an : Int) := ⟨d.a.toNat, by omega⟩
            have hanl : an < first.length := by omega
            have HAN := Lib.hid han
            clear hdl han
            go_wp2_with fail
            clear hbit
            go_loopg [11] l.length (fun k i wr => FreeRel l first d.begin_ inn cells g p cc w k i wr)
            case atStart => exact ⟨0, Nat.zero_le _, rfl, rfl, fun j' e h => absurd h (Nat.not_lt_zero _), HST.out⟩
            case round =>
              obtain ⟨j2, hj2, rfl, rfl, hfree, hst2⟩ := hrel
              obtain ⟨wi, hwi⟩ : ∃ wi : World, wi = wr := ⟨_, rfl⟩
              subst hwi
              obtain ⟨lb, loff, hlA, d0, d1, _⟩ := (HRL.out.below hst2.b).deed HD.out
              have HFREE := Lib.hid hfree; have HST2 := Lib.hid hst2
              by_cases hlt2 : j2 < l.length
              · obtain ⟨e, he⟩ : ∃ e, l[j2]? = some e := ⟨_, List.getElem?_eq_getElem hlt2⟩
                obtain ⟨lb', loff', hlA', e0, e1, _⟩ := (HRL.out.below hst2.b).deed he
                have hbit := hst2.bit hlt2
                rw [hlA] at hlA'
                injection hlA' with hlA'
                injection hlA' with hb1 hb2
                subst hb1 hb2
                have HE := Lib.hid he
                clear hfree hst2 he
                subst hlA
                have next : ∀ nq, (inn.getD j2 false || !aheadB e.end_ d.begin_) = true → FreeRel l first d.begin_ inn cells g p cc w (l.length - (j2 + 1)) (.int .i64 ((j2 + 1 : Nat) : Int)) (wi.drewN nq) := by
                  intro nq hok
                  refine ⟨j2 + 1, by omega, rfl, rfl, fun j' e' hj' he' => ?_, HST2.out.below (below_drewN (Below.refl _ _) nq)⟩
                  rcases Nat.lt_or_ge j' j2 with h | h
                  · exact HFREE.out j' e' h he'
                  · obtain rfl : j' = j2 := by omega
                    rw [HE.out] at he'
                    injection he' with he'
                    subst he'
                    exact hok
                have NEXT := Lib.hid next
                clear next
                by_cases hb2 : inn.getD j2 false = true
                · rw [hb2] at hbit
                  have HOK : Hid ((inn.getD j2 false || !aheadB e.end_ d.begin_) = true) := by show _ = _; rw [hb2]; rfl
                  clear hb2
                  go_wp2_with fail
                  go_quiet (fail)
                  go_wp2_with fail
                  go_roundg (l.length - (j2 + 1))
                  case measure => omega
                  case rel => exact NEXT.out _ HOK.out
                · rw [Bool.not_eq_true] at hb2
                  rw [hb2] at hbit
                  have HB2 := Lib.hid hb2
                  clear hb2
                  by_cases he0 : e.end_ = 0
                  · have he0' : (e.end_ != 0) = false := by simpa using he0
                    have HOK : Hid ((inn.getD j2 false || !aheadB e.end_ d.begin_) = true) := by show _ = _; simp [aheadB, he0]
                    clear he0
                    go_wp2_with fail
                    go_quiet (fail)
                    go_wp2_with fail
                    go_roundg (l.length - (j2 + 1))
                    case measure => omega
                    case rel => exact NEXT.out _ HOK.out
                  · have he0' : (e.end_ != 0) = true := by simpa using he0
                    by_cases hlt3 : e.end_ < d.begin_
                    · have hlt3' : decide (e.end_ < d.begin_) = true := by simpa using hlt3
                      have HNO : Hid (fitsGo l ((kn : Int) :: order.drop (j + 1)) inn cells = false) := by
                        show _ = _
                        rw [fits_at HIN.out HD.out, free_no HE.out HB2.out (by simp [aheadB, he0, hlt3])]
                        rfl
                      clear he0 hlt3
                      go_wp2_with fail
                      go_quiet (fail)
                      go_wp2_with fail
                      go_ret
                      exact ⟨(by rw [HFG.out, HFG2.out, HNO.out]; rfl), (HST2.out.below (below_drewN (Below.refl _ _) _)).b⟩
                    · have hlt3' : decide (e.end_ < d.begin_) = false := by simpa using hlt3
                      have HOK : Hid ((inn.getD j2 false || !aheadB e.end_ d.begin_) = true) := by show _ = _; simp [aheadB, hlt3]
                      clear he0 hlt3
                      go_wp2_with fail
                      go_quiet (fail)
                      go_wp2_with fail
                      go_roundg (l.length - (j2 + 1))
                      case measure => omega
                      case rel => exact NEXT.out _ HOK.out
              · have hjl : j2 = l.length := by omega
                subst hjl
                have HFR : Hid (freeL l inn d.begin_ = true) := by
                  show _ = _
                  unfold freeL
                  rw [List.all_eq_true]
                  rintro ⟨e, i⟩ hp
                  have he := List.mem_zipIdx_iff_getElem?.1 hp
                  exact hfree i e (by have := (List.getElem?_eq_some_iff.1 he).1; omega) he
                clear hfree d0 d1
                have hbit := hst2.bit hkl
                have hfz := hst2.i.frozenAt kn
                have hst3 := hst2.setBit kn
                obtain ⟨lb', loff', hlA', hld⟩ := load_deed (HRL.out.below hst3.b) HD.out
                rw [hlA] at hlA'
                injection hlA' with hlA'
                injection hlA' with hb1 hb2
                subst hb1 hb2
                have HST3 := Lib.hid hst3
                clear hst2 hst3
                subst hlA
                go_upto_region 16 with fail
                obtain ⟨W, hW⟩ : ∃ W, W = (wi.setCell ⟨p, kn, none⟩ (.bool true)).alloc (.cells d.arr 27) := ⟨_, rfl⟩
                have hbs : Below (wi.setCell ⟨p, kn, none⟩ (.bool true)).heap.size (wi.setCell ⟨p, kn, none⟩ (.bool true)) W := by rw [hW]; exact (Below.refl _ _).alloc (Nat.le_refl _) _
                have hD : W.heap[wi.heap.size]? = some (.cells d.arr 27 (0, 0)) := by rw [hW]; have := heap_alloc_new (wi.setCell ⟨p, kn, none⟩ (.bool true)) (.cells d.arr 27); simpa using this
                have hstW := HST3.out.below hbs
                unfold Deed.arr at hW
                rw [← hW]
                have n3 : W.cell? ⟨wi.heap.size, 3, none⟩ = some (.int .i64 (an : Int)) := by rw [← HAN.out]; exact cell_of_row _ _ _ _ _ _ hD
                have n2 : W.cell? ⟨wi.heap.size, 2, none⟩ = some (.int .i64 d.kind) := cell_of_row _ _ _ _ _ _ hD
                have n4 : W.cell? ⟨wi.heap.size, 4, none⟩ = some (.int .i64 d.b) := cell_of_row _ _ _ _ _ _ hD
                have n5 : W.cell? ⟨wi.heap.size, 5, none⟩ = some (.int .i64 d.c) := cell_of_row _ _ _ _ _ _ hD
                have hcv := hstW.cell hanl
                obtain ⟨v, hv⟩ : ∃ v, v = cells.getD an 0 := ⟨_, rfl⟩
                rw [← hv] at hcv
                have HV := Lib.hid hv; have HDW := Lib.hid hD; have HSTW := Lib.hid hstW
                clear hv hD hstW hbs hW hld hbit hfz
                go_upto_block 4 with fail
                go_cut [14, 15, 16] (fun nx n ok wc => DoneSw l first d v (inn.set kn true) cells g p cc wi.heap.size w nx n ok wc)
                case first =>
                  go_wp2_with fail
                  any_goals go_region
                  all_goals go_wp2_with fail
                  all_goals go_meet
                  all_goals
                    refine ⟨congrArg (Value.int .i64) ?_, congrArg (Value.int .i64) ?_, congrArg Value.bool ?_, HDW.out, ?_⟩
                  all_goals try (first | exact HSTW.out | exact HSTW.out.below (Below.refl _ _).drew)
                  all_goals
                    clear hcv n2 n3 n4 n5
                    go_tidy
                    first | unfold doesNext | unfold doesN | unfold doesIs
                    grind
                case rest =>
                  obtain ⟨rfl, rfl, rfl, hD4, hst4⟩ := hcut
                  clear n2 n3 n4 n5 hcv
                  have n0 : wc.cell? ⟨wi.heap.size, 1, none⟩ = some (.int .i64 d.end_) := cell_of_row _ _ _ _ _ _ hD4
                  have n3 : wc.cell? ⟨wi.heap.size, 3, none⟩ = some (.int .i64 (an : Int)) := by rw [← HAN.out]; exact cell_of_row _ _ _ _ _ _ hD4
                  have n6 : wc.cell? ⟨wi.heap.size, 6, none⟩ = some (.int .i64 d.n) := cell_of_row _ _ _ _ _ _ hD4
                  have n7 : wc.cell? ⟨wi.heap.size, 7, none⟩ = some (.bool d.ok) := cell_of_row _ _ _ _ _ _ hD4
                  have hcv := hst4.cell hanl
                  have hcz := hst4.c.frozenAt an
                  have HFIN := Lib.hid (fits_at (cells := cells) (o := order.drop (j + 1)) HIN.out HD.out)
                  have HST4 := Lib.hid hst4
                  clear hD4 hst4
                  have HNX : Hid (doesOk d v = true → FitRel l first order g p cc w (order.length - (j + 1)) (.int .i64 ((j + 1 : Nat) : Int)) (wc.setCell ⟨g, an, none⟩ (.int .i64 (doesNext d v)))) := by
                    intro hok
                    refine ⟨j + 1, inn.set kn true, cells.set an (doesNext d v), by omega, rfl, rfl, ?_, HST4.out.setCell an _⟩
                    rw [HFG.out, HFG2.out, HFIN.out, HFR.out, show d.a.toNat = an by rw [HAN.out]; rfl, ← HV.out, hok]
                    rfl
                  have HNO : Hid (doesOk d v = false → fitsGo l (order.drop j) inn cells = false) := by
                    intro hok
                    rw [HFG2.out, HFIN.out, HFR.out, show d.a.toNat = an by rw [HAN.out]; rfl, ← HV.out, hok]
                    rfl
                  by_cases he0 : d.end_ = 0
                  · have he0' : (d.end_ != 0) = false := by simpa using he0
                    have HOK : Hid (doesOk d v = true) := by show _ = _; simp [doesOk, he0]
                    clear he0
                    go_wp2_with fail
                    go_roundg (order.length - (j + 1))
                    case measure => omega
                    case rel => exact HNX.out HOK.out
                  · have he0' : (d.end_ != 0) = true := by simpa using he0
                    by_cases hdn : doesN d v = d.n
                    · have hdn' : (doesN d v != d.n) = false := by simpa using hdn
                      obtain ⟨ib, hib⟩ : ∃ ib, ib = doesIs d v := ⟨_, rfl⟩
                      obtain ⟨ok', hok'⟩ : ∃ ok', ok' = d.ok := ⟨_, rfl⟩
                      have HOK : Hid (doesOk d v = (ib == ok')) := by show _ = _; rw [hib, hok']; simp [doesOk, he0, hdn]
                      rw [← hib]
                      rw [← hok'] at n7
                      clear he0 hdn hib hok'
                      cases ib <;> cases ok'
                      · go_wp2_with fail
                        go_roundg (order.length - (j + 1))
                        case measure => omega
                        case rel => exact HNX.out HOK.out
                      · go_wp2_with fail
                        go_ret
                        exact ⟨(by rw [HFG.out, HNO.out HOK.out]; rfl), HST4.out.b⟩
                      · go_wp2_with fail
                        go_ret
                        exact ⟨(by rw [HFG.out, HNO.out HOK.out]; rfl), HST4.out.b⟩
                      · go_wp2_with fail
                        go_roundg (order.length - (j + 1))
                        case measure => omega
                        case rel => exact HNX.out HOK.out
                    · have hdn' : (doesN d v != d.n) = true := by simpa using hdn
                      have HOK : Hid (doesOk d v = false) := by show _ = _; simp [doesOk, he0, hdn]
                      clear he0 hdn
                      go_wp2_with fail
                      go_ret
                      exact ⟨(by rw [HFG.out, HNO.out HOK.out]; rfl), HST4.out.b⟩
        · have hkl' : decide (l.length ≤ kn) = true := by simpa using hkl
          have HNO : Hid (fitsGo l ((kn : Int) :: order.drop (j + 1)) inn cells = false) := by
            show _ = _
            unfold fitsGo
            split
            · rw [Int.toNat_natCast, List.getElem?_eq_none (by omega)]
            · rfl
          go_wp2_with fail
          go_ret
          exact ⟨(by rw [HFG.out, HFG2.out, HNO.out]; rfl), HST.out.b⟩
    · have hjl : j = order.length := by omega
      subst hjl
      have HFG2 : Hid (fitsGo l (order.drop order.length) inn cells = doneL l inn) := by
        show _ = _
        rw [List.drop_length]
        rfl
      clear hst hfg
      have HST1 := HST
      clear HST
      go_wp2_with fail
      go_loopg [17] l.length (fun k i wr => DoneRel l first inn cells g p cc w k i wr)
      case atStart => exact ⟨0, Nat.zero_le _, rfl, rfl, fun j' e h => absurd h (Nat.not_lt_zero _), HST1.out⟩
      case round =>
        obtain ⟨j2, hj2, rfl, rfl, hdone, hst2⟩ := hrel
        obtain ⟨wi, hwi⟩ : ∃ wi : World, wi = wr := ⟨_, rfl⟩
        subst hwi
        have HDONE := Lib.hid hdone; have HST2 := Lib.hid hst2
        by_cases hlt2 : j2 < l.length
        · obtain ⟨e, he⟩ : ∃ e, l[j2]? = some e := ⟨_, List.getElem?_eq_getElem hlt2⟩
          obtain ⟨lb, loff, hlA, e0, e1, _⟩ := (HRL.out.below hst2.b).deed he
          have hbit := hst2.bit hlt2
          have HE := Lib.hid he
          have NEXT : Hid ((decide (e.end_ = 0) || inn.getD j2 false) = true → DoneRel l first inn cells g p cc w (l.length - (j2 + 1)) (.int .i64 ((j2 + 1 : Nat) : Int)) wi) := by
            intro hok
            refine ⟨j2 + 1, by omega, rfl, rfl, fun j' e' hj' he' => ?_, HST2.out⟩
            rcases Nat.lt_or_ge j' j2 with h | h
            · exact HDONE.out j' e' h he'
            · obtain rfl : j' = j2 := by omega
              rw [HE.out] at he'
              injection he' with he'
              subst he'
              exact hok
          clear hdone hst2 he
          subst hlA
          by_cases he0 : e.end_ = 0
          · have he0' : (e.end_ != 0) = false := by simpa using he0
            have HOK : Hid ((decide (e.end_ = 0) || inn.getD j2 false) = true) := by show _ = _; simp [he0]
            clear he0
            go_wp2_with fail
            go_roundg (l.length - (j2 + 1))
            case measure => omega
            case rel => exact NEXT.out HOK.out
          · have he0' : (e.end_ != 0) = true := by simpa using he0
            by_cases hb2 : inn.getD j2 false = true
            · have HOK : Hid ((decide (e.end_ = 0) || inn.getD j2 false) = true) := by show _ = _; rw [hb2]; simp
              rw [hb2] at hbit
              clear he0 hb2
              go_wp2_with fail
              go_roundg (l.length - (j2 + 1))
              case measure => omega
              case rel => exact NEXT.out HOK.out
            · rw [Bool.not_eq_true] at hb2
              rw [hb2] at hbit
              have HNO : Hid (doneL l inn = false) := by
                show _ = _
                rw [Bool.eq_false_iff]
                intro h
                unfold doneL at h
                rw [List.all_eq_true] at h
                have this : (decide (e.end_ = 0) || inn.getD j2 false) = true := h (e, j2) (List.mem_zipIdx_iff_getElem?.2 HE.out)
                rw [hb2, Bool.or_false, decide_eq_true_eq] at this
                exact he0 this
              clear he0 hb2
              go_wp2_with fail
              go_ret
              exact ⟨(by rw [HFG.out, HFG2.out, HNO.out]; rfl), HST2.out.b⟩
        · have hjl : j2 = l.length := by omega
          subst hjl
          have HYES : Hid (doneL l inn = true) := by
            show _ = _
            unfold doneL
            rw [List.all_eq_true]
            rintro ⟨e, i⟩ hp
            have he := List.mem_zipIdx_iff_getElem?.1 hp
            exact hdone i e (List.getElem?_eq_some_iff.1 he).1 he
          clear hdone hst2
          go_wp2_with fail
          go_ret
          exact ⟨(by rw [HFG.out, HFG2.out, HYES.out]; rfl), HST2.out.b⟩
end Go.Proofs.Ytpnegacfanbcfaa
