/- The document's search of deeds: the walk. -/
import Derived.Test.YtpnegacfanbcfaaRefA
import Derived.Test.YtpnegacfanbcfaaQuiet
import Derived.Test.YtpnegacfanbcfaaLays
import Derived.Deep.RegionLaw
import Derived.BigQuiet
import Derived.BigRegion
import Derived.Deep.DeepCutAuto
namespace Go.Proofs.Ytpnegacfanbcfaa
open Go.RowKit Go.Maps

attribute [-go_sem] loadCellsFrom

theorem cnt_succ (inn : List Bool) (j : Nat) (h : j < inn.length) : (inn.take (j + 1)).count false = (inn.take j).count false + if inn.getD j false = false then 1 else 0 := by
  rw [List.take_add_one, List.count_append, List.getElem?_eq_getElem h, List.getD_eq_getElem?_getD, List.getElem?_eq_getElem h]
  cases inn[j] <;> simp
theorem cnt_mono (inn : List Bool) (j K c : Nat) : K + (inn.take j).count false * c ≤ K + (inn.take (j + 1)).count false * c := by
  refine Nat.add_le_add_left (Nat.mul_le_mul_right _ ?_) _
  rw [List.take_add_one, List.count_append]
  exact Nat.le_add_right _ _
theorem KR_step {l : List Deed} {inn : List Bool} {cells : List Int} {j : Nat} (h : ∀ j', j' < j → KR l inn cells j' none) (hj : KR l inn cells j none) : ∀ j', j' < j + 1 → KR l inn cells j' none := by
  intro j' h'
  rcases Nat.lt_or_ge j' j with h1 | h1
  · exact h j' h1
  · obtain rfl : j' = j := by omega
    exact hj
theorem load_deedB {w : World} {A : Option Addr} {l : List Deed} (h : Row w A (deedCells l)) {k : Nat} {d : Deed} (hd : l[k]? = some d) :
    ∃ b off, A = some ⟨b, off, none⟩ ∧ ∀ V, Below w.heap.size w V → (loadCellsFrom ⟨b, off + k * 8, none⟩ 0 8 #[]).run Try.prog V = .ok #[.int .i64 d.begin_, .int .i64 d.end_, .int .i64 d.kind, .int .i64 d.a, .int .i64 d.b, .int .i64 d.c, .int .i64 d.n, .bool d.ok] V := by
  obtain ⟨b, off, hA, _⟩ := load_deed h hd
  refine ⟨b, off, hA, fun V hV => ?_⟩
  obtain ⟨b', off', hA', h'⟩ := load_deed (h.below hV) hd
  rw [hA] at hA'
  injection hA' with hA'
  injection hA' with e1 e2
  subst e1 e2
  exact h'
/-- the state's copy. -/
def TRel (l : List Deed) (m : Nat) (inn : List Bool) (cells : List Int) (W : World) (tp : Value) (w7 : World) : Prop :=
  ∃ T p g pc gc : Nat, tp = .pointer (some ⟨T, 0, none⟩) ∧ w7.heap[T]? = some (.cells #[.slice (some ⟨p, 0, none⟩) l.length pc, .slice (some ⟨g, 0, none⟩) m gc] 84 (0, 0)) ∧
    w7.ownsRow W.heap.size 4 1 (.slice (some ⟨p, 0, none⟩) l.length pc) l.length (bools inn) ∧ w7.ownsRow W.heap.size 3 1 (.slice (some ⟨g, 0, none⟩) m gc) m (nums cells) ∧ W.heap.size ≤ T ∧ Below W.heap.size W w7
theorem box_kept {w w2 : World} (hg : w.grownBy w2 none) {T : Nat} {u0 u1 : Value} (h : w.heap[T]? = some (.cells #[u0, u1] 84 (0, 0))) : w2.heap[T]? = some (.cells #[u0, u1] 84 (0, 0)) :=
  (hg.block _ (Array.getElem?_eq_some_iff.1 h).1 (fun e => by cases e)).trans h
theorem box_cells {w : World} {T : Nat} {u0 u1 : Value} (h : w.heap[T]? = some (.cells #[u0, u1] 84 (0, 0))) : w.cell? ⟨T, 0, none⟩ = some u0 ∧ w.cell? ⟨T, 1, none⟩ = some u1 ∧ w.frozen? ⟨T, 0, none⟩ = false ∧ w.frozen? ⟨T, 1, none⟩ = false :=
  ⟨cell_of_row _ _ 0 _ _ _ h, cell_of_row _ _ 1 _ _ _ h, frozen_block h, frozen_block h⟩
theorem TRel.alloc {l : List Deed} {m : Nat} {inn : List Bool} {cells : List Int} {W w : World} {p g pc gc : Nat} (h1 : w.ownsRow W.heap.size 4 1 (.slice (some ⟨p, 0, none⟩) l.length pc) l.length (bools inn))
    (h2 : w.ownsRow W.heap.size 3 1 (.slice (some ⟨g, 0, none⟩) m gc) m (nums cells)) (hb : Below W.heap.size W w) :
    TRel l m inn cells W (.pointer (some ⟨w.heap.size, 0, none⟩)) (w.alloc (.cells #[.slice (some ⟨p, 0, none⟩) l.length pc, .slice (some ⟨g, 0, none⟩) m gc] 84)) :=
  ⟨_, p, g, pc, gc, rfl, heap_alloc_new _ _, h1.alloc _, h2.alloc _, hb.size, hb.alloc hb.size _⟩
theorem own_box {w : World} {B e size q T i : Nat} {v u : Value} {xs : List Value} (hT : ∃ cs, w.heap[T]? = some (.cells cs 84 (0, 0))) (he : e ≠ 84) (h : w.ownsRow B e size v q xs) : (w.setCell ⟨T, i, none⟩ u).ownsRow B e size v q xs :=
  own_setCell h (fun cs' hc => by
    obtain ⟨cs, hT⟩ := hT
    rw [hT] at hc
    injection hc with hc
    injection hc with _ hc
    exact he hc.symm) _
theorem TRel.set {l : List Deed} {m : Nat} {inn : List Bool} {cells : List Int} {W w : World} {T p g pc gc : Nat} {u0 u1 : Value} (hT : w.heap[T]? = some (.cells #[u0, u1] 84 (0, 0))) (hle : W.heap.size ≤ T)
    (h1 : w.ownsRow W.heap.size 4 1 (.slice (some ⟨p, 0, none⟩) l.length pc) l.length (bools inn)) (h2 : w.ownsRow W.heap.size 3 1 (.slice (some ⟨g, 0, none⟩) m gc) m (nums cells)) (hb : Below W.heap.size W w) :
    TRel l m inn cells W (.pointer (some ⟨T, 0, none⟩)) ((w.setCell ⟨T, 0, none⟩ (.slice (some ⟨p, 0, none⟩) l.length pc)).setCell ⟨T, 1, none⟩ (.slice (some ⟨g, 0, none⟩) m gc)) :=
  ⟨T, p, g, pc, gc, rfl, set_block (set_block hT _) _, own_box ⟨_, set_block hT _⟩ (by decide) (own_box ⟨_, hT⟩ (by decide) h1), own_box ⟨_, set_block hT _⟩ (by decide) (own_box ⟨_, hT⟩ (by decide) h2), hle, (hb.setCell hle _).setCell hle _⟩
/-- behind the search's call of itself. -/
def CutR (l : List Deed) (m K X V S : Nat) (lv : Value) (w0 : World) (sa sc ov : Value) (inn : List Bool) (cells : List Int) (xs : List Nat) (vs0 : List Value) (W : World) (inn2 : List Bool) (cells2 : List Int) (j : Nat) (r b : Value) (w9 : World) : Prop :=
  ∃ (vs : List Value) (c : Bool), GI l.length m (K + (inn.take j).count false * callsR (inn.count false - 1) + callsR (inn.count false - 1)) X V S lv (fun i c => LR l i c none) w0 sa sc ov inn cells xs vs0 W vs w9 ∧ b = .bool c ∧
    ((LR l inn2 cells2 none ∧ c = false) ∨ ∃ t, LR l inn2 cells2 (some t) ∧ c = true ∧ w9.ownsRow w0.heap.size 3 1 r ((xs ++ [j]).length + t.length) (ints (xs ++ [j] ++ t)))
theorem below_none {w w2 : World} (hg : w.grownBy w2 none) : Below w.heap.size w w2 := ⟨hg.os, hg.tape, hg.output, hg.size, fun k hk => hg.block k hk (fun e => by cases e)⟩
theorem count_set_true {inn : List Bool} {j : Nat} (h : j < inn.length) (hb : inn.getD j false = false) : (inn.set j true).count false = inn.count false - 1 := by
  have hf : inn[j] = false := by rwa [List.getD_eq_getElem?_getD, List.getElem?_eq_getElem h] at hb
  rw [List.count_set h, hf]
  simp
theorem cnt_le {inn : List Bool} {j : Nat} (h : j < inn.length) (hb : inn.getD j false = false) : (inn.take j).count false + 1 ≤ inn.count false := by
  have h1 := cnt_succ inn j h
  rw [if_pos hb] at h1
  have h2 := (List.take_sublist (j + 1) inn).count_le false
  omega
theorem calls_step {inn : List Bool} {j K n : Nat} (h : j < inn.length) (hb : inn.getD j false = false) (hn : inn.count false = n) : K + (inn.take j).count false * callsR (inn.count false - 1) + callsR (inn.count false - 1) + 1 ≤ K + callsR n := by
  have h1 := cnt_le h hb
  subst hn
  obtain ⟨q, hq⟩ : ∃ q, inn.count false = q + 1 := ⟨inn.count false - 1, by omega⟩
  rw [hq]
  have h2 : ((inn.take j).count false + 1) * callsR q ≤ (q + 1) * callsR q := Nat.mul_le_mul_right _ (by omega)
  rw [Nat.add_mul, Nat.one_mul] at h2
  simp only [Nat.add_sub_cancel, callsR]
  omega
theorem calls_le {inn : List Bool} {j K n N M : Nat} (hl : inn.length = N) (h : j < N) (hb : inn.getD j false = false) (hn : inn.count false = n) (hK : K + callsR n ≤ M) : K + (inn.take j).count false * callsR (inn.count false - 1) + callsR (n - 1) ≤ M := by
  have h1 := calls_step (K := K) (by omega) hb hn
  have h2 : inn.count false - 1 = n - 1 := by rw [hn]
  rw [h2] at h1 ⊢
  omega
theorem calls_end {inn : List Bool} {K n : Nat} (hn : inn.count false = n) (h : 0 < n) : K + inn.count false * callsR (inn.count false - 1) + 1 = K + callsR n := by
  obtain ⟨q, rfl⟩ : ∃ q, n = q + 1 := ⟨n - 1, by omega⟩
  rw [hn]
  simp only [Nat.add_sub_cancel, callsR]
  omega
theorem row_two (w : World) (a b : Value) (t : TypeId) : Row (w.alloc (.cells #[a, b] t)) (some ⟨w.heap.size, 0, none⟩) [a, b] := by
  intro j u hu
  have h := heap_alloc_new w (.cells #[a, b] t)
  refine ⟨w.heap.size, 0, rfl, ?_⟩
  rw [Nat.zero_add, cell_of_row _ _ j _ _ _ h]
  simpa using hu
theorem RV.heads {n m K X V : Nat} {lv : Value} {P : List Bool → List Int → Prop} {w0 w w' : World} {vs : List Value} (h : RV n m K X V lv P w0 vs w) {u : Value} (hu : u ∈ vs) (hg : w.grownBy w' u.ownBlock) :
    w'.heap[X]? = some (.cells #[lv, .slice (some ⟨V, 0, none⟩) (n + 1) (n + 1)] 80 (0, 0)) ∧ w'.heap[V]? = some (.cells vs.toArray 110 (0, 0)) := by
  have hne : ∀ k c t' fr, w.heap[k]? = some (.cells c t' fr) → t' ≠ 84 → u.ownBlock ≠ some k := by
    intro k c t' fr hk h84 e
    obtain ⟨_, _, cs, e4⟩ := h.own84 hu e
    rw [e4] at hk
    injection hk with hk
    injection hk with _ hk
    exact h84 hk.symm
  exact ⟨(hg.block _ h.lts.1 (fun e => hne _ _ _ _ h.x (by decide) e.symm)).trans h.x, (hg.block _ h.lts.2 (fun e => hne _ _ _ _ h.v (by decide) e.symm)).trans h.v⟩
theorem row_own {w : World} {B e size n c : Nat} {A : Option Addr} {xs : List Value} (h : w.ownsRow B e size (.slice A n c) n xs) : Row w A xs := by
  obtain ⟨A', c', e1, hr, _⟩ := row_of_own h
  injection e1 with e1
  exact e1 ▸ hr
theorem load_state {w : World} {A : Option Addr} {sts : List StV} (h : Row w A (stCells sts)) {j : Nat} {t : StV} (ht : sts[j]? = some t) :
    ∃ b off, A = some ⟨b, off, none⟩ ∧ ∀ V, Below w.heap.size w V → (loadCellsFrom ⟨b, off + j * 2, none⟩ 0 2 #[]).run Try.prog V = .ok #[t.a, t.c] V := by
  obtain ⟨b, off, hA, _⟩ := load_elem (fun t : StV => [t.a, t.c]) 2 (fun _ => rfl) (by omega) h ht
  refine ⟨b, off, hA, fun V hV => ?_⟩
  obtain ⟨b', off', hA', h'⟩ := load_elem (fun t : StV => [t.a, t.c]) 2 (fun _ => rfl) (by omega) (h.below hV) ht
  rw [hA] at hA'
  injection hA' with hA'
  injection hA' with e1 e2
  subst e1 e2
  exact h'
set_option maxRecDepth 100000 in
set_option maxHeartbeats 8000000 in
theorem refGoes (l : List Deed) (m X V : Nat) (lA : Option Addr) (lc : Nat) (w0 : World) (h14 : l.length ≤ 14) (hm : m ≤ 256) (hrl : Row w0 lA (deedCells l)) (ha : ∀ d ∈ l, 0 ≤ d.a ∧ d.a < m)
    (n : Nat) : ∀ (inn : List Bool) (cells : List Int) (xs : List Nat) (vs : List Value) (K : Nat) (sa sc ov : Value) (w : World), inn.count false = n → xs.length + n = l.length → K + callsR n ≤ 236975164805 →
      RV l.length m K X V (.slice lA l.length lc) (fun i c => LR l i c none) w0 vs w → w.ownsRow w0.heap.size 4 1 sa l.length (bools inn) → w.ownsRow w0.heap.size 3 1 sc m (nums cells) → w.ownsRow w0.heap.size 3 1 ov xs.length (ints xs) →
      Calls Try.prog 32 #[.pointer (some ⟨X, 0, none⟩), .agg #[sa, sc], ov] w (RGPost l m K X V (.slice lA l.length lc) w0 inn cells xs vs w) := by
  induction n using Nat.strongRecOn with
  | _ n ih =>
  intro inn cells xs vs K sa sc ov w hn hxn hK hrv hoa hoc hoo
  have IH := Lib.hid ih; have HN := Lib.hid hn; have HXN := Lib.hid hxn; have HK := Lib.hid hK; have HRV := Lib.hid hrv
  have HRL := Lib.hid hrl; have HA := Lib.hid ha
  have HGI0 := Lib.hid (GI.start hrv hoa hoc hoo)
  have hil : inn.length = l.length := by have := hoa.1; simpa [bools] using this
  have hcl : cells.length = m := by have := hoc.1; simpa [nums] using this
  have HIL := Lib.hid hil; have HCL := Lib.hid hcl
  obtain ⟨sA, sac, rfl, hra, hrn⟩ := row_of_own hoa
  have HRN := Lib.hid hrn
  clear hrn
  obtain ⟨cA, scc, rfl, hrc, hcn⟩ := row_of_own hoc
  obtain ⟨oA, oc, rfl, hro, hon⟩ := row_of_own hoo
  have HRA := Lib.hid hra; have HRC := Lib.hid hrc; have HRO := Lib.hid hro; have HCN := Lib.hid hcn; have HON := Lib.hid hon
  clear ih hn hxn hK hrv hoa hoc hoo hil hcl hra hrc hro hcn hon hrl ha
  go_enter Try.func32, Try.ntmps32
  go_upto_region 1 with fail
  obtain ⟨S, hS⟩ : ∃ S, S = w.heap.size := ⟨_, rfl⟩
  obtain ⟨W, hW⟩ : ∃ W, W = w.alloc (.cells #[.slice sA l.length sac, .slice cA m scc] 84) := ⟨_, rfl⟩
  rw [← hW] at HGI0 ⊢
  rw [← hS] at HGI0 ⊢
  have hbW : Below w.heap.size w W := by rw [hW]; exact (Below.refl _ _).alloc (Nat.le_refl _) _
  have HBW := Lib.hid hbW; have HS := Lib.hid hS; have HW := Lib.hid hW
  clear hW hS hbW
  go_wp2_with fail
  go_loopg [8, 9] l.length (fun k b i wr => LeftRel l inn W k b i wr)
  case atStart => exact ⟨0, false, Nat.zero_le _, rfl, rfl, rfl, fun _ j' e h => absurd h (Nat.not_lt_zero _), (fun h => by cases h), rfl⟩
  case round =>
    obtain ⟨j, c, hj, rfl, rfl, rfl, hno, hyes, hwr⟩ := hrel
    subst hwr
    obtain ⟨wb, rfl⟩ : ∃ wb : World, wb = wr := ⟨_, rfl⟩
    have q0 := cell_of_row _ _ 0 _ _ _ HGI0.out.s
    have q1 := cell_of_row _ _ 0 _ _ _ HGI0.out.rv.x
    have q2 := cell_of_row _ _ 1 _ _ _ HGI0.out.rv.x
    simp only [List.getElem?_toArray, List.getElem?_cons_zero, List.getElem?_cons_succ] at q0 q1 q2
    have hbw := HGI0.out.rv.b
    have HNO := Lib.hid hno; have HYES := Lib.hid hyes
    by_cases hlt : j < l.length
    · obtain ⟨d, hd⟩ : ∃ d, l[j]? = some d := ⟨_, List.getElem?_eq_getElem hlt⟩
      obtain ⟨lb, loff, hlA, d0, d1, _⟩ := (HRL.out.below hbw).deed hd
      obtain ⟨sb, soff, hsA, hcj⟩ := (HRA.out.below HBW.out) j (.bool (inn.getD j false)) (by simp [bools, List.getD, HIL.out, hlt])
      have HD := Lib.hid hd
      clear hd hno hyes hbw q2
      subst hlA hsA
      cases c with
      | true =>
        have HY := Lib.hid (HYES.out rfl)
        clear HNO HYES
        go_wp2_with fail
        go_roundg (l.length - (j + 1))
        case measure => omega
        case rel => exact ⟨j + 1, true, by omega, by go_num, rfl, rfl, (fun h => by cases h), fun _ => HY.out, rfl⟩
      | false =>
        have NEXT : Hid ((decide (d.end_ = 0) || inn.getD j false) = true → ∀ j' e, j' < j + 1 → l[j']? = some e → (decide (e.end_ = 0) || inn.getD j' false) = true) := by
          intro hok j' e hj' he
          rcases Nat.lt_or_ge j' j with h | h
          · exact HNO.out rfl j' e h he
          · obtain rfl : j' = j := by omega
            rw [HD.out] at he
            injection he with he
            subst he
            exact hok
        cases hb : inn.getD j false with
        | true =>
          have HOK : Hid ((decide (d.end_ = 0) || inn.getD j false) = true) := by show _ = _; rw [hb]; simp
          rw [hb] at hcj
          clear hb
          go_wp2_with fail
          go_roundg (l.length - (j + 1))
          case measure => omega
          case rel => exact ⟨j + 1, false, by omega, by go_num, rfl, rfl, fun _ => NEXT.out HOK.out, (fun h => by cases h), rfl⟩
        | false =>
          rw [hb] at hcj
          have HB := Lib.hid hb
          clear hb
          by_cases he0 : d.end_ = 0
          · have he0' : (d.end_ != 0) = false := by simp [he0]
            have HOK : Hid ((decide (d.end_ = 0) || inn.getD j false) = true) := by show _ = _; simp [he0]
            clear he0
            go_wp2_with fail
            go_roundg (l.length - (j + 1))
            case measure => omega
            case rel => exact ⟨j + 1, false, by omega, by go_num, rfl, rfl, fun _ => NEXT.out HOK.out, (fun h => by cases h), rfl⟩
          · have he0' : (d.end_ != 0) = true := by simp [he0]
            have HOK : Hid ((decide (d.end_ = 0) || inn.getD j false) = false) := by show _ = _; rw [HB.out]; simp [he0]
            clear he0
            go_wp2_with fail
            go_roundg (l.length - (j + 1))
            case measure => omega
            case rel => exact ⟨j + 1, true, by omega, by go_num, rfl, rfl, (fun h => by cases h), fun _ => ⟨j, d, HD.out, HOK.out⟩, rfl⟩
    · clear hno hyes hbw
      cases c with
      | false =>
        have HDN : Hid (doneL l inn = true) := left_done fun j' e hj' he => HNO.out rfl j' e (by omega) he
        clear q2
        go_wp2_with fail
        go_ret2
        refine ⟨vs, HGI0.out.rv.mono (Nat.le_add_right _ _), Fr.of_below HBW.out, _, true, rfl, .inr ⟨[], LR_done HDN.out, rfl, ?_⟩⟩
        simpa using HGI0.out.o
      | true =>
        have HDN : Hid (doneL l inn = false) := left_not (HYES.out rfl)
        have hpos : 0 < n := by
          rcases Nat.eq_zero_or_pos n with h | h
          · exfalso
            have h1 := HDN.out
            rw [Bool.eq_false_iff] at h1
            refine h1 (left_done fun j' e hj' he => ?_)
            have h2 : false ∉ inn := fun hm => by have := List.count_pos_iff.2 hm; have := HN.out; omega
            have h3 : inn.getD j' false = true := by
              rw [List.getD_eq_getElem?_getD, List.getElem?_eq_getElem (by rw [HIL.out]; exact hj')]
              rcases Bool.eq_false_or_eq_true (inn[j']'(by rw [HIL.out]; exact hj')) with h4 | h4
              · exact h4
              · exact absurd (h4 ▸ List.getElem_mem _) h2
            rw [h3]
            simp
          · exact h
        obtain ⟨u, hu⟩ : ∃ u, vs[xs.length]? = some u := ⟨_, List.getElem?_eq_getElem (by rw [HGI0.out.rv.len]; have := HXN.out; omega)⟩
        obtain ⟨sts, hst, hsk, hsin⟩ := HGI0.out.rv.rows _ _ hu
        obtain ⟨uA, uc, rfl, hur, hun⟩ := row_of_own hst
        have hxl : xs.length < l.length + 1 := by have := HXN.out; omega
        have hvx := cell_of_row _ _ xs.length _ _ _ HGI0.out.rv.v
        rw [List.getElem?_toArray, hu] at hvx
        have HU := Lib.hid hu; have HST := Lib.hid hst; have HSK := Lib.hid hsk; have HSIN := Lib.hid hsin; have HUR := Lib.hid hur; have HUN := Lib.hid hun
        clear hu hst hsk hsin hur hun q0
        go_wp2_with fail
        go_loopg [11] sts.length (fun k i w2 => VainRel l.length m K X V S (.slice lA l.length lc) (fun i c => LR l i c none) w0 (.slice sA l.length sac) (.slice cA m scc) (.slice oA xs.length oc) inn cells xs vs wb sts.length k i w2)
        case atStart => exact ⟨0, Nat.zero_le _, rfl, rfl, Below.refl _ _, HGI0.out⟩
        case round =>
          obtain ⟨j2, hj2, rfl, rfl, hb2, hg2⟩ := hrel
          obtain ⟨wi, hwi⟩ : ∃ wi : World, wi = wr := ⟨_, rfl⟩
          subst hwi
          have HB2 := Lib.hid hb2; have HG2 := Lib.hid hg2
          have r1 := cell_below hb2 _ _ q1
          have r2 := cell_below hb2 _ _ q2
          have r3 := cell_below hb2 _ _ hvx
          have Q1 := Lib.hid q1; have Q2 := Lib.hid q2; have HVX := Lib.hid hvx
          clear q1 q2 hvx
          by_cases hlt2 : j2 < sts.length
          · obtain ⟨t, ht⟩ : ∃ t, sts[j2]? = some t := ⟨_, List.getElem?_eq_getElem hlt2⟩
            have hti := (HSIN.out t (List.mem_of_getElem? ht)).below hb2
            obtain ⟨a1, c1, hta, hra1, _⟩ := row_of_own hti.a
            obtain ⟨a2, c2, htc, hra2, _⟩ := row_of_own hti.c
            obtain ⟨gb, goff, hgA, hld⟩ := load_state (HUR.out.below hb2) ht
            have HP := Lib.hid hti.p
            have HL1 : Hid (t.inn.length = l.length) := by have := hti.a.1; show _ = _; simpa [bools] using this
            have HL2 : Hid (t.cells.length = m) := by have := hti.c.1; show _ = _; simpa [nums] using this
            have hra3 := HRA.out.below (HBW.out.trans (hb2.mono HBW.out.size))
            have hrc3 := HRC.out.below (HBW.out.trans (hb2.mono HBW.out.size))
            have HR1 := Lib.hid hra1; have HR2 := Lib.hid hra2; have HR3 := Lib.hid hra3; have HR4 := Lib.hid hrc3
            have k1 : ∀ p : BelowOf wi, p.v.cell? ⟨X, 1, none⟩ = some (.slice (some ⟨V, 0, none⟩) (l.length + 1) (l.length + 1)) := fun p => p.cell r2
            have k2 : ∀ p : BelowOf wi, p.v.cell? ⟨V, xs.length, none⟩ = some (.slice (some ⟨gb, goff, none⟩) sts.length uc) := fun p => hgA ▸ p.cell r3
            have k3 : ∀ p : BelowOf wi, (loadCellsFrom ⟨gb, goff + j2 * 2, none⟩ 0 2 #[]).run Try.prog p.v = .ok #[.slice a1 l.length c1, .slice a2 m c2] p.v := fun p => by rw [hld _ p.h, hta, htc]
            have k4 : ∀ p : BelowOf wi, (loadCellsFrom ⟨S, 0, none⟩ 0 2 #[]).run Try.prog p.v = .ok #[.slice sA l.length sac, .slice cA m scc] p.v := fun p => load_block (p.heap hg2.s) rfl
            have hxlI : (xs.length : Int) < (l.length + 1 : Nat) := by omega
            subst hgA
            clear hb2 hg2 hti hta htc hra1 hra2 hra3 hrc3 hld ht
            cases hs : decide (t.inn = inn ∧ t.cells = cells) with
            | true =>
              have HSM := Lib.hid hs
              clear hs
              go_wp2_with fail
              clear r1 r2 r3
              refine wp_region_quiet_below (w := wi) (by kernel_rfl) (by kernel_rfl) ?_
              repeat (go_big_quiet_step ((go_at_call 53; refine calls_below _ (Calls.mono (refSame l.length m t.inn inn t.cells cells a1 sA a2 cA c1 c2 sac scc _ (by omega) hm HL1.out HIL.out HL2.out HCL.out (by exact Row.below HR1.out (BelowOf.h _)) (by exact Row.below HR2.out (BelowOf.h _)) (by exact Row.below HR3.out (BelowOf.h _)) (by exact Row.below HR4.out (BelowOf.h _))) (fun _ _ h => ⟨h.1.trans (congrArg (fun b => Ending.returned (Value.bool b)) HSM.out), h.2⟩)))))
              refine wpQuiet_nil ?_
              intro w3 hw'
              obtain ⟨p3, rfl⟩ := hw'
              go_wp2_with fail
              go_ret2
              have hb3 := p3.h
              refine ⟨vs, (HG2.out.below hb3).rv.mono (Nat.le_add_right _ _), (Fr.of_below HBW.out).trans ((HG2.out.below hb3).fr), _, false, rfl, .inl ⟨?_, rfl, rfl⟩⟩
              have h1 := of_decide_eq_true HSM.out
              have h2 := HP.out
              rwa [h1.1, h1.2] at h2
            | false =>
              have HSM := Lib.hid hs
              clear hs
              go_wp2_with fail
              clear r1 r2 r3
              refine wp_region_quiet_below (w := wi) (by kernel_rfl) (by kernel_rfl) ?_
              repeat (go_big_quiet_step ((go_at_call 53; refine calls_below _ (Calls.mono (refSame l.length m t.inn inn t.cells cells a1 sA a2 cA c1 c2 sac scc _ (by omega) hm HL1.out HIL.out HL2.out HCL.out (by exact Row.below HR1.out (BelowOf.h _)) (by exact Row.below HR2.out (BelowOf.h _)) (by exact Row.below HR3.out (BelowOf.h _)) (by exact Row.below HR4.out (BelowOf.h _))) (fun _ _ h => ⟨h.1.trans (congrArg (fun b => Ending.returned (Value.bool b)) HSM.out), h.2⟩)))))
              refine wpQuiet_nil ?_
              intro w3 hw'
              obtain ⟨p3, rfl⟩ := hw'
              go_wp2_with fail
              go_roundg (sts.length - (j2 + 1))
              case measure => omega
              case rel => exact ⟨j2 + 1, by omega, congrArg _ ((IntWalk.wrap64_in _ (by have h1 := HSK.out; have h2 := HK.out; omega)).trans (by omega)), rfl, HB2.out.trans (p3.h.mono HB2.out.size), HG2.out.below p3.h⟩
          · clear hb2 hg2
            go_wp2_with fail
            clear r1 r2 r3
            go_loopg [12] l.length (fun k i w2 => DeedRel l m K X V S (.slice lA l.length lc) w0 (.slice sA l.length sac) (.slice cA m scc) (.slice oA xs.length oc) inn cells xs vs wb k i w2)
            case atStart => exact ⟨0, vs, Nat.zero_le _, rfl, rfl, fun j' h => absurd h (Nat.not_lt_zero _), HG2.out.mono (Nat.le_add_right _ _)⟩
            case round =>
              obtain ⟨j3, vs3, hj3, rfl, rfl, hkr, hg3⟩ := hrel
              obtain ⟨wo, hwo⟩ : ∃ wo : World, wo = wr := ⟨_, rfl⟩
              subst hwo
              have HKR := Lib.hid hkr; have HG3 := Lib.hid hg3
              have q1 := cell_of_row _ _ 0 _ _ _ hg3.rv.x
              simp only [List.getElem?_toArray, List.getElem?_cons_zero] at q1
              by_cases hlt3 : j3 < l.length
              · obtain ⟨d, hd⟩ : ∃ d, l[j3]? = some d := ⟨_, List.getElem?_eq_getElem hlt3⟩
                have hdl := HA.out d (List.mem_of_getElem? hd)
                obtain ⟨an, han⟩ : ∃ an : Nat, d.a = (an : Int) := ⟨d.a.toNat, by omega⟩
                have hanl : an < m := by omega
                have ld0 : (loadCellsFrom ⟨S, 0, none⟩ 0 2 #[]).run Try.prog wo = .ok #[.slice sA l.length sac, .slice cA m scc] wo := load_block hg3.s rfl
                have HD := Lib.hid hd; have HAN := Lib.hid han
                clear hkr hg3 hd hdl han
                cases hmay : (!inn.getD j3 false && freeL l inn d.begin_) with
                | false =>
                  have HMAY := Lib.hid hmay
                  clear hmay
                  go_wp2_with (go_at_call 54
                               refine (refMay l inn X lA sA lc sac (.slice cA m scc) j3 d _ (by omega) HD.out HIL.out q1 rfl (HRL.out.below HG3.out.rv.b) (row_own HG3.out.a)).mono ?_
                               rintro e4 w4 ⟨rfl, hb4⟩
                               rw [HMAY.out]
                               have HB4 := Lib.hid hb4
                               clear hb4 q1 ld0)
                  go_roundg (l.length - (j3 + 1))
                  case measure => omega
                  case rel => exact ⟨j3 + 1, vs3, by omega, by go_num, rfl, KR_step HKR.out (KR_no HD.out HMAY.out), (HG3.out.below HB4.out).mono (cnt_mono inn j3 _ _)⟩
                | true =>
                  have HMAY := Lib.hid hmay
                  clear hmay
                  go_wp2_with (go_at_call 54
                               refine (refMay l inn X lA sA lc sac (.slice cA m scc) j3 d _ (by omega) HD.out HIL.out q1 rfl (HRL.out.below HG3.out.rv.b) (row_own HG3.out.a)).mono ?_
                               rintro e4 w4 ⟨rfl, hb4⟩
                               rw [HMAY.out]
                               have HB4 := Lib.hid hb4
                               clear hb4 q1 ld0)
                  have hg4 := HG3.out.below HB4.out
                  have q1 := cell_of_row _ _ 0 _ _ _ hg4.rv.x
                  have qs := cell_of_row _ _ 1 _ _ _ hg4.s
                  simp only [List.getElem?_toArray, List.getElem?_cons_zero, List.getElem?_cons_succ] at q1 qs
                  obtain ⟨lb, loff, hlA, hld⟩ := load_deedB (HRL.out.below hg4.rv.b) HD.out
                  obtain ⟨lb', loff', hlA', _, _, _, d3, _⟩ := (HRL.out.below hg4.rv.b).deed HD.out
                  rw [hlA] at hlA'
                  injection hlA' with hlA'
                  injection hlA' with e1 e2
                  subst e1 e2
                  obtain ⟨cb, coff, hcA, hca⟩ := (row_own hg4.c) an (.int .i64 (cells.getD an 0)) (by simp [nums, List.getD, HCL.out, hanl])
                  have k0 : ∀ p : BelowOf w4, p.v.cell? ⟨X, 0, none⟩ = some (.slice (some ⟨lb, loff, none⟩) l.length lc) := fun p => hlA ▸ p.cell q1
                  have k1 : ∀ p : BelowOf w4, p.v.cell? ⟨S, 1, none⟩ = some (.slice (some ⟨cb, coff, none⟩) m scc) := fun p => hcA ▸ p.cell qs
                  have k2 : ∀ p : BelowOf w4, (loadCellsFrom ⟨lb, loff + j3 * 8, none⟩ 0 8 #[]).run Try.prog p.v = .ok #[.int .i64 d.begin_, .int .i64 d.end_, .int .i64 d.kind, .int .i64 d.a, .int .i64 d.b, .int .i64 d.c, .int .i64 d.n, .bool d.ok] p.v := fun p => hld _ p.h
                  have k3 : ∀ p : BelowOf w4, p.v.cell? ⟨lb, loff + j3 * 8 + 3, none⟩ = some (.int .i64 (an : Int)) := fun p => HAN.out ▸ p.cell d3
                  have k4 : ∀ p : BelowOf w4, p.v.cell? ⟨cb, coff + an, none⟩ = some (.int .i64 (cells.getD an 0)) := fun p => p.cell hca
                  have hanI : (an : Int) < (m : Nat) := by omega
                  have HG4 := Lib.hid hg4
                  have HLA := Lib.hid hlA; have HCA := Lib.hid hcA
                  clear hg4 q1 qs hld d3 hca hlA hcA
                  cases hok : doesOk d (cells.getD an 0) with
                  | false =>
                    have HOK := Lib.hid hok
                    clear hok
                    refine wp_region_quiet_below (w := w4) (by kernel_rfl) (by kernel_rfl) ?_
                    repeat (go_big_quiet_step ((go_at_call 55; exact calls_below _ ((refAlone d (cells.getD an 0) _).mono fun _ _ h => ⟨h.1.trans (congrArg (fun b => Ending.returned (.tuple #[.int .i64 (doesNext d (cells.getD an 0)), .bool b])) HOK.out), h.2⟩))))
                    refine wpQuiet_nil ?_
                    intro w5 hw'
                    obtain ⟨p5, rfl⟩ := hw'
                    clear k0 k1 k2 k3 k4
                    go_wp2_with fail
                    go_roundg (l.length - (j3 + 1))
                    case measure => omega
                    case rel => exact ⟨j3 + 1, vs3, by omega, by go_num, rfl, KR_step HKR.out (KR_not HD.out (by rw [HAN.out, Int.toNat_natCast]; exact HOK.out)), ((HG4.out.below p5.h)).mono (cnt_mono inn j3 _ _)⟩
                  | true =>
                    have HOK := Lib.hid hok
                    clear hok
                    refine wp_region_quiet_below (w := w4) (by kernel_rfl) (by kernel_rfl) ?_
                    repeat (go_big_quiet_step ((go_at_call 55; exact calls_below _ ((refAlone d (cells.getD an 0) _).mono fun _ _ h => ⟨h.1.trans (congrArg (fun b => Ending.returned (.tuple #[.int .i64 (doesNext d (cells.getD an 0)), .bool b])) HOK.out), h.2⟩))))
                    refine wpQuiet_nil ?_
                    intro w5 hw'
                    obtain ⟨p5, hp5⟩ := hw'
                    have hb5 : Below w4.heap.size w4 w5 := hp5 ▸ p5.h
                    have HG5 := Lib.hid (HG4.out.below hb5)
                    clear k0 k1 k2 k3 k4 hp5 hb5
                    go_wp2_with fail
                    have k0 : ∀ p : BelowOf w5, p.v.cell? ⟨S, 0, none⟩ = some (.slice sA l.length sac) := fun p => p.cell (cell_of_row _ _ 0 _ _ _ HG5.out.s)
                    have k1 : ∀ p : BelowOf w5, p.v.cell? ⟨S, 1, none⟩ = some (.slice cA m scc) := fun p => p.cell (cell_of_row _ _ 1 _ _ _ HG5.out.s)
                    have j0 := k0 ⟨w5, Below.refl _ _⟩
                    have j1 := k1 ⟨w5, Below.refl _ _⟩
                    simp only at j0 j1
                    have hS5 : S < w5.heap.size := HG5.out.ltS
                    have kS : ∀ p : BelowOf w5, S < p.v.heap.size := fun p => Nat.lt_of_lt_of_le hS5 p.le
                    have HR5 : Hid (∀ V, Below w5.heap.size w5 V → Row V sA (bools inn)) := fun V hV => (row_own HG5.out.a).below hV
                    have HC5 : Hid (∀ V, Below w5.heap.size w5 V → Row V cA (nums cells)) := fun V hV => (row_own HG5.out.c).below hV
                    go_cut [15] (fun tp w7 => TRel l m inn cells w5 tp w7)
                    case first =>
                      go_region_law (first
                        | (refine step_append_is rfl (.const (.slice none 0 0)) (.tmp 116) rfl elemBools rfl (base := w5.heap.size) (World.ownsRow_nil _ _ 4 1) sA l.length sac (bools inn) rfl (HR5.out _ (by repeat' first | refine Below.drew ?_ | refine Below.alloc ?_ (by first | exact Nat.le_refl _ | exact BelowOf.le _ | simp) _ | exact Below.refl _ _ | exact BelowOf.h _)) (by simp [bools, HIL.out]) (by intro u hu; obtain ⟨x, _, rfl⟩ := List.mem_map.1 hu; rfl) (by unfold maxLen; omega) (by omega) (by first | exact Nat.le_refl _ | exact BelowOf.le _ | exact BelowOf.le_alloc _ _ | simp) (by first | exact HRN.out | exact HCN.out) ?_
                           intro v2 w2 ho2 hg2 hat2
                           simp only [Nat.zero_add, List.nil_append] at ho2
                           obtain ⟨g2, gc2, rfl, _, _⟩ := ho2.form (by omega)
                           try (have hT := box_kept hg2 hT)
                           try (have hT := box_kept hg2 (heap_alloc_new _ _))
                           try (have tc := box_cells hT
                                obtain ⟨tc0, tc1, tf0, tf1⟩ := tc)
                           obtain ⟨p2, rfl⟩ : ∃ p : BelowOf w5, w2 = p.v := ⟨⟨w2, Below.grown (by repeat' first | refine Below.drew ?_ | refine Below.alloc ?_ (by first | exact Nat.le_refl _ | exact BelowOf.le _ | simp) _ | exact Below.refl _ _ | exact BelowOf.h _) hg2 (by first | exact Nat.le_refl _ | exact BelowOf.le _ | exact BelowOf.le_alloc _ _ | simp) (fun k hk => by cases hk)⟩, rfl⟩
                           try (have hown2 := own_grown (World.ownsRow.alloc hown1 _) hg2 (fun _ _ e => by cases e))
                           try (have hown2 := own_grown hown1 hg2 (fun _ _ e => by cases e))
                           try (have hown1 := ho2)
                           clear ho2 hg2 hat2)
                        | (refine step_append_is rfl (.const (.slice none 0 0)) (.tmp 119) rfl elemInt rfl (base := w5.heap.size) (World.ownsRow_nil _ _ 3 1) cA m scc (nums cells) rfl (HC5.out _ (by repeat' first | refine Below.drew ?_ | refine Below.alloc ?_ (by first | exact Nat.le_refl _ | exact BelowOf.le _ | simp) _ | exact Below.refl _ _ | exact BelowOf.h _)) (by simp [nums, HCL.out]) (by intro u hu; obtain ⟨x, _, rfl⟩ := List.mem_map.1 hu; rfl) (by unfold maxLen; omega) (by omega) (by first | exact Nat.le_refl _ | exact BelowOf.le _ | exact BelowOf.le_alloc _ _ | simp) (by first | exact HRN.out | exact HCN.out) ?_
                           intro v2 w2 ho2 hg2 hat2
                           simp only [Nat.zero_add, List.nil_append] at ho2
                           obtain ⟨g2, gc2, rfl, _, _⟩ := ho2.form (by omega)
                           try (have hT := box_kept hg2 hT)
                           try (have hT := box_kept hg2 (heap_alloc_new _ _))
                           try (have tc := box_cells hT
                                obtain ⟨tc0, tc1, tf0, tf1⟩ := tc)
                           obtain ⟨p2, rfl⟩ : ∃ p : BelowOf w5, w2 = p.v := ⟨⟨w2, Below.grown (by repeat' first | refine Below.drew ?_ | refine Below.alloc ?_ (by first | exact Nat.le_refl _ | exact BelowOf.le _ | simp) _ | exact Below.refl _ _ | exact BelowOf.h _) hg2 (by first | exact Nat.le_refl _ | exact BelowOf.le _ | exact BelowOf.le_alloc _ _ | simp) (fun k hk => by cases hk)⟩, rfl⟩
                           try (have hown2 := own_grown (World.ownsRow.alloc hown1 _) hg2 (fun _ _ e => by cases e))
                           try (have hown2 := own_grown hown1 hg2 (fun _ _ e => by cases e))
                           try (have hown1 := ho2)
                           clear ho2 hg2 hat2))
                      all_goals
                        go_wp2_with fail
                        go_meet
                        first
                        | exact TRel.alloc hown2 hown1 (BelowOf.h _)
                        | exact TRel.set hT (by first | exact Nat.le_refl _ | exact BelowOf.le _) hown2 hown1 (BelowOf.h _)
                    case rest =>
                      obtain ⟨T, p, g, pc, gc, htp, hT, hop, hog, hTle, hb6⟩ := hcut
                      subst htp
                      clear k0 k1 j0 j1 hS5 kS HR5 HC5
                      have hin : inn.getD j3 false = false := by
                        have := HMAY.out
                        rw [Bool.and_eq_true, Bool.not_eq_true'] at this
                        exact this.1
                      obtain ⟨csp, hcsp⟩ := own_block_cells hop (g := p) rfl
                      obtain ⟨csg, hcsg⟩ := own_block_cells hog (g := g) rfl
                      have hpT : p ≠ T := fun e => by
                        rw [e, hT] at hcsp
                        injection hcsp with h
                        injection h with _ h
                        cases h
                      have hgT : g ≠ T := fun e => by
                        rw [e, hT] at hcsg
                        injection hcsg with h
                        injection h with _ h
                        cases h
                      have hgp : g ≠ p := fun e => by
                        rw [e, hcsp] at hcsg
                        injection hcsg with h
                        injection h with _ h
                        cases h
                      obtain ⟨tc0, _, _, _⟩ := box_cells hT
                      have pc0 := hop.cellAt j3 (by omega)
                      have pf0 : wc.frozen? ⟨p, j3, none⟩ = false := frozen_block hcsp
                      have pv : (bools inn)[j3]? = some (.bool (inn.getD j3 false)) := by simp [bools, List.getD, HIL.out, hlt3]
                      rw [pv] at pc0
                      have hple := (hop.lt p rfl).1
                      have hgle := (hog.lt g rfl).1
                      have HT := Lib.hid hT; have HOP := Lib.hid hop; have HOG := Lib.hid hog; have HB6 := Lib.hid hb6; have HIN := Lib.hid hin; have HCSP := Lib.hid hcsp; have HCSG := Lib.hid hcsg
                      clear hT hop hog hb6 hin hcsp hcsg pv
                      go_wp2_with fail
                      clear tc0 pc0 pf0
                      obtain ⟨w7, hw7⟩ : ∃ w7, w7 = wc.setCell ⟨p, j3, none⟩ (.bool true) := ⟨_, rfl⟩
                      rw [← hw7]
                      have hT7 : w7.heap[T]? = some (.cells #[.slice (some ⟨p, 0, none⟩) l.length pc, .slice (some ⟨g, 0, none⟩) m gc] 84 (0, 0)) := by
                        rw [hw7]
                        exact (Below.heap_setCell _ _ _ _ (by exact fun e => hpT e.symm)).trans HT.out
                      have hop7 : w7.ownsRow w5.heap.size 4 1 (.slice (some ⟨p, 0, none⟩) l.length pc) l.length (bools (inn.set j3 true)) := by
                        have := (HOP.out.stored j3 (.bool true)).1
                        rw [show (bools inn).set j3 (.bool true) = bools (inn.set j3 true) by simp [bools, List.map_set]] at this
                        rw [hw7]
                        exact this
                      have hog7 : w7.ownsRow w5.heap.size 3 1 (.slice (some ⟨g, 0, none⟩) m gc) m (nums cells) := by
                        rw [hw7]
                        exact own_setCell HOG.out (fun cs' hc => by
                          rw [HCSP.out] at hc
                          injection hc with hc
                          injection hc with _ hc
                          cases hc) _
                      have hb7 : Below w5.heap.size w5 w7 := by rw [hw7]; exact HB6.out.setCell hple _
                      have hcg7 : w7.heap[g]? = some (.cells csg 3 (0, 0)) := by
                        rw [hw7]
                        exact (Below.heap_setCell _ _ _ _ hgp).trans HCSG.out
                      have hg7 := HG5.out.below hb7
                      obtain ⟨lb2, loff2, hlA2, _, _, _, d3, _⟩ := (HRL.out.below hg7.rv.b).deed HD.out
                      obtain ⟨_, tc1, _, _⟩ := box_cells hT7
                      have q1 := cell_of_row _ _ 0 _ _ _ hg7.rv.x
                      simp only [List.getElem?_toArray, List.getElem?_cons_zero] at q1
                      rw [hlA2] at q1
                      rw [HAN.out] at d3
                      have gc0 := hog7.cellAt an (by omega)
                      have gf0 : w7.frozen? ⟨g, an, none⟩ = false := frozen_block hcg7
                      have gv : (nums cells)[an]? = some (.int .i64 (cells.getD an 0)) := by simp [nums, List.getD, HCL.out, hanl]
                      rw [gv] at gc0
                      have HT7 := Lib.hid hT7; have HOP7 := Lib.hid hop7; have HOG7 := Lib.hid hog7; have HB7 := Lib.hid hb7
                      clear hw7 hT7 hop7 hog7 hb7 hcg7 hg7 gv hlA2
                      go_region
                      clear tc1 q1 d3 gc0 gf0
                      obtain ⟨w8, hw8⟩ : ∃ w8, w8 = (w7.setCell ⟨g, an, none⟩ (.int .i64 (doesNext d (cells.getD an 0)))).drew := ⟨_, rfl⟩
                      have hw8' := hw8
                      rw [List.getD_eq_getElem?_getD] at hw8'
                      rw [← hw8']
                      have hT8 : w8.heap[T]? = some (.cells #[.slice (some ⟨p, 0, none⟩) l.length pc, .slice (some ⟨g, 0, none⟩) m gc] 84 (0, 0)) := by
                        rw [hw8]
                        exact (Below.heap_setCell _ _ _ _ (by exact fun e => hgT e.symm)).trans HT7.out
                      have hog8 : w8.ownsRow w5.heap.size 3 1 (.slice (some ⟨g, 0, none⟩) m gc) m (nums (cells.set an (doesNext d (cells.getD an 0)))) := by
                        have := (HOG7.out.stored an (.int .i64 (doesNext d (cells.getD an 0)))).1
                        rw [show (nums cells).set an (.int .i64 (doesNext d (cells.getD an 0))) = nums (cells.set an (doesNext d (cells.getD an 0))) by simp [nums, List.map_set]] at this
                        rw [hw8]
                        exact own_below this (Below.refl _ _).drew
                      have hop8 : w8.ownsRow w5.heap.size 4 1 (.slice (some ⟨p, 0, none⟩) l.length pc) l.length (bools (inn.set j3 true)) := by
                        rw [hw8]
                        obtain ⟨csg', hcg'⟩ := own_block_cells HOG7.out (g := g) rfl
                        exact own_below (own_setCell HOP7.out (fun cs' hc => by
                          rw [hcg'] at hc
                          injection hc with hc
                          injection hc with _ hc
                          cases hc) _) (Below.refl _ _).drew
                      have hb8 : Below w5.heap.size w5 w8 := by rw [hw8]; exact (HB7.out.setCell hgle _).drew
                      have hg8 := HG5.out.below hb8
                      have HOP8 := Lib.hid hop8; have HOG8 := Lib.hid hog8; have HB8 := Lib.hid hb8; have HG8 := Lib.hid hg8; have HT8 := Lib.hid hT8
                      clear hw8 hw8' hT8 hog8 hop8 hb8 hg8 HT HOP HOG HB6 HT7 HOP7 HOG7 HB7
                      go_wp2_with fail
                      have ldA : (loadCellsFrom ⟨T, 0, none⟩ 0 2 #[]).run Try.prog w8.drew = .ok #[.slice (some ⟨p, 0, none⟩) l.length pc, .slice (some ⟨g, 0, none⟩) m gc] w8.drew := load_block (w := w8.drew) HT8.out rfl
                      have ldB : ∀ o, (loadCellsFrom ⟨T, 0, none⟩ 0 2 #[]).run Try.prog (w8.alloc o).drew = .ok #[.slice (some ⟨p, 0, none⟩) l.length pc, .slice (some ⟨g, 0, none⟩) m gc] (w8.alloc o).drew := fun o => load_block (w := (w8.alloc o).drew) ((Below.heap_alloc w8 o _ (Array.getElem?_eq_some_iff.1 HT8.out).1).trans HT8.out) rfl
                      have ldC : ∀ q : BelowOf w8, (loadCellsFrom ⟨T, 0, none⟩ 0 2 #[]).run Try.prog q.v = .ok #[.slice (some ⟨p, 0, none⟩) l.length pc, .slice (some ⟨g, 0, none⟩) m gc] q.v := fun q => load_block (q.heap HT8.out) rfl
                      have ldD : ∀ (q : BelowOf w8) o, (loadCellsFrom ⟨T, 0, none⟩ 0 2 #[]).run Try.prog (q.v.alloc o) = .ok #[.slice (some ⟨p, 0, none⟩) l.length pc, .slice (some ⟨g, 0, none⟩) m gc] (q.v.alloc o) := fun q o => load_block ((Below.heap_alloc q.v o _ (Array.getElem?_eq_some_iff.1 (q.heap HT8.out)).1).trans (q.heap HT8.out)) rfl
                      have HO8 : Hid (∀ U, Below w8.heap.size w8 U → Row U oA (ints xs)) := fun U hU => (row_own HG8.out.o).below hU
                      have hxl2 : xs.length ≤ 14 := by omega
                      have hcnt := HXN.out
                      have hle8 : w0.heap.size ≤ w8.heap.size := HG8.out.rv.b.size
                      have hle5 : w0.heap.size ≤ w5.heap.size := HG5.out.rv.b.size
                      go_cut [16, 17] (fun r b w9 => CutR l m K X V S (.slice lA l.length lc) w0 (.slice sA l.length sac) (.slice cA m scc) (.slice oA xs.length oc) inn cells xs vs wb (inn.set j3 true) (cells.set an (doesNext d (cells.getD an 0))) j3 r b w9)
                      case first =>
                        go_region_law (first
                          | (refine step_append_is rfl (.const (.slice none 0 0)) (.tmp 141) rfl elemInt rfl (base := w8.heap.size) (World.ownsRow_nil _ _ 3 1) oA xs.length oc (ints xs) rfl (HO8.out _ (by repeat' first | refine Below.drew ?_ | refine Below.alloc ?_ (by first | exact Nat.le_refl _ | exact BelowOf.le _ | simp) _ | exact Below.refl _ _ | exact BelowOf.h _)) (by simp [ints]) (ints_oneCell xs) (by unfold maxLen; omega) (by omega) (by first | exact Nat.le_refl _ | exact BelowOf.le _ | exact BelowOf.le_alloc _ _ | simp) HON.out ?_
                             intro v2 w2 ho2 hg2 hat2
                             simp only [Nat.zero_add, List.nil_append] at ho2
                             try (have hbox := cell_below (below_none hg2) _ _ (cell_new _ _ _))
                             obtain ⟨p2, rfl⟩ : ∃ q : BelowOf w8, w2 = q.v := ⟨⟨w2, Below.grown (by repeat' first | refine Below.drew ?_ | refine Below.alloc ?_ (by first | exact Nat.le_refl _ | exact BelowOf.le _ | simp) _ | exact Below.refl _ _ | exact BelowOf.h _) hg2 (by first | exact Nat.le_refl _ | exact BelowOf.le _ | exact BelowOf.le_alloc _ _ | simp) (fun k hk => by cases hk)⟩, rfl⟩
                             have hov : ∀ k, v2.ownBlock = some k → w8.heap.size ≤ k := fun k hk => (ho2.lt k hk).1
                             clear hg2 hat2)
                          | (refine step_append_is rfl (.tmp 142) (.tmp 144) rfl elemInt rfl (base := w8.heap.size) (n := xs.length) (xs := ints xs) (by first | assumption | exact World.ownsRow.alloc (by assumption) _) _ 1 _ [.int .i64 (j3 : Int)] rfl (by first | exact row_one (by assumption) | exact row_one (cell_new _ _ _)) rfl (by simp [Value.oneCell']) (by unfold maxLen; omega) (by omega) (by first | exact Nat.le_refl _ | exact BelowOf.le _ | exact BelowOf.le_alloc _ _ | simp) (fun e => by cases e) ?_
                             intro v3 w3 ho3 hg3 hat3
                             obtain ⟨p3, rfl⟩ : ∃ q : BelowOf w8, w3 = q.v := by first | exact BelowOf.grown _ hg3 (by assumption) | exact BelowOf.grown_alloc _ _ hg3 (by assumption)
                             clear hg3 hat3)
                          | (go_simp; go_at_call 32
                             refine (IH.out (n - 1) (by omega) (inn.set j3 true) (cells.set an (doesNext d (cells.getD an 0))) (xs ++ [j3]) vs3 (K + (inn.take j3).count false * callsR (inn.count false - 1)) _ _ _ _ (by rw [count_set_true (by rw [HIL.out]; exact hlt3) HIN.out, HN.out]) (by simp; omega) (by exact calls_le HIL.out hlt3 HIN.out HN.out HK.out) (by exact (HG8.out.below (BelowOf.h _)).rv) (by exact own_base (own_below HOP8.out (BelowOf.h _)) hle5) (by exact own_base (own_below HOG8.out (BelowOf.h _)) hle5) (by exact own_base (by first | assumption | (simpa [ints] using (by assumption))) hle8)).mono ?_
                             rintro e9 w9 ⟨vs9, hrv9, hfr9, r9, b9, rfl, hcase9⟩))
                        all_goals
                          go_wp2_with fail
                          go_meet
                          rw [count_set_true (by rw [HIL.out]; exact hlt3) HIN.out] at hrv9
                          exact ⟨vs9, b9, (HG8.out.below (BelowOf.h _)).step hrv9 hfr9, rfl, hcase9.imp (fun h => ⟨h.1, h.2.2⟩) id⟩
                      case rest =>
                        obtain ⟨vs9, c9, hg9, hc9, hf9⟩ := hcut
                        subst hc9
                        have HG9 := Lib.hid hg9; have HF9 := Lib.hid hf9
                        clear hg9 hf9 ldA ldB ldC ldD
                        have HYES : Hid (∀ r, LR l (inn.set j3 true) (cells.set an (doesNext d (cells.getD an 0))) r → KR l inn cells j3 (r.map (j3 :: ·))) := by
                          intro r hr
                          have h1 : d.a.toNat = an := by rw [HAN.out, Int.toNat_natCast]
                          refine KR_yes (fun e he => (HA.out e he).1) HD.out HMAY.out ?_ ?_
                          · rw [h1]; exact HOK.out
                          · rw [h1]; exact hr
                        cases c9 with
                        | true =>
                          go_wp2_with fail
                          go_ret2
                          rcases HF9.out with ⟨_, h⟩ | ⟨t, h1, _, h3⟩
                          · cases h
                          refine ⟨vs9, HG9.out.rv.mono ?_, (Fr.of_below HBW.out).trans HG9.out.fr, _, true, rfl, .inr ⟨j3 :: t, ?_, rfl, ?_⟩⟩
                          · exact Nat.le_of_succ_le (calls_step (K := K) (by rw [HIL.out]; exact hlt3) HIN.out rfl)
                          · exact LR_first HDN.out hlt3 HKR.out (HYES.out _ h1)
                          · have e1 : (xs ++ [j3]).length + t.length = xs.length + (j3 :: t).length := by simp; omega
                            have e2 : xs ++ [j3] ++ t = xs ++ j3 :: t := by simp
                            rw [← e1, ← e2]
                            exact h3
                        | false =>
                          go_wp2_with fail
                          go_roundg (l.length - (j3 + 1))
                          case measure => omega
                          case rel =>
                            refine ⟨j3 + 1, vs9, by omega, by go_num, rfl, KR_step HKR.out ?_, ?_⟩
                            · rcases HF9.out with ⟨h, _⟩ | ⟨t, _, h, _⟩
                              · exact HYES.out _ h
                              · cases h
                            · have h1 := cnt_succ inn j3 (by rw [HIL.out]; exact hlt3)
                              rw [if_pos HIN.out] at h1
                              rw [h1, Nat.add_mul, Nat.one_mul, ← Nat.add_assoc]
                              exact HG9.out
              · obtain rfl : j3 = l.length := by omega
                have htake : inn.take l.length = inn := List.take_of_length_le (by rw [HIL.out]; exact Nat.le_refl _)
                rw [htake] at hg3
                have HNONE : Hid (LR l inn cells none) := LR_none HDN.out HKR.out
                obtain ⟨u3, hu3⟩ : ∃ u, vs3[xs.length]? = some u := ⟨_, List.getElem?_eq_getElem (by rw [hg3.rv.len]; exact hxl)⟩
                obtain ⟨sts3, hst3, hsk3, hsin3⟩ := hg3.rv.rows _ _ hu3
                obtain ⟨uA3, uc3, rfl, _, _⟩ := row_of_own hst3
                have r2 := cell_of_row _ _ 1 _ _ _ hg3.rv.x
                have r3 := cell_of_row _ _ xs.length _ _ _ hg3.rv.v
                have rf3 : wo.frozen? ⟨V, xs.length, none⟩ = false := frozen_block hg3.rv.v
                simp only [List.getElem?_toArray, List.getElem?_cons_zero, List.getElem?_cons_succ] at r2 r3
                rw [hu3] at r3
                have HU3 := Lib.hid hu3; have HST3 := Lib.hid hst3; have HSK3 := Lib.hid hsk3; have HSIN3 := Lib.hid hsin3; have HGE := Lib.hid hg3
                have HKE := Lib.hid (calls_end (K := K) HN.out hpos)
                have hxlI : (xs.length : Int) < (l.length : Int) + 1 := by omega
                have ldA : (loadCellsFrom ⟨S, 0, none⟩ 0 2 #[]).run Try.prog wo.drew = .ok #[.slice sA l.length sac, .slice cA m scc] wo.drew := load_block (w := wo.drew) hg3.s rfl
                have hVl := hg3.rv.lts
                have hVX := hVl.1; have hVV := hVl.2
                clear hkr hg3 hu3 hst3 hsk3 hsin3 htake hVl
                go_wp2_with fail
                clear q1
                go_region_law (first
                  | (refine step_append_is rfl (.tmp 162) (.tmp 164) rfl elemState rfl (base := w0.heap.size) (n := sts3.length) (xs := stCells sts3) (by exact own_below HST3.out (by repeat' first | refine Below.drew ?_ | refine Below.alloc ?_ (by first | exact Nat.le_refl _ | exact BelowOf.le _ | simp) _ | exact Below.refl _ _ | exact BelowOf.h _)) _ 1 _ [.slice sA l.length sac, .slice cA m scc] rfl (by first | exact row_two _ _ _ _ | exact (row_two _ _ _ _).below (Below.refl _ _).drew) rfl (by intro u hu; simp only [List.mem_cons, List.not_mem_nil, or_false] at hu; rcases hu with rfl | rfl <;> rfl) (by have h1 := HSK3.out; have h2 := HKE.out; have h3 := HK.out; unfold maxLen; omega) (by have h1 := HSK3.out; have h2 := HKE.out; have h3 := HK.out; omega) (by have := HGE.out.rv.b.size; first | assumption | (simp; omega)) (fun e => by cases e) ?_
                     intro v2 w2 ho2 hg2 hat2
                     obtain ⟨A2, c2, rfl, _, _⟩ := row_of_own ho2
                     have hfin := RV.add (t := ⟨inn, cells, .slice sA l.length sac, .slice cA m scc⟩) (HGE.out.rv.below (by repeat' first | refine Below.drew ?_ | refine Below.alloc ?_ (by first | exact Nat.le_refl _ | exact BelowOf.le _ | simp) _ | exact Below.refl _ _ | exact BelowOf.h _)) HU3.out (own_below HST3.out (by repeat' first | refine Below.drew ?_ | refine Below.alloc ?_ (by first | exact Nat.le_refl _ | exact BelowOf.le _ | simp) _ | exact Below.refl _ _ | exact BelowOf.h _)) (fun t ht => (HSIN3.out t ht).below (by repeat' first | refine Below.drew ?_ | refine Below.alloc ?_ (by first | exact Nat.le_refl _ | exact BelowOf.le _ | simp) _ | exact Below.refl _ _ | exact BelowOf.h _)) HSK3.out ⟨own_below HGE.out.a (by repeat' first | refine Below.drew ?_ | refine Below.alloc ?_ (by first | exact Nat.le_refl _ | exact BelowOf.le _ | simp) _ | exact Below.refl _ _ | exact BelowOf.h _), own_below HGE.out.c (by repeat' first | refine Below.drew ?_ | refine Below.alloc ?_ (by first | exact Nat.le_refl _ | exact BelowOf.le _ | simp) _ | exact Below.refl _ _ | exact BelowOf.h _), HNONE.out⟩ hg2 (by rw [stCells_snoc]; exact ho2) hat2
                     have hfr : Fr V vs3 wo (vs3.set xs.length (.slice A2 (sts3.length + 1) c2)) (w2.setCell ⟨V, xs.length, none⟩ (.slice A2 (sts3.length + 1) c2)) := (Fr.of_below (by repeat' first | refine Below.drew ?_ | refine Below.alloc ?_ (by first | exact Nat.le_refl _ | exact BelowOf.le _ | simp) _ | exact Below.refl _ _ | exact BelowOf.h _)).trans hfin.2
                     have hrv := hfin.1
                     have hhd := RV.heads (HGE.out.rv.below (by repeat' first | refine Below.drew ?_ | refine Below.alloc ?_ (by first | exact Nat.le_refl _ | exact BelowOf.le _ | simp) _ | exact Below.refl _ _ | exact BelowOf.h _)) (List.mem_of_getElem? HU3.out) hg2
                     have s2 := cell_of_row _ _ 1 _ _ _ hhd.1
                     have s3 := cell_of_row _ _ xs.length _ _ _ hhd.2
                     have sf3 : w2.frozen? ⟨V, xs.length, none⟩ = false := frozen_block hhd.2
                     simp only [List.getElem?_toArray, List.getElem?_cons_zero, List.getElem?_cons_succ] at s2 s3
                     rw [HU3.out] at s3
                     have HRVF := Lib.hid hrv; have HFRF := Lib.hid hfr
                     clear hfin hrv hfr hhd ho2 hg2 hat2))
                all_goals
                  go_wp2_with fail
                  go_ret2
                  refine ⟨_, HRVF.out.mono ?_, ((Fr.of_below HBW.out).trans HGE.out.fr).trans HFRF.out, _, false, rfl, .inl ⟨HNONE.out, rfl, rfl⟩⟩
                  rw [HN.out]
                  exact Nat.le_of_eq (HN.out ▸ HKE.out)
end Go.Proofs.Ytpnegacfanbcfaa
