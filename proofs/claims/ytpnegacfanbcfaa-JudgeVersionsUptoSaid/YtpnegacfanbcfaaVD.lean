/- The document's judge of versions: the versions that are told. -/
import Derived.Test.YtpnegacfanbcfaaVC
import Derived.Test.YtpnegacfanbcfaaVersP
namespace Go.Proofs.Ytpnegacfanbcfaa
open Go.RowKit Go.Maps

abbrev Tl := List (Int × Int)
def rlast (acc : List Tl) : Tl := acc.getLast?.getD []
def rtellsL (F : Int → List Ev) : Nat → List Tl → List Tl
  | 0, acc => acc
  | k + 1, acc => match F ((acc.length : Int) + 1) with
    | [e] => rtellsL F k (acc ++ [behindL (rlast acc) e])
    | _ => acc
def rtold (l : List Ev) (parts : Int) (start : Tl) (part : Int) : List Tl := rtellsL (pubF l parts part) (l.length + 1) [start]
theorem last_map (acc : List Tl) : lastT (acc.map tabOf) = tabOf (rlast acc) := by
  unfold lastT rlast
  rw [List.getLast?_map]
  cases acc.getLast? <;> rfl
theorem rtells_map (F : Int → List Ev) : ∀ (k : Nat) (acc : List Tl), (rtellsL F k acc).map tabOf = tellsL F k (acc.map tabOf)
  | 0, acc => rfl
  | k + 1, acc => by
    unfold rtellsL tellsL
    rw [List.length_map]
    cases h : F ((acc.length : Int) + 1) with
    | nil => rfl
    | cons e r =>
      cases r with
      | nil =>
        simp only
        rw [rtells_map F k, List.map_append, last_map, List.map_cons, List.map_nil, tab_behind]
      | cons _ _ => rfl
theorem rtold_map (l : List Ev) (parts : Int) (start : Tl) (part : Int) : (rtold l parts start part).map tabOf = told l parts start part := rtells_map _ _ _
theorem rtellsL_stop {F : Int → List Ev} {m : Nat} {acc : List Tl} (h : (F ((acc.length : Int) + 1)).length ≠ 1) : rtellsL F m acc = acc := by
  cases m with
  | zero => rfl
  | succ m =>
    unfold rtellsL
    split
    · rename_i e he
      rw [he] at h
      exact absurd rfl h
    · rfl
theorem rtellsL_go {F : Int → List Ev} {m : Nat} {acc : List Tl} {e : Ev} (h : F ((acc.length : Int) + 1) = [e]) : rtellsL F (m + 1) acc = rtellsL F m (acc ++ [behindL (rlast acc) e]) := by
  rw [rtellsL, h]

theorem elemTable : ElemOk Try.prog 89 114 1 24 := elemOk_of (by kernel_rfl) (by decide) (.agg #[.slice none 0 0]) (by kernel_rfl) rfl
def tabCells (ts : List Tl) (hs : List (Option Addr × Nat)) : List Value := (ts.zip hs).map fun p => .slice p.2.1 p.1.length p.2.2
/-- a row of tables, of the call's own. -/
structure Tabs (w : World) (B : Nat) (v : Value) (ts : List Tl) (hs : List (Option Addr × Nat)) : Prop where
  len : hs.length = ts.length
  own : w.ownsRow B 114 1 v ts.length (tabCells ts hs)
  rows : ∀ (k : Nat) t h, ts[k]? = some t → hs[k]? = some h → Row58 w h.1 t
theorem Tabs.below {w w' : World} {B : Nat} {v : Value} {ts : List Tl} {hs : List (Option Addr × Nat)} (h : Tabs w B v ts hs) (hb : Below w.heap.size w w') : Tabs w' B v ts hs :=
  ⟨h.len, own_below h.own hb, fun k t x h1 h2 => (h.rows k t x h1 h2).below hb⟩
theorem tabCells_snoc {ts : List Tl} {hs : List (Option Addr × Nat)} (h : hs.length = ts.length) (t : Tl) (A : Option Addr) (c : Nat) : tabCells (ts ++ [t]) (hs ++ [(A, c)]) = tabCells ts hs ++ [.slice A t.length c] := by
  unfold tabCells
  rw [List.zip_append h.symm]
  simp
theorem Tabs.snoc {w w2 : World} {B : Nat} {v v2 : Value} {ts : List Tl} {hs : List (Option Addr × Nat)} {t : Tl} {A : Option Addr} {c : Nat} (h : Tabs w B v ts hs) (ht : Row58 w A t) (hg : w.grownBy w2 v.ownBlock) (ho : w2.ownsRow B 114 1 v2 (ts.length + 1) (tabCells ts hs ++ [.slice A t.length c])) :
    Tabs w2 B v2 (ts ++ [t]) (hs ++ [(A, c)]) := by
  have hk : ∀ (k : Nat) (cs : Array Value) (fr : Nat × Nat), w.heap[k]? = some (Obj.cells cs 58 fr) → w2.heap[k]? = some (Obj.cells cs 58 fr) := by
    intro k cs fr hc
    refine (hg.block _ (Array.getElem?_eq_some_iff.1 hc).1 (fun e => ?_)).trans hc
    obtain ⟨cs', h'⟩ := own_block_cells h.own e.symm
    rw [hc] at h'
    injection h' with h'
    injection h' with _ h'
    cases h'
  refine ⟨by simp [h.len], ?_, fun k t' x h1 h2 => ?_⟩
  · rw [tabCells_snoc h.len]
    simpa using ho
  · rcases Nat.lt_or_ge k ts.length with hlt | hge
    · rw [List.getElem?_append_left hlt] at h1
      rw [List.getElem?_append_left (by rw [h.len]; exact hlt)] at h2
      exact (h.rows k t' x h1 h2).kept hk
    · rw [List.getElem?_append_right hge] at h1
      rw [List.getElem?_append_right (by rw [h.len]; exact hge), h.len] at h2
      have hk0 : k - ts.length = 0 := by
        rcases Nat.eq_zero_or_pos (k - ts.length) with h' | h'
        · exact h'
        · rw [List.getElem?_eq_none (by simp; omega)] at h1
          cases h1
      rw [hk0] at h1 h2
      simp at h1 h2
      subst h1 h2
      exact ht.kept hk
theorem pairCells_length (l : Tl) : (pairCells l).length = l.length * 2 := by
  induction l with
  | nil => rfl
  | cons p l ih =>
    show ([Value.int .i64 p.1, Value.int .i64 p.2] ++ pairCells l).length = _
    rw [List.length_append, ih]
    simp
    omega
theorem pairCells_oneCell (l : Tl) : ∀ u ∈ pairCells l, u.oneCell' = true := by
  intro u hu
  obtain ⟨p, _, hp⟩ := List.mem_flatMap.1 hu
  simp only [List.mem_cons, List.not_mem_nil, or_false] at hp
  rcases hp with rfl | rfl <;> rfl
/-- the history's block. -/
structure RHist (l : List Ev) (parts : Int) (X : Nat) (lA : Option Addr) (lc : Nat) (w : World) : Prop where
  p : w.cell? ⟨X, 0, none⟩ = some (.int .i64 parts)
  ll : w.cell? ⟨X, 1, none⟩ = some (.slice lA l.length lc)
  row : Row w lA (evCells l)
  evs : ∀ e ∈ l, e.In w
theorem RHist.below {l : List Ev} {parts : Int} {X : Nat} {lA : Option Addr} {lc : Nat} {w w' : World} (h : RHist l parts X lA lc w) (hb : Below w.heap.size w w') : RHist l parts X lA lc w' :=
  ⟨cell_below hb _ _ h.p, cell_below hb _ _ h.ll, h.row.below hb, fun e he => (h.evs e he).below hb⟩

/-- the three ways of tells' test. -/
def TlWay (e : Ev) (parts part : Int) (K : Int) (c : Bool) : Prop :=
  (endedB parts part e = false ∧ c = false) ∨ (endedB parts part e = true ∧ writesB e = false ∧ c = false) ∨ (endedB parts part e = true ∧ writesB e = true ∧ (e.number == K) = c)
theorem tlWay (e : Ev) (parts part : Int) (K : Int) : ∃ c, TlWay e parts part K c := by
  unfold TlWay
  cases endedB parts part e
  · exact ⟨false, .inl ⟨rfl, rfl⟩⟩
  cases writesB e
  · exact ⟨false, .inr (.inl ⟨rfl, rfl, rfl⟩)⟩
  · exact ⟨_, .inr (.inr ⟨rfl, rfl, rfl⟩)⟩
theorem tlWay_is {e : Ev} {parts part : Int} {K : Int} {c : Bool} (h : TlWay e parts part K c) : (pubB parts part e && decide (e.number = K)) = c := by
  unfold TlWay endedB at h
  unfold pubB
  rcases h with ⟨h1, rfl⟩ | ⟨h1, h2, rfl⟩ | ⟨h1, h2, rfl⟩
  · cases hw : writesB e
    · simp
    · have hk : (e.kind == 4) = false := by
        unfold writesB at hw
        simp only [Bool.or_eq_true, beq_iff_eq] at hw
        rcases hw with h | h <;> simp [h]
      rw [hk] at h1
      cases hi : isB e parts
      · simp
      · rw [hi] at h1
        simp at h1
        simp only [Bool.true_and, Bool.and_true]
        by_cases he : e.end_ = 0
        · simp [he]
        · simp [h1 he]
  · rw [h2]; simp
  · rw [h2]
    simp only [Bool.and_eq_true, Bool.not_eq_true', beq_eq_false_iff_ne, beq_iff_eq] at h1
    simp [h1.1, h1.2.1, h1.2.2.2, BEq.beq]
theorem pubF_take_succ {l : List Ev} {parts part K : Int} {j : Nat} {e : Ev} (h : l[j]? = some e) : pubF (l.take (j + 1)) parts part K = pubF (l.take j) parts part K ++ (if (pubB parts part e && decide (e.number = K)) = true then [e] else []) := by
  unfold pubF
  rw [take_snoc' h, List.filter_append]
  congr 1
  simp [List.filter_cons]
/-- over the events: how many publish K, and the last of them. -/
def CtRel (l : List Ev) (parts part K : Int) (w : World) (k : Nat) (n a i : Value) (wr : World) : Prop :=
  ∃ (j m : Nat), j ≤ l.length ∧ i = .int .i64 (j : Int) ∧ k = l.length - j ∧ n = .int .i64 ((pubF (l.take j) parts part K).length : Nat) ∧ a = .int .i64 (m : Int) ∧ (pubF (l.take j) parts part K ≠ [] → ∃ e, l[m]? = some e ∧ (pubF (l.take j) parts part K).getLast? = some e) ∧ Below w.heap.size w wr
/-- how far it has come. -/
def RtRel (l : List Ev) (parts part : Int) (start : Tl) (w : World) (k : Nat) (out : Value) (wr : World) : Prop :=
  ∃ (acc : List Tl) (hs : List (Option Addr × Nat)), Tabs wr w.heap.size out acc hs ∧ acc.length + k = l.length + 2 ∧ 1 ≤ acc.length ∧ rtold l parts start part = rtellsL (pubF l parts part) k acc ∧
    (∀ n : Nat, 2 ≤ n → n ≤ acc.length → (pubF l parts part n).length = 1) ∧ (∀ t ∈ acc, t.length ≤ 3000 + 3001 * (acc.length - 1)) ∧ Below w.heap.size w wr
attribute [-go_sem] loadCellsFrom
set_option maxRecDepth 100000 in
set_option maxHeartbeats 8000000 in
theorem refTells (l : List Ev) (parts : Int) (X : Nat) (lA : Option Addr) (lc : Nat) (start : Tl) (sA : Option Addr) (sc : Nat) (part : Int) (w : World) (hh : RHist l parts X lA lc w) (hll : l.length ≤ 1024) (hsm : ∀ e ∈ l, e.Small)
    (hs : Row w sA (pairCells start)) (hsn : sA = none → start.length = 0) (hsl : start.length ≤ 3000) :
    Calls Try.prog 33 #[.pointer (some ⟨X, 0, none⟩), .slice sA start.length sc, .int .i64 part] w fun r w' => ∃ v hs, r = .returned v ∧ Tabs w' w.heap.size v (rtold l parts start part) hs ∧ (∀ t ∈ rtold l parts start part, t.length ≤ 3900000) ∧ (rtold l parts start part).length ≤ l.length + 1 ∧ Below w.heap.size w w' := by
  have HH := Lib.hid hh; have HSM := Lib.hid hsm; have HS := Lib.hid hs; have HSN := Lib.hid hsn
  clear hh hsm hs hsn
  go_enter Try.func33, Try.ntmps33
  go_wp2_with (at_builtin; refine wpList_append_is rfl (.const (.slice none 0 0)) (.tmp 12) rfl elemPair rfl (base := w.heap.size) (World.ownsRow_nil _ _ 58 2) sA start.length sc (pairCells start) rfl HS.out (pairCells_length start) (pairCells_oneCell start) (by unfold maxLen; omega) (by omega) (Nat.le_refl _) HSN.out ?_
               intro v1 w1 ho1 hg1 hat1
               simp only [Nat.zero_add, List.nil_append] at ho1
               obtain ⟨A1, c1, rfl, _, _⟩ := row_of_own ho1
               have hb1 : Below w.heap.size w w1 := (Below.refl _ _).grown hg1 (Nat.le_refl _) (fun k hk => by cases hk)
               have HO1 := Lib.hid ho1; have HB1 := Lib.hid hb1
               clear ho1 hg1 hat1 hb1)
  obtain ⟨W, hW⟩ : ∃ W, W = w1.alloc (.cells #[.slice A1 start.length c1] 114) := ⟨_, rfl⟩
  have hst : Tabs W w.heap.size (.slice (some ⟨w1.heap.size, 0, none⟩) 1 1) [start] [(A1, c1)] := by
    rw [hW]
    refine ⟨rfl, own_made_one w1 w.heap.size 114 _ HB1.out.size, fun k t h h1 h2 => ?_⟩
    have hk : k = 0 := by
      rcases Nat.eq_zero_or_pos k with h' | h'
      · exact h'
      · rw [List.getElem?_eq_none (by simp; omega)] at h1
        cases h1
    subst hk
    simp at h1 h2
    subst h1 h2
    exact (Row58.of_own HO1.out rfl).below ((Below.refl _ _).alloc (Nat.le_refl _) _)
  have hbW : Below w.heap.size w W := by rw [hW]; exact HB1.out.alloc HB1.out.size _
  have HST := Lib.hid hst; have HBW := Lib.hid hbW
  rw [← hW]
  clear hW hst hbW HO1
  go_loopg [7] (l.length + 1) (fun k out wr => RtRel l parts part start w k out wr)
  case atStart =>
    refine ⟨[start], [(A1, c1)], HST.out, by simp; omega, Nat.le_refl _, rfl, fun n h1 h2 => ?_, fun t ht => ?_, HBW.out⟩
    · simp at h2
      omega
    · obtain rfl : t = start := by simpa using ht
      simp
      exact hsl
  case round =>
    obtain ⟨acc, hs, ht, hk, h1, heq, hall, hlen, hb⟩ := hrel
    obtain ⟨wo, hwo⟩ : ∃ wo : World, wo = wr := ⟨_, rfl⟩
    subst hwo
    obtain ⟨g, gc, rfl, _, _⟩ := ht.own.form (by omega)
    have HT := Lib.hid ht; have HEQ := Lib.hid heq; have HALL := Lib.hid hall; have HLEN := Lib.hid hlen; have HB := Lib.hid hb; have HK := Lib.hid hk
    have hal : acc.length ≤ l.length + 1 ∧ True := by
      refine ⟨?_, trivial⟩
      obtain ⟨q, hq⟩ : ∃ q, acc.length = q + 1 := ⟨acc.length - 1, by omega⟩
      have h2 := singles_le (l := l) (parts := parts) (part := part) q (fun n h1 h2 => hall n h1 (by omega))
      have h3 := upTo_le l parts part ((q : Int) + 1)
      omega
    have hal1 := hal.1
    clear ht heq hall hlen hb hal
    go_wp2_with fail
    go_loopg [8, 9, 10] l.length (fun k n a i wr => CtRel l parts part ((acc.length : Int) + 1) wo k n a i wr)
    case atStart => exact ⟨0, 0, Nat.zero_le _, rfl, rfl, rfl, rfl, fun h => absurd rfl h, Below.refl _ _⟩
    case round =>
      obtain ⟨j, m, hj, rfl, rfl, rfl, rfl, hlast, hb2⟩ := hrel
      obtain ⟨wi, hwi⟩ : ∃ wi : World, wi = wr := ⟨_, rfl⟩
      subst hwi
      have HLAST := Lib.hid hlast; have HB2 := Lib.hid hb2
      have HH2 := Lib.hid (HH.out.below (HB.out.trans (hb2.mono HB.out.size)))
      have q1 := HH2.out.ll
      have hpl : (pubF (l.take j) parts part ((acc.length : Int) + 1)).length ≤ j := by
        unfold pubF
        exact Nat.le_trans (List.length_filter_le _ _) (by simp; omega)
      clear hlast hb2
      by_cases hlt : j < l.length
      · obtain ⟨e, he⟩ : ∃ e, l[j]? = some e := ⟨_, List.getElem?_eq_getElem hlt⟩
        have HE := Lib.hid he
        have HSE := Lib.hid (HSM.out e (List.mem_of_getElem? he))
        have HIE := Lib.hid (HH2.out.evs e (List.mem_of_getElem? he))
        have HSUC := Lib.hid (pubF_take_succ (parts := parts) (part := part) (K := (acc.length : Int) + 1) he)
        obtain ⟨c, hc⟩ := tlWay e parts part ((acc.length : Int) + 1)
        have HC := Lib.hid (tlWay_is hc)
        obtain ⟨b, off, hA, _⟩ := load_ev HH2.out.row he
        have HCL : Hid (∀ V, Below wi.heap.size wi V → V.cell? ⟨X, 1, none⟩ = some (.slice (some ⟨b, off, none⟩) l.length lc) ∧ (loadCellsFrom ⟨b, off + j * 13, none⟩ 0 13 #[]).run Try.prog V = .ok e.arr V ∧ V.cell? ⟨b, off + j * 13 + 6, none⟩ = some (.int .i64 e.number)) := by
          intro V hV
          refine ⟨hA ▸ cell_below hV _ _ HH2.out.ll, (HH2.out.row.below hV).ev_at HE.out b off hA, ?_⟩
          obtain ⟨b', off', e1, e2⟩ := (HH2.out.row.below hV) (j * 13 + 6) (.int .i64 e.number) (by
            unfold evCells
            rw [flatMap_get Ev.cells 13 Ev.cells_length l j e HE.out 6 (by omega)]
            rfl)
          rw [hA] at e1
          injection e1 with e1
          injection e1 with e3 e4
          subst e3 e4
          rwa [← Nat.add_assoc] at e2
        unfold Ev.arr at HCL
        have HA := Lib.hid hA
        clear he hA
        rcases hc with ⟨h2, rfl⟩ | ⟨h2, h3, rfl⟩ | ⟨h2, h3, h4⟩
        rotate_right
        · cases c
          all_goals
            have H2 := Lib.hid h2; have H3 := Lib.hid h3
            clear h2 h3
            go_wp2_with (first
              | (go_at_call 56; refine (refEnded l parts X lA lc j e part _ HH2.out.p HH2.out.ll HH2.out.row HE.out HSE.out.1 HIE.out).mono ?_
                 rintro e1 w3 ⟨rfl, hb3⟩
                 obtain ⟨x1, x2, _⟩ := HCL.out _ hb3
                 have HB3 := Lib.hid hb3
                 rw [H2.out]
                 clear hb3)
              | (go_at_call 57; refine (refWrites e _).mono ?_
                 rintro e2 w4 ⟨rfl, hb4⟩
                 have hb5 := HB3.out.trans (hb4.mono HB3.out.size)
                 obtain ⟨y1, _, y3⟩ := HCL.out _ hb5
                 have HB5 := Lib.hid hb5
                 rw [H3.out]
                 clear hb4 hb5))
            go_roundg (l.length - (j + 1))
            case measure => omega
          case rel =>
            refine ⟨j + 1, m, by omega, by go_num, rfl, ?_, rfl, ?_, HB2.out.trans (HB5.out.mono HB2.out.size)⟩
            · rw [HSUC.out, HC.out]; simp
            · rw [HSUC.out, HC.out]; simpa using HLAST.out
          case rel =>
            refine ⟨j + 1, j, by omega, by go_num, rfl, ?_, rfl, ?_, HB2.out.trans (HB5.out.mono HB2.out.size)⟩
            · rw [HSUC.out, HC.out]
              simp only [if_true, List.length_append, List.length_singleton]
              go_num
            · rw [HSUC.out, HC.out]
              intro _
              exact ⟨e, HE.out, by simp⟩
        all_goals
          have H2 := Lib.hid h2
          clear h2
          try (have H3 := Lib.hid h3; clear h3)
          go_wp2_with (first
            | (go_at_call 56; refine (refEnded l parts X lA lc j e part _ HH2.out.p HH2.out.ll HH2.out.row HE.out HSE.out.1 HIE.out).mono ?_
               rintro e1 w3 ⟨rfl, hb3⟩
               obtain ⟨x1, x2, _⟩ := HCL.out _ hb3
               have HB3 := Lib.hid hb3
               rw [H2.out]
               clear hb3)
            | (go_at_call 57; refine (refWrites e _).mono ?_
               rintro e2 w4 ⟨rfl, hb4⟩
               have hb5 := HB3.out.trans (hb4.mono HB3.out.size)
               have HB5 := Lib.hid hb5
               rw [H3.out]
               clear hb4 hb5))
          go_roundg (l.length - (j + 1))
          case measure => omega
          case rel =>
            refine ⟨j + 1, m, by omega, by go_num, rfl, ?_, rfl, ?_, HB2.out.trans (Below.mono (by first | exact HB5.out | exact HB3.out) HB2.out.size)⟩
            · rw [HSUC.out, HC.out]; simp
            · rw [HSUC.out, HC.out]; simpa using HLAST.out
      · have hjl : l.take j = l := List.take_of_length_le (by omega)
        rw [hjl]
        have hlast := HLAST.out
        rw [hjl] at hlast
        by_cases hone : (pubF l parts part ((acc.length : Int) + 1)).length = 1
        · obtain ⟨e, hpe⟩ := List.length_eq_one_iff.1 hone
          obtain ⟨e', hm, he'⟩ := hlast (by rw [hpe]; simp)
          rw [hpe] at he'
          obtain rfl : e = e' := by simpa using he'
          obtain ⟨q, hq⟩ : ∃ q, acc.length = q + 1 := ⟨acc.length - 1, by omega⟩
          obtain ⟨t, htq⟩ : ∃ t, acc[q]? = some t := ⟨_, List.getElem?_eq_getElem (by omega)⟩
          have HT2 := Lib.hid (HT.out.below HB2.out)
          obtain ⟨hd, hhq⟩ : ∃ hd, hs[q]? = some hd := ⟨_, List.getElem?_eq_getElem (by rw [HT.out.len]; omega)⟩
          obtain ⟨tA, tc⟩ := hd
          have HRT := Lib.hid (HT2.out.rows q t (tA, tc) htq hhq)
          have hlt : rlast acc = t := by
            unfold rlast
            rw [List.getLast?_eq_getElem?, hq, Nat.add_sub_cancel, htq]
            rfl
          have HLT := Lib.hid hlt
          have htl := HLEN.out t (List.mem_of_getElem? htq)
          rw [hq] at htl
          have hcq : (tabCells acc hs)[q]? = some (.slice tA t.length tc) := by
            unfold tabCells
            rw [List.getElem?_map, (List.getElem?_zip_eq_some (z := (t, (tA, tc)))).2 ⟨htq, hhq⟩]
            rfl
          obtain ⟨b, off, hA, hld⟩ := load_ev HH2.out.row hm
          have hml := (List.getElem?_eq_some_iff.1 hm).1
          have hm1 : (m : Int) < l.length := by omega
          have HM := Lib.hid hm
          have HIE := Lib.hid (HH2.out.evs e (List.mem_of_getElem? hm))
          have HSE := Lib.hid (HSM.out e (List.mem_of_getElem? hm))
          have HPE := Lib.hid hpe
          have HST2 : Hid (∀ V, Below wi.heap.size wi V → (loadCellsFrom ⟨g, q, none⟩ 0 1 #[]).run Try.prog V = .ok #[.slice tA t.length tc] V) := by
            intro V hV
            exact run_loadCells_list (P := Try.prog) V ⟨g, q, none⟩ [.slice tA t.length tc] (fun k v hv => by
              have hk0 : k = 0 := by
                rcases Nat.eq_zero_or_pos k with h' | h'
                · exact h'
                · rw [List.getElem?_eq_none (by simp; omega)] at hv
                  cases hv
              subst hk0
              have := (HT2.out.below hV).own.cellAt q (by omega)
              rw [hcq] at this
              rw [addr_add, Nat.add_zero, this]
              exact hv)
          have hone' : ((((pubF l parts part ((acc.length : Int) + 1)).length : Nat) : Int) != 1) = false := by rw [hone]; rfl
          have hone2 : ((((pubF l parts part ((q : Int) + 1 + 1)).length : Nat) : Int) != 1) = false := by
            have e1 : ((q : Int) + 1 + 1) = (acc.length : Int) + 1 := by omega
            rw [e1]
            exact hone'
          rw [hA] at q1
          unfold Ev.arr at hld
          clear hone'
          clear hone hlast he' hm hjl hpe htq hhq hlt hcq
          go_wp2_with fail
          obtain ⟨W2, hW2⟩ : ∃ W2, W2 = wi.alloc (.cells e.arr 52) := ⟨_, rfl⟩
          have hW2' := hW2
          unfold Ev.arr at hW2'
          rw [← hW2']
          have hbW2 : Below wi.heap.size wi W2 := by rw [hW2]; exact (Below.refl _ _).alloc (Nat.le_refl _) _
          have hE2 : W2.heap[wi.heap.size]? = some (.cells e.arr 52 (0, 0)) := by rw [hW2]; exact heap_alloc_new wi _
          have ldE : (loadCellsFrom ⟨wi.heap.size, 0, none⟩ 0 13 #[]).run Try.prog W2.drew = .ok e.arr W2.drew := load_block (w := W2.drew) hE2 rfl
          have ldT : (loadCellsFrom ⟨g, q, none⟩ 0 1 #[]).run Try.prog W2.drew = .ok #[.slice tA t.length tc] W2.drew := HST2.out _ hbW2.drew
          have HTW := Lib.hid (HT2.out.below hbW2); have HRW := Lib.hid (HRT.out.below hbW2); have HIW := Lib.hid (HIE.out.below hbW2)
          have HBW2 := Lib.hid hbW2
          have hBW : w.heap.size ≤ W2.heap.size := Nat.le_trans HB.out.size (Nat.le_trans HB2.out.size hbW2.size)
          have hpr := HSE.out.2
          have hwq : IntKind.i64.wrap (q : Int) = (q : Int) := (IntWalk.i64_left _).trans (IntWalk.wrap64_in _ (by omega))
          have hqq : (q : Int) < (q : Int) + 1 := by omega
          have HBW0 : Hid (Below w.heap.size w W2) := HB.out.trans ((HB2.out.trans (HBW2.out.mono HB2.out.size)).mono HB.out.size)
          unfold Ev.arr at ldE
          clear hW2 hW2' hbW2 hE2 hld q1
          go_region_law (first
            | (go_simp; go_at_call 58
               refine (refBehind t tA tc e _ (by exact HRW.out.below (by repeat' first | refine Below.drew ?_ | refine Below.alloc ?_ (by first | exact Nat.le_refl _ | exact BelowOf.le _ | simp) _ | exact Below.refl _ _ | exact BelowOf.h _)) (by omega) hpr (by exact HIW.out.below (by repeat' first | refine Below.drew ?_ | refine Below.alloc ?_ (by first | exact Nat.le_refl _ | exact BelowOf.le _ | simp) _ | exact Below.refl _ _ | exact BelowOf.h _))).mono ?_
               rintro e4 w4 ⟨A4, c4, rfl, h4, hb4⟩
               have hb5 : Below W2.heap.size W2 w4 := Below.trans (by repeat' first | refine Below.drew ?_ | refine Below.alloc ?_ (by first | exact Nat.le_refl _ | exact BelowOf.le _ | simp) _ | exact Below.refl _ _ | exact BelowOf.h _) (hb4.mono (by simp))
               have HB5 := Lib.hid hb5
               have H4 : Hid (∀ o, Row58 (w4.alloc o) A4 (behindL t e)) := fun o => h4.below ((Below.refl _ _).alloc (Nat.le_refl _) _)
               have HT5 : Hid (∀ o, Tabs (w4.alloc o) w.heap.size (.slice (some ⟨g, 0, none⟩) (q + 1) gc) acc hs) := fun o => by
                 have h := HTW.out.below (HB5.out.alloc HB5.out.size o)
                 rw [hq] at h
                 exact h
               have HB0 : Hid (∀ o, Below w.heap.size w (w4.alloc o)) := fun o => HBW0.out.trans ((HB5.out.alloc HB5.out.size o).mono hBW)
               have h4s : w.heap.size ≤ w4.heap.size := Nat.le_trans hBW HB5.out.size
               clear hb4 hb5 h4)
            | (refine step_append_is rfl (.tmp 66) (.tmp 75) rfl elemTable rfl (base := w.heap.size) (n := q + 1) (xs := tabCells acc hs) (by have h := (HT5.out (.cells #[.slice A4 (behindL t e).length c4] 114)).own; rw [hq] at h; exact h) _ 1 _ [.slice A4 (behindL t e).length c4] rfl (by first | exact row_one (cell_new _ _ _) | exact row_one (cell_new _ _ _)) rfl (by simp [Value.oneCell']) (by unfold maxLen; omega) (by omega) (by simp; omega) (fun e => by cases e) ?_
               intro v6 w6 ho6 hg6 hat6
               have ht6 := (HT5.out (.cells #[.slice A4 (behindL t e).length c4] 114)).snoc (H4.out _) hg6 (by rw [hq]; exact ho6)
               have hb6 : Below w.heap.size w w6 := (HB0.out (.cells #[.slice A4 (behindL t e).length c4] 114)).grown hg6 (by simp; omega) (fun k hk => ((HT5.out (.cells #[.slice A4 (behindL t e).length c4] 114)).own.lt k hk).1)
               have HT6 := Lib.hid ht6; have HB6 := Lib.hid hb6
               clear ht6 hb6 ho6 hg6 hat6))
          all_goals
            go_wp2_with fail
            go_roundg (gk - 1)
            case measure => omega
            case rel =>
              refine ⟨acc ++ [behindL t e], hs ++ [(A4, c4)], ?_, by simp; omega, by simp, ?_, fun n h1 h2 => ?_, fun t' ht' => ?_, HB6.out⟩
              · exact HT6.out
              · rw [HEQ.out]
                obtain ⟨k', hk'⟩ : ∃ k', gk = k' + 1 := ⟨gk - 1, by omega⟩
                rw [hk', rtellsL_go HPE.out, HLT.out]
                rfl
              · rw [List.length_append, List.length_singleton] at h2
                rcases Nat.lt_or_ge acc.length n with h | h
                · have e1 : (n : Int) = (acc.length : Int) + 1 := by omega
                  rw [e1, HPE.out]
                  rfl
                · exact HALL.out n h1 h
              · rw [List.length_append, List.length_singleton]
                rcases List.mem_append.1 ht' with h | h
                · have := HLEN.out t' h
                  omega
                · obtain rfl : t' = behindL t e := by simpa using h
                  have := behindL_len t e
                  have := HSE.out.2
                  omega
        · have hone' : ((((pubF l parts part ((acc.length : Int) + 1)).length : Nat) : Int) != 1) = true := by
            have : ¬ (((pubF l parts part ((acc.length : Int) + 1)).length : Nat) : Int) = 1 := by omega
            simp [this]
          have HV : Hid (rtold l parts start part = acc) := by show _ = _; rw [HEQ.out]; exact rtellsL_stop hone
          clear hone hlast hjl
          go_wp2_with fail
          go_ret
          rw [HV.out]
          exact ⟨_, hs, rfl, HT.out.below HB2.out, fun t ht => by have := HLEN.out t ht; omega, hal1, HB.out.trans (HB2.out.mono HB.out.size)⟩
end Go.Proofs.Ytpnegacfanbcfaa
