/- JudgeLess: the walk. Lengths are at most 1048576. -/
import Derived.Test.YtpnegacfanbcfaaLight
import Derived.Test.YtpnegacfanbcfaaLess
import Derived.Test.YtpnegacfanbcfaaKnown
namespace Go.Proofs.Ytpnegacfanbcfaa
open Go.RowKit Go.Maps

theorem sum_mem_le {α : Type} (f : α → Nat) {l : List α} {x : α} (h : x ∈ l) : f x ≤ (l.map f).sum := by
  induction l with
  | nil => cases h
  | cons y l ih =>
    rw [List.map_cons, List.sum_cons]
    rcases List.mem_cons.1 h with rfl | h
    · omega
    · have := ih h
      omega
theorem light_start {starts : List (List (Int × Int))} {l : List Ev} (h : lightB starts l = true) (hs : starts.length ≤ 64) : ∀ s ∈ starts, s.length ≤ 3000 := by
  intro s hs'
  unfold lightB lightN sumS at h
  rw [decide_eq_true_eq, List.take_of_length_le (i := 1000) (by omega)] at h
  have := sum_mem_le List.length hs'
  omega
theorem light_small {starts : List (List (Int × Int))} {l : List Ev} (h : lightB starts l = true) : ∀ e ∈ l.take 2000, e.Small := by
  intro e he
  unfold lightB lightN sumE at h
  rw [decide_eq_true_eq] at h
  have := sum_mem_le (fun e : Ev => e.nums.length + e.pairs.length) he
  exact ⟨by omega, by omega⟩
theorem Row.front {w : World} {A : Option Addr} {xs ys : List Value} (h : Row w A (xs ++ ys)) : Row w A xs := fun j u hu => h j u (by
  have hj := (List.getElem?_eq_some_iff.1 hu).1
  rw [List.getElem?_append_left hj]
  exact hu)
theorem evCells_take (l : List Ev) (n : Nat) : evCells l = evCells (l.take n) ++ evCells (l.drop n) := by
  unfold evCells
  rw [← List.flatMap_append, List.take_append_drop]
/-- what the arguments read as. -/
structure LIn (l : List Ev) (starts : List (List (Int × Int))) (heads : List (Option Addr × Nat)) (lA sA : Option Addr) (w : World) : Prop where
  row : Row w lA (evCells l)
  inn : ∀ e ∈ l, e.In w
  ok : ∀ e ∈ l, e.Ok
  st : StartIn starts heads sA w
  sk : ∀ s ∈ starts, ∀ p ∈ s, inI64 p.1
  l1 : l.length ≤ 1048576
  l2 : starts.length ≤ 1048576
  l3 : ∀ s ∈ starts, s.length ≤ 1048576
  l4 : ∀ e ∈ l, e.nums.length ≤ 1048576 ∧ e.pairs.length ≤ 1048576
theorem StartIn.below {starts : List (List (Int × Int))} {heads : List (Option Addr × Nat)} {sA : Option Addr} {w w' : World} (h : StartIn starts heads sA w) (hb : Below w.heap.size w w') : StartIn starts heads sA w' :=
  ⟨h.len, h.row.below hb, fun k s x h1 h2 => (h.parts k s x h1 h2).below hb⟩
theorem LIn.below {l : List Ev} {starts : List (List (Int × Int))} {heads : List (Option Addr × Nat)} {lA sA : Option Addr} {w w' : World} (h : LIn l starts heads lA sA w) (hb : Below w.heap.size w w') : LIn l starts heads lA sA w' :=
  ⟨h.row.below hb, fun e he => (h.inn e he).below hb, h.ok, h.st.below hb, h.sk, h.l1, h.l2, h.l3, h.l4⟩
theorem LIn.take {l : List Ev} {starts : List (List (Int × Int))} {heads : List (Option Addr × Nat)} {lA sA : Option Addr} {w : World} (h : LIn l starts heads lA sA w) (n : Nat) : LIn (l.take n) starts heads lA sA w := by
  have hm : ∀ e ∈ l.take n, e ∈ l := fun e he => List.mem_of_mem_take he
  refine ⟨?_, fun e he => h.inn e (hm e he), fun e he => h.ok e (hm e he), h.st, h.sk, ?_, h.l2, h.l3, fun e he => h.l4 e (hm e he)⟩
  · have := h.row
    rw [evCells_take l n] at this
    exact this.front
  · have := List.length_take_le' n l
    have := h.l1
    omega
def manyP (l : List Ev) (starts : List (List (Int × Int))) : Prop := 1024 < l.length ∨ starts.length = 0 ∨ 64 < starts.length
theorem vers_any {l : List Ev} {starts : List (List (Int × Int))} {heads : List (Option Addr × Nat)} {lA sA : Option Addr} {w : World} (h : LIn l starts heads lA sA w) (lc sc n : Nat) (hl : lightB starts l = true) (hn : n ≤ l.length) :
    Calls Try.prog 20 #[.slice sA starts.length sc, .slice lA n lc] w (VersPost (l.take n) starts w) := by
  have hlen : (l.take n).length = n := by simp [hn]
  have ht := h.take n
  by_cases hm : manyP (l.take n) starts
  · have := versMany (l.take n) starts lA sA lc sc w ht.l1 ht.l2 hm
    rwa [hlen] at this
  · unfold manyP at hm
    have h1 : (l.take n).length ≤ 1024 := by omega
    have := versGo (l.take n) starts heads lA sA lc sc w ht.row ht.inn ht.ok (fun e he => light_small hl e (by
      rw [hlen] at h1
      have : l.take n = (l.take 2000).take n := by rw [List.take_take]; congr 1; omega
      rw [this] at he
      exact List.mem_of_mem_take he)) ht.st (light_start hl (by omega)) ht.sk h1 (by omega) (by omega)
    rwa [hlen] at this
theorem VersPost.many {l : List Ev} {starts : List (List (Int × Int))} {w w' : World} {e : Ending} (h : VersPost l starts w e w') (hm : manyP l starts) : e = .returned (.tuple #[.slice none 0 0, .int .i64 201]) ∧ w = w' := by
  unfold VersPost at h
  unfold manyP at hm
  rwa [if_pos hm] at h
theorem VersPost.few {l : List Ev} {starts : List (List (Int × Int))} {w w' : World} {e : Ending} (h : VersPost l starts w e w') (hm : ¬ manyP l starts) : ∃ A c, e = .returned (.tuple #[.slice A (versionsL starts l).length c, .int .i64 0]) ∧ w'.ownsRow w.heap.size 55 3 (.slice A (versionsL starts l).length c) (versionsL starts l).length (blCells (versionsL starts l)) ∧ Below w.heap.size w w' := by
  unfold VersPost at h
  unfold manyP at hm
  rw [if_neg hm] at h
  obtain ⟨v, he, ho, hb⟩ := h
  obtain ⟨A, c, rfl, _, _⟩ := row_of_own ho
  exact ⟨A, c, he, ho, hb⟩
theorem VersPost.any {l : List Ev} {starts : List (List (Int × Int))} {w w' : World} {e : Ending} (h : VersPost l starts w e w') : ∃ v g, e = .returned (.tuple #[v, .int .i64 g]) ∧ Below w.heap.size w w' := by
  by_cases hm : manyP l starts
  · obtain ⟨he, rfl⟩ := h.many hm
    exact ⟨_, _, he, Below.refl _ _⟩
  · obtain ⟨A, c, he, _, hb⟩ := h.few hm
    exact ⟨_, _, he, hb⟩
def Tl (l : List Ev) (n j : Nat) : Prop := ∀ i e, n ≤ i → i < j → l[i]? = some e → writesB e = false
def LfRel (xs : List Blm) (n : Nat) (B : Nat) (w : World) (k : Nat) (left i : Value) (wr : World) : Prop :=
  ∃ j : Nat, j ≤ xs.length ∧ i = .int .i64 j ∧ k = xs.length - j ∧ wr.ownsRow B 55 3 left ((xs.take j).filter (keepB n)).length (blCells ((xs.take j).filter (keepB n))) ∧ Below B w wr
def TlRel (l : List Ev) (n : Nat) (w : World) (k : Nat) (i : Value) (wr : World) : Prop := ∃ j : Nat, n ≤ j ∧ j ≤ l.length ∧ i = .int .i64 j ∧ k = l.length - j ∧ Tl l n j ∧ w = wr

set_option maxRecDepth 100000 in
set_option maxHeartbeats 2000000 in
theorem less_walk (l : List Ev) (starts : List (List (Int × Int))) (heads : List (Option Addr × Nat)) (lA sA : Option Addr) (lc sc : Nat) (n : Int) (w : World) (h : LIn l starts heads lA sA w) (hc : l.length ≤ lc) (hc2 : lc ≤ 9223372036854775807) (hn : inI64 n) :
    Calls Try.prog 6 #[.slice sA starts.length sc, .slice lA l.length lc, .int .i64 n] w fun e w' => e = .returned (.bool true) ∧ Below w.heap.size w w' := by
  have H := Lib.hid h
  have hll := h.l1
  clear h
  cases hlt : lightB starts l with
  | false =>
    have HL := Lib.hid hlt
    clear hlt
    go_enter Try.func6, Try.ntmps6
    go_wp2_with (first
      | (go_at_call 7; refine (known_walk _).mono ?_; rintro e1 w1 ⟨rfl, hb1⟩; have HB1 := Lib.hid hb1; clear hb1)
      | (go_at_call 16; refine (light_walk l starts heads lA sA lc sc w1 (H.out.below HB1.out).row (H.out.below HB1.out).st H.out.l1 H.out.l2 H.out.l3 H.out.l4).mono ?_; rintro e1 w2 ⟨rfl, n2, rfl⟩; rw [HL.out]))
    go_ret
    exact ⟨rfl, below_drewN HB1.out _⟩
  | true =>
    have HL := Lib.hid hlt
    clear hlt
    by_cases hn0 : n < 0 ∨ (l.length : Int) < n
    · by_cases hn1 : n < 0
      all_goals
        have hn2 : (l.length : Int) < n ∨ n < 0 := by omega
        try (have hn3 : (l.length : Int) < n := by omega)
        clear hn0 hn2
        go_enter Try.func6, Try.ntmps6
        go_wp2_with (first
          | (go_at_call 7; refine (known_walk _).mono ?_; rintro e1 w1 ⟨rfl, hb1⟩; have HB1 := Lib.hid hb1; clear hb1)
          | (go_at_call 16; refine (light_walk l starts heads lA sA lc sc w1 (H.out.below HB1.out).row (H.out.below HB1.out).st H.out.l1 H.out.l2 H.out.l3 H.out.l4).mono ?_; rintro e1 w2 ⟨rfl, n2, rfl⟩; rw [HL.out]))
        go_ret
        exact ⟨rfl, below_drewN HB1.out _⟩
    · obtain ⟨nn, hnn⟩ : ∃ nn : Nat, n = nn := ⟨n.toNat, by omega⟩
      subst hnn
      have hnl : nn ≤ l.length := by omega
      have t1 : (0 : Int) ≤ nn := by omega
      have t2 : (nn : Int) ≤ l.length := by omega
      clear hn0
      go_enter Try.func6, Try.ntmps6
      go_wp2_with (first
        | (go_at_call 7; refine (known_walk _).mono ?_; rintro e1 w1 ⟨rfl, hb1⟩; have HB1 := Lib.hid hb1; clear hb1)
        | (go_at_call 16; refine (light_walk l starts heads lA sA lc sc w1 (H.out.below HB1.out).row (H.out.below HB1.out).st H.out.l1 H.out.l2 H.out.l3 H.out.l4).mono ?_; rintro e1 w2 ⟨rfl, n2, rfl⟩; rw [HL.out]))
      obtain ⟨W, hW⟩ : ∃ W, W = w1.drewN n2 := ⟨_, rfl⟩
      rw [← hW]
      have hbW : Below w.heap.size w W := by rw [hW]; exact below_drewN HB1.out _
      have HW := Lib.hid (H.out.below hbW)
      have HBW := Lib.hid hbW
      clear hW hbW
      go_loopg [7] (l.length - nn) (fun k i wr => TlRel l nn W k i wr)
      case atStart => exact ⟨nn, Nat.le_refl _, hnl, rfl, rfl, fun i e h1 h2 => absurd h2 (by omega), rfl⟩
      case round =>
        obtain ⟨j, hj1, hj2, rfl, rfl, htl, rfl⟩ := hrel
        have HTL := Lib.hid htl
        clear htl
        by_cases hlt : j < l.length
        · obtain ⟨e, he⟩ : ∃ e, l[j]? = some e := ⟨_, List.getElem?_eq_getElem hlt⟩
          obtain ⟨b0, off, hA, hc3⟩ := evRow_get HW.out.row he (i := 3) (by omega)
          have k3 : W.cell? ⟨b0, off + j * 13 + 3, none⟩ = some (.int .i64 e.kind) := hc3
          have HE := Lib.hid he
          clear hc3 he
          subst hA
          by_cases hw : writesB e = true
          · have hw' : e.kind = 2 ∨ e.kind = 5 := by simpa [writesB] using hw
            clear hw
            by_cases h2 : (e.kind == 2) = true
            · clear hw'
              go_wp2_with fail
              go_ret
              exact ⟨rfl, HBW.out⟩
            · have h5 : (e.kind == 5) = true := by
                rcases hw' with h | h
                · exact absurd (by simpa using h) h2
                · simpa using h
              have h2' : (e.kind == 2) = false := by simpa using h2
              clear hw' h2
              go_wp2_with fail
              go_ret
              exact ⟨rfl, HBW.out⟩
          · have hw0 : writesB e = false := by simpa using hw
            have hk : (e.kind == 2) = false ∧ (e.kind == 5) = false := by
              have := hw0
              unfold writesB at this
              rwa [Bool.or_eq_false_iff] at this
            obtain ⟨hk2, hk5⟩ := hk
            have HW0 := Lib.hid hw0
            clear hw hw0
            go_wp2_with fail
            go_roundg (l.length - (j + 1))
            case measure => omega
            case rel =>
              refine ⟨j + 1, by omega, by omega, by go_num, rfl, fun i e' g1 g2 g3 => ?_, rfl⟩
              rcases Nat.lt_or_ge i j with g | g
              · exact HTL.out i e' g1 g g3
              · obtain rfl : i = j := by omega
                rw [HE.out] at g3
                injection g3 with g3
                rw [← g3]
                exact HW0.out
        · have hjl : j = l.length := by omega
          subst hjl
          have htail : TailOk l nn := fun i e g1 g2 => HTL.out i e g1 (List.getElem?_eq_some_iff.1 g2).1 g2
          have HTAIL := Lib.hid htail
          clear htail
          have v1 : Hid (∀ V, LIn l starts heads lA sA V → Calls Try.prog 20 #[.slice sA starts.length sc, .slice lA l.length lc] V (VersPost l starts V)) := fun V hV => by
            have := vers_any hV lc sc l.length HL.out (Nat.le_refl _)
            rwa [List.take_length] at this
          have v2 : Hid (∀ V, LIn l starts heads lA sA V → Calls Try.prog 20 #[.slice sA starts.length sc, .slice lA nn lc] V (VersPost (l.take nn) starts V)) := fun V hV => vers_any hV lc sc nn HL.out hnl
          by_cases hm : manyP l starts
          · have HM := Lib.hid hm
            clear hm
            go_wp2_with (first
              | (go_at_call 20; (with_reducible refine (v1.out _ HW.out).mono ?_); rintro e3 w3 hv3; obtain ⟨rfl, rfl⟩ := hv3.many HM.out)
              | (go_at_call 20; (with_reducible refine (v2.out _ HW.out).mono ?_); rintro e4 w4 hv4; obtain ⟨r4, g4, rfl, hb4⟩ := hv4.any; have HB4 := Lib.hid hb4; clear hb4))
            go_ret
            exact ⟨rfl, HBW.out.trans (HB4.out.mono HBW.out.size)⟩
          · have HM := Lib.hid hm
            have hm2 : ¬ manyP (l.take nn) starts := by
              unfold manyP at hm ⊢
              have : (l.take nn).length = nn := by simp [hnl]
              rw [this]
              omega
            have HM2 := Lib.hid hm2
            have hlen : l.length ≤ 1024 := by unfold manyP at hm; omega
            have hX : (versionsL starts l).length ≤ 1575000 := by unfold versionsL; rw [sortB_length]; exact allU_le hlen (Nat.le_refl _)
            have hY : (versionsL starts (l.take nn)).length ≤ 1575000 := by unfold versionsL; rw [sortB_length]; exact allU_le (by have := List.length_take_le nn l; omega) (Nat.le_refl _)
            have HLESS := Lib.hid (versions_less HTAIL.out hnl starts)
            have HX := Lib.hid hX; have HY := Lib.hid hY
            clear hm hm2 hX hY
            go_wp2_with (first
              | (go_at_call 20; (with_reducible refine (v1.out _ HW.out).mono ?_); rintro e3 w3 hv3; obtain ⟨A3, c3, rfl, ho3, hb3⟩ := hv3.few HM.out; have HO3 := Lib.hid ho3; have HB3 := Lib.hid hb3; clear ho3 hb3)
              | (go_at_call 20; (with_reducible refine (v2.out _ (HW.out.below HB3.out)).mono ?_); rintro e4 w4 hv4; obtain ⟨A4, c4, rfl, ho4, hb4⟩ := hv4.few HM2.out; have HO4 := Lib.hid ho4; have HB4 := Lib.hid hb4; clear ho4 hb4))
            have hrx := (row_of_own' HO3.out).1.below HB4.out
            have hry := (row_of_own' HO4.out).1
            have hbw4 : Below w.heap.size w w4 := (HBW.out.trans (HB3.out.mono HBW.out.size)).trans (HB4.out.mono (Nat.le_trans HBW.out.size HB3.out.size))
            have HRX := Lib.hid hrx; have HRY := Lib.hid hry; have HBW4 := Lib.hid hbw4
            clear hrx hry hbw4
            generalize hXX : versionsL starts l = X at *
            generalize hYY : versionsL starts (l.take nn) = Y at *
            have hX := HX.out
            have hY := HY.out
            go_loopg [12, 13] X.length (fun k left i wr => LfRel X nn w4.heap.size w4 k left i wr)
            case atStart => exact ⟨0, Nat.zero_le _, rfl, rfl, ⟨rfl, .inl ⟨rfl, rfl⟩⟩, Below.refl _ _⟩
            case round =>
              obtain ⟨q, hq, rfl, rfl, hown, hbq⟩ := hrel
              by_cases hlq : q < X.length
              · obtain ⟨b, hb⟩ : ∃ b, X[q]? = some b := ⟨_, List.getElem?_eq_getElem hlq⟩
                have hrq := HRX.out.below hbq
                obtain ⟨b0, off, hA, _⟩ := hrq (q * 3 + 0) (.int .i64 b.at_) ((blCells_get X q 0 b hb (by omega)).trans rfl)
                subst hA
                have k0 : wr.cell? ⟨b0, off + q * 3, none⟩ = some (.int .i64 b.at_) := by
                  obtain ⟨b', off', e, hc⟩ := hrq (q * 3 + 0) (.int .i64 b.at_) ((blCells_get X q 0 b hb (by omega)).trans rfl)
                  simp only [Option.some.injEq, Addr.mk.injEq, and_true] at e
                  obtain ⟨rfl, rfl⟩ := e
                  exact hc
                have k1 : wr.cell? ⟨b0, off + q * 3 + 1, none⟩ = some (.int .i64 b.wit) := by
                  obtain ⟨b', off', e, hc⟩ := hrq (q * 3 + 1) (.int .i64 b.wit) ((blCells_get X q 1 b hb (by omega)).trans rfl)
                  simp only [Option.some.injEq, Addr.mk.injEq, and_true] at e
                  obtain ⟨rfl, rfl⟩ := e
                  exact hc
                have k2 : wr.cell? ⟨b0, off + q * 3 + 2, none⟩ = some (.int .i64 b.why) := by
                  obtain ⟨b', off', e, hc⟩ := hrq (q * 3 + 2) (.int .i64 b.why) ((blCells_get X q 2 b hb (by omega)).trans rfl)
                  simp only [Option.some.injEq, Addr.mk.injEq, and_true] at e
                  obtain ⟨rfl, rfl⟩ := e
                  exact hc
                have htk : (X.take (q + 1)).filter (keepB nn) = (X.take q).filter (keepB nn) ++ (if keepB nn b = true then [b] else []) := by
                  rw [take_snoc' hb, List.filter_append]
                  congr 1
                  cases hkb : keepB nn b <;> simp [hkb]
                have hfl : ((X.take q).filter (keepB nn)).length ≤ 1575000 := by
                  have h1 := List.length_filter_le (keepB nn) (X.take q)
                  have h2 := List.length_take_le q X
                  omega
                generalize hLL : (X.take q).filter (keepB nn) = L at *
                obtain ⟨lfA, lfc, hlf, _, _⟩ := row_of_own hown
                subst hlf
                have HOWN := Lib.hid hown; have HBQ := Lib.hid hbq; have HTK := Lib.hid htk; have HLL := Lib.hid hLL
                clear hown hbq htk hrq hb hLL
                go_wp2_with (at_builtin; refine wpList_append_is rfl (.tmp 87) (.tmp 92) rfl elemBlame rfl (HOWN.out.alloc (.cells #[.int .i64 b.at_, .int .i64 b.wit, .int .i64 b.why] 55)) _ 1 _ [.int .i64 b.at_, .int .i64 b.wit, .int .i64 b.why] rfl (row_new wr _ _) rfl (by simp [Value.oneCell']) (by unfold maxLen; omega) (by omega) (by have := HBQ.out.size; simp; omega) (fun e => by cases e) ?_; intro v6 w6 ho6 hg6 hat6; have HO6 := Lib.hid ho6; have HG6 := Lib.hid hg6; clear ho6 hg6 hat6)
                · have hk : keepB nn b = true := by simp_all [keepB]
                  have HK := Lib.hid hk
                  clear hk
                  go_roundg (X.length - (q + 1))
                  case measure => omega
                  case rel =>
                    refine ⟨q + 1, by omega, by go_num, rfl, ?_, ?_⟩
                    · rw [HTK.out, if_pos HK.out, List.length_append, blCells_snoc]
                      exact HO6.out
                    · have hba := HBQ.out.alloc HBQ.out.size (.cells #[.int .i64 b.at_, .int .i64 b.wit, .int .i64 b.why] 55)
                      exact hba.grown HG6.out hba.size (fun k hk => (HOWN.out.lt k hk).1)
                all_goals
                  have hk : keepB nn b = false := by
                    simp only [keepB, Bool.and_eq_false_iff, decide_eq_false_iff_not]
                    omega
                  have HK := Lib.hid hk
                  clear hk
                  go_roundg (X.length - (q + 1))
                  case measure => omega
                  case rel =>
                    refine ⟨q + 1, by omega, by go_num, rfl, ?_, HBQ.out⟩
                    rw [HTK.out, HK.out]
                    simpa using HOWN.out
              · have hF : (X.take q).filter (keepB nn) = Y := by rw [List.take_of_length_le (by omega), HLESS.out]
                rw [hF] at hown
                obtain ⟨lfA, lfc, hlf, hrl, _⟩ := row_of_own hown
                subst hlf
                have HRL := Lib.hid hrl; have HBQ := Lib.hid hbq
                have HRYq := Lib.hid (HRY.out.below hbq)
                clear hrl hbq hown hF
                go_wp2_with (go_at_call 21; refine (sameBlames_refl Y A4 lfA c4 lfc _ (by omega) HRYq.out HRL.out).mono ?_; rintro e5 w5 ⟨rfl, n5, rfl⟩)
                go_ret
                exact ⟨rfl, below_drewN (HBW4.out.trans (HBQ.out.mono HBW4.out.size)) _⟩
end Go.Proofs.Ytpnegacfanbcfaa
