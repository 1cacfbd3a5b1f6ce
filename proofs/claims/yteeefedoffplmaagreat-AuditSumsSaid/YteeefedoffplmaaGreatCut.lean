/- A chain's At and Cut. Conditions: pool, clock and chain lie in memory; the plain functions answer. -/
import Derived.Test.YteeefedoffplmaaGreatPush
namespace Go.Proofs.YteeefedoffplmaaGreat
open Go.RowKit

theorem top_none (w : World) (X : ChainL) (pb cb base : Nat) (D : List Nat) (C : ChainS) (hc : ChainAt w X pb cb base D C) (h0 : C.head = 0) : Calls Tryz.prog 186 #[ptr X.xb, .pointer none] w fun e w' => e = .returned (I3 0 0 141) ∧ w = w' := by
  obtain ⟨rows, _, b1, _, _⟩ := hc.ex
  have hl := atomLoad X.xb 2 0 w (by rw [← h0]; exact b1.cell rfl)
  unfold I3
  unfold ptr
  clear hc b1 h0
  go_enter Tryz.func186, Tryz.ntmps186
  go_wp2_with (first | (go_at_call 71; refine (step_nil _).mono ?_; rintro e w' ⟨rfl, rfl⟩) | (go_at_call 51; refine hl.mono ?_; rintro e w' ⟨rfl, rfl⟩))
  go_ret3
  exact ⟨rfl, rfl⟩
def E2 (x : Int) : Value := .tuple #[.int .i64 0, .int .i64 x]
def atAns (r : Option Int) : Value := match r with | some h => I2 h | none => E2 141
def AtLRel (stamp : Int) (S : PoolS) (r : Option Int) (w : World) (k : Nat) (hv sv ev : Value) (wr : World) : Prop :=
  ∃ f h s, k = f ∧ hv = .int .i64 h ∧ sv = .int .i64 s ∧ ev = .int .i64 0 ∧ atFrom stamp S f h s = some r ∧ w = wr
theorem atFrom_zero (stamp : Int) (S : PoolS) (h s : Int) : atFrom stamp S 0 h s = none := rfl
theorem atFrom_stop {stamp : Int} {S : PoolS} {f : Nat} {h s : Int} {r : Option Int} (he : atFrom stamp S (f + 1) h s = some r) (hs : ¬ s > stamp) : r = some h := by
  unfold atFrom at he
  rw [if_neg hs] at he
  exact (Option.some.inj he).symm
theorem atFrom_go {stamp : Int} {S : PoolS} {f : Nat} {h s : Int} {r : Option Int} (he : atFrom stamp S (f + 1) h s = some r) (hs : s > stamp) :
    ∃ x, S.at h = some x ∧ ((x.link = 0 ∧ r = none) ∨ (x.link ≠ 0 ∧ ∃ y, S.at x.link = some y ∧ atFrom stamp S f x.link y.mark = some r)) := by
  unfold atFrom at he
  rw [if_pos hs] at he
  simp only [Option.bind_eq_bind, Option.bind_eq_some_iff] at he
  obtain ⟨x, hx, he⟩ := he
  refine ⟨x, hx, ?_⟩
  split at he
  · rename_i h0
    exact .inl ⟨h0, (Option.some.inj he).symm⟩
  · rename_i h0
    simp only [Option.bind_eq_some_iff] at he
    exact .inr ⟨h0, he⟩
set_option maxRecDepth 100000 in
set_option maxHeartbeats 1600000 in
theorem at_chain (w : World) (X : ChainL) (L : PoolL) (S : PoolS) (K : ClockL) (CK : ClockS) (base : Nat) (D : List Nat) (C : ChainS) (hp : PoolAt w L S) (hk : ClockAt w K CK) (hc : ChainAt w X L.pb K.cb base D C) (hf : Far X L base) (stamp : Int) (r : Option Int) (S' : PoolS) (hS : C.atStamp CK.now S stamp = some (r, S')) :
    Calls Tryz.prog 128 #[ptr X.xb, .pointer none, .int .i64 stamp] w (Settled L S' w (atAns r)) := by
  unfold ChainS.atStamp at hS
  by_cases h0 : C.head = 0
  · rw [if_pos h0] at hS
    simp only [Option.some.injEq, Prod.mk.injEq] at hS
    obtain ⟨rfl, rfl⟩ := hS
    have htop := top_none w X L.pb K.cb base D C hc h0
    have HP := Lib.hid hp
    unfold I3 at htop
    unfold atAns E2
    unfold ptr at *
    clear hp hk hc h0
    go_enter Tryz.func128, Tryz.ntmps128
    go_wp2_with (go_at_call 186; refine htop.mono ?_; rintro e w' ⟨rfl, rfl⟩)
    refine wp_loop_rounds 1 ?_
    rw [rounds_succ]
    go_wp2_with fail
    go_ret2
    exact ⟨rfl, HP.out, Only.refl _ _⟩
  · rw [if_neg h0] at hS
    simp only [Option.bind_eq_bind, Option.bind_eq_some_iff] at hS
    obtain ⟨⟨h, s, S1⟩, ht, r', hr, hS⟩ := hS
    simp only [Option.some.injEq, Prod.mk.injEq] at hS
    obtain ⟨rfl, rfl⟩ := hS
    have htop := top_any w X L S K CK base D C hp hk hc h s S1 ht
    simp only at hr
    have HC := Lib.hid hc; have HF := Lib.hid hf
    have HAT : Hid (atFrom stamp S1 (S1.slots.length + 1) h s = some r') := Lib.hid hr
    unfold I3 at htop
    unfold ptr at *
    clear hp hk hc h0 ht hr hf
    generalize S1.slots.length + 1 = fuel at *
    go_enter Tryz.func128, Tryz.ntmps128
    go_wp2_with (go_at_call 186; refine htop.mono ?_; rintro e w1 ⟨rfl, hp1, ho1⟩; have HP1 := Lib.hid hp1; have HO1 := Lib.hid ho1; have hc1 := HC.out.pool HF.out ho1; have HC1 := Lib.hid hc1; clear hp1 ho1 htop hc1)
    go_loopg [8, 9, 10] fuel (fun k hv sv ev wr => AtLRel stamp S1 r' w1 k hv sv ev wr)
    case atStart => exact ⟨fuel, h, s, rfl, rfl, rfl, rfl, HAT.out, rfl⟩
    case round =>
      obtain ⟨f, h, s, rfl, rfl, rfl, rfl, hat, rfl⟩ := hrel
      cases gk with
      | zero => rw [atFrom_zero] at hat; cases hat
      | succ f =>
        obtain ⟨rows, _, b1, _, _⟩ := HC1.out.ex
        have c0 : w1.cell? ⟨X.xb, 0, none⟩ = some (ptr L.pb) := b1.cell rfl
        unfold ptr at c0
        by_cases hs : s > stamp
        · obtain ⟨x, hx, hor⟩ := atFrom_go hat hs
          have hlk := link_any w1 L S1 HP1.out h x hx
          have hs' : decide (s > stamp) = true := by simpa using hs
          have hs2 : stamp < s := hs
          unfold I2 at hlk
          unfold ptr at hlk
          rcases hor with ⟨hl0, rfl⟩ | ⟨hl0, y, hy, hgo⟩
          · rw [hl0] at hlk
            clear hat hx hl0 hs b1
            go_wp2_with (go_at_call 187; refine hlk.mono ?_; rintro e w' ⟨rfl, rfl⟩)
            go_ret2
            exact ⟨rfl, HP1.out, HO1.out⟩
          · have hmk := mark_any w1 L S1 HP1.out x.link y hy
            have hq : (x.link == 0) = false := by simp [hl0]
            have HGO := Lib.hid hgo
            unfold I2 at hmk
            unfold ptr at hmk
            clear hat hx hl0 hs b1 hy hgo
            generalize x.link = lk at *
            generalize y.mark = mk at *
            go_wp2_with (first | (go_at_call 187; refine hlk.mono ?_; rintro e w' ⟨rfl, rfl⟩) | (go_at_call 188; refine hmk.mono ?_; rintro e w' ⟨rfl, rfl⟩))
            go_roundg f
            case measure => omega
            case rel => exact ⟨f, lk, mk, rfl, rfl, rfl, rfl, HGO.out, rfl⟩
        · have hst := atFrom_stop hat hs
          have HS := Lib.hid hst
          have hs2 : s ≤ stamp := by omega
          clear hat hst b1
          go_wp2_with fail
          go_ret2
          rw [HS.out]
          exact ⟨rfl, HP1.out, HO1.out⟩
end Go.Proofs.YteeefedoffplmaaGreat

/- A chain's Cut. Conditions: pool and chain lie in memory; cut of the plain chain answers. -/
namespace Go.Proofs.YteeefedoffplmaaGreat
open Go.RowKit

theorem ChainAt.takeSet {w : World} {X : ChainL} {pb cb base : Nat} {D : List Nat} {C : ChainS} (h : ChainAt w X pb cb base D C) {i : Nat} {x : Int} {l : List Int} (hs : C.sets[i]? = some (x, l)) :
    ∃ v, w.cell? ⟨X.sb, i * 2, none⟩ = some (.int .i64 x) ∧ w.cell? ⟨X.sb, i * 2 + 1, none⟩ = some v ∧ w.frozen? ⟨X.sb, i * 2 + 1, none⟩ = false ∧ w.ownsRow base 3 1 v l.length (ints l) ∧ (∀ k, v.ownBlock = some k → k ∈ D) ∧ l.length ≤ 100000 ∧
      w.cell? ⟨X.xb, 3, none⟩ = some (sliceOf X.sb C.sets.length) ∧ Only [X.sb] w (w.setCell ⟨X.sb, i * 2 + 1, none⟩ (.slice none 0 0)) ∧
      ChainAt (w.setCell ⟨X.sb, i * 2 + 1, none⟩ (.slice none 0 0)) X pb cb base (D.filter fun d => decide (v.ownBlock ≠ some d)) { C with sets := C.sets.set i (x, []) } := by
  obtain ⟨⟨rows, e, b1, b2, b3⟩, h3, h4, h5, h6, h7⟩ := h
  have hlen : C.sets.length = rows.length := by rw [e]; simp
  rw [e, List.getElem?_map] at hs
  obtain ⟨r, hr, hre⟩ := Option.map_eq_some_iff.1 hs
  simp only [Prod.mk.injEq] at hre
  obtain ⟨rfl, rfl⟩ := hre
  have hil : i < rows.length := (List.getElem?_eq_some_iff.1 hr).1
  have hrm := List.mem_of_getElem? hr
  have ho : Only [X.sb] w (w.setCell ⟨X.sb, i * 2 + 1, none⟩ (.slice none 0 0)) := (Only.refl _ _).setCell (.inl (by simp)) _
  have s2 := b2.set (i * 2 + 1) (.slice none 0 0)
  have e2 : (rows.flatMap srowCells).set (i * 2 + 1) (.slice none 0 0) = (rows.set i (r.1, [], .slice none 0 0)).flatMap srowCells := flatMap_set srowCells 2 (fun _ => rfl) rows i r hr 1 (.slice none 0 0) (r.1, [], .slice none 0 0) (by omega) rfl
  rw [e2] at s2
  have hd : ∀ k ∈ D, k ∉ [X.sb] := fun k hk => by have := (h7 k hk).1; have := h4.2; simp; omega
  have b3' := b3.only ho hd
  refine ⟨r.2.2, b2.cell (i := i * 2 + 0) ((flatMap_get srowCells 2 (fun _ => rfl) rows i r hr 0 (by omega)).trans rfl), b2.cell (i := i * 2 + 1) ((flatMap_get srowCells 2 (fun _ => rfl) rows i r hr 1 (by omega)).trans rfl), b2.frozen _, (b3.own r hrm).1, (b3.own r hrm).2.1, (b3.own r hrm).2.2, ?_, ho, ?_⟩
  · rw [hlen]
    exact b1.cell rfl
  refine ⟨⟨rows.set i (r.1, [], .slice none 0 0), ?_, ?_, s2, ?_, ?_⟩, h3, h4, by simpa using h5, by simpa using h6, ?_⟩
  · rw [e, List.set_map_eq]
  · simpa using b1.other h3 (i * 2 + 1) (.slice none 0 0)
  · intro q hq
    rw [List.mem_iff_getElem?] at hq
    obtain ⟨j, hj⟩ := hq
    rw [List.getElem?_set] at hj
    split at hj
    · injection hj with hj
      subst hj
      exact ⟨World.ownsRow_nil _ _ _ _, by simp [Value.ownBlock], by simp⟩
    · rename_i hij
      have hqm := List.mem_of_getElem? hj
      refine ⟨(b3'.own q hqm).1, fun k hk => ?_, (b3'.own q hqm).2.2⟩
      rw [List.mem_filter]
      refine ⟨(b3'.own q hqm).2.1 k hk, ?_⟩
      simp only [decide_eq_true_eq]
      exact b3.apart j i q r k hj hr (fun e => hij e.symm) hk
  · intro a b q s k hq hs' hab hk
    rw [List.getElem?_set] at hq hs'
    by_cases ha : i = a
    · subst ha
      simp only [if_true, hil] at hq
      injection hq with hq
      subst hq
      simp [Value.ownBlock] at hk
    · rw [if_neg ha] at hq
      by_cases hb : i = b
      · subst hb
        simp only [if_true, hil] at hs'
        injection hs' with hs'
        subst hs'
        simp [Value.ownBlock]
      · rw [if_neg hb] at hs'
        exact b3.apart a b q s k hq hs' hab hk
  · intro k hk
    have := h7 k (List.mem_filter.1 hk).1
    simpa using this
/-- what Cut leaves. -/
def CutPost (X : ChainL) (L : PoolL) (cb base : Nat) (D : List Nat) (older : Int) (l : List Int) (C' : ChainS) (S' : PoolS) (w : World) (e : Ending) (w' : World) : Prop :=
  ∃ v D', e = .returned (.tuple #[.int .i64 older, v, .int .i64 0]) ∧ w'.ownsRow base 3 1 v l.length (ints l) ∧ l.length ≤ 100000 ∧ (∀ k, v.ownBlock = some k → k ∈ D ∧ k ∉ D') ∧ (∀ k ∈ D', k ∈ D) ∧
    PoolAt w' L S' ∧ ChainAt w' X L.pb cb base D' C' ∧ Only (chX X L) w w'
set_option maxRecDepth 100000 in
set_option maxHeartbeats 1600000 in
theorem cut_any (w : World) (X : ChainL) (L : PoolL) (S : PoolS) (cb base : Nat) (D : List Nat) (C : ChainS) (hp : PoolAt w L S) (hc : ChainAt w X L.pb cb base D C) (hf : Far X L base) (h older : Int) (l : List Int) (C' : ChainS) (S' : PoolS) (hS : C.cut S h = some (older, l, C', S')) :
    Calls Tryz.prog 130 #[ptr X.xb, .pointer none, .int .i64 h] w (CutPost X L cb base D older l C' S' w) := by
  simp only [ChainS.cut, Option.bind_eq_bind, Option.bind_eq_some_iff] at hS
  obtain ⟨x, hx, S1, hsl, hS⟩ := hS
  have hsw := swapLink_any w L S hp h x hx 0 ⟨by omega, by omega⟩ S1 hsl
  obtain ⟨rows, er, b1, _, _⟩ := hc.ex
  have c0 : w.cell? ⟨X.xb, 0, none⟩ = some (ptr L.pb) := b1.cell rfl
  have HC := Lib.hid hc; have HF := Lib.hid hf
  obtain ⟨i, hi⟩ : ∃ i : Nat, idxW h = i := ⟨(idxW h).toNat, by have := (idxW_bound h).1; omega⟩
  have hi2 : (idxW h).toNat = i := by omega
  rw [hi2] at hS
  have HIX := Lib.hid fun W => calls_rev (index_is hi W)
  unfold I2 at hsw
  unfold ptr at hsw c0 ⊢
  by_cases hl0 : x.link = 0
  · rw [if_pos hl0] at hS
    simp only [Option.some.injEq, Prod.mk.injEq] at hS
    obtain ⟨rfl, rfl, rfl, rfl⟩ := hS
    rw [hl0] at hsw
    clear hp hc hf hx hsl b1 er hi hi2 hl0
    go_enter Tryz.func130, Tryz.ntmps130
    go_wp2_with (go_at_call 189; refine hsw.mono ?_; rintro e w1 ⟨rfl, hp1, ho1⟩; have HP1 := Lib.hid hp1; have HO1 := Lib.hid ho1; clear hp1 ho1 hsw)
    go_ret3
    exact ⟨_, D, rfl, World.ownsRow_nil _ _ _ _, by simp, by simp [Value.ownBlock], fun _ h => h, HP1.out, HC.out.pool HF.out HO1.out, HO1.out.mono (fun k hk => by simp [chX, hk])⟩
  · rw [if_neg hl0] at hS
    simp only [Option.bind_eq_some_iff] at hS
    obtain ⟨⟨sh, sl⟩, hsi, hS⟩ := hS
    have hq : (x.link == 0) = false := by simp [hl0]
    have HSI := Lib.hid hsi
    have hil : i < C.sets.length := (List.getElem?_eq_some_iff.1 hsi).1
    clear hp hc hf hx hsl b1 er hi hi2 hl0 hsi
    generalize x.link = lk at *
    by_cases hsh : sh = h
    · subst hsh
      simp only [if_true, Option.some.injEq, Prod.mk.injEq] at hS
      obtain ⟨rfl, rfl, rfl, rfl⟩ := hS
      have hq2 : (sh != sh) = false := by simp
      generalize hlen : C.sets.length = len at *
      have HLEN := Lib.hid hlen
      clear hlen
      go_enter Tryz.func130, Tryz.ntmps130
      go_wp2_with (go_at_call 189; refine hsw.mono ?_; rintro e w1 ⟨rfl, hp1, ho1⟩; have HP1 := Lib.hid hp1; have HO1 := Lib.hid ho1; have hc1 := HC.out.pool HF.out ho1; obtain ⟨v, k1, k2, k3, k4, k5, k6, k7, k8, k9⟩ := hc1.takeSet HSI.out; have HC1 := Lib.hid hc1; have H4 := Lib.hid k4; have H5 := Lib.hid k5; have H6 := Lib.hid k6; have H8 := Lib.hid k8; have H9 := Lib.hid k9; rw [HLEN.out] at k7; unfold sliceOf at k7; clear hp1 ho1 hsw hc1 k4 k5 k6 k8 k9)
      obtain ⟨vA, vc, rfl, _, _⟩ := row_of_own H4.out
      refine wp_region_still_tail 7 (by kernel_rfl) (by kernel_rfl) ?_
      simp only [List.take_succ_cons, List.take_zero, List.drop_succ_cons, List.drop_zero]
      change wpStill _ _ (World.drew _) (fun a' => wpList _ _ _ _ a' (World.drew _)) _ _
      iterate 5 still_step
      still_call (HIX.out _)
      iterate 1 still_step
      refine wpStill_nil ?_
      go_wp2_with fail
      go_ret3
      refine ⟨_, _, rfl, own_only (X := [X.sb]) H4.out H8.out.drew' (fun k hk => by have := (H4.out.lt k hk).1; have := HC.out.lt.2; simp; omega), H6.out, fun k hk => ⟨H5.out k hk, fun hm => ?_⟩, fun k hk => (List.mem_filter.1 hk).1, (HP1.out.only H8.out (fun k hk => by simp; exact fun e => HF.out.sb (e ▸ hk))).drew, H9.out.below (.drew [] _), ?_⟩
      · have := (List.mem_filter.1 hm).2
        simp only [decide_eq_true_eq] at this
        exact this hk
      · exact ((HO1.out.mono (fun k hk => by simp [chX, hk])).trans (H8.out.mono (fun k hk => by simp [chX] at hk ⊢; simp [hk]))).drew'
    · rw [if_neg hsh] at hS
      simp only [Option.some.injEq, Prod.mk.injEq] at hS
      obtain ⟨rfl, rfl, rfl, rfl⟩ := hS
      have hq2 : (sh != h) = true := by simp [hsh]
      clear hsh
      generalize hlen : C.sets.length = len at *
      have HLEN := Lib.hid hlen
      clear hlen
      go_enter Tryz.func130, Tryz.ntmps130
      go_wp2_with (go_at_call 189; refine hsw.mono ?_; rintro e w1 ⟨rfl, hp1, ho1⟩; have HP1 := Lib.hid hp1; have HO1 := Lib.hid ho1; have hc1 := HC.out.pool HF.out ho1; obtain ⟨v, k1, k2, k3, k4, k5, k6, k7, k8, k9⟩ := hc1.takeSet HSI.out; have HC1 := Lib.hid hc1; have H4 := Lib.hid k4; have H5 := Lib.hid k5; have H6 := Lib.hid k6; have H8 := Lib.hid k8; have H9 := Lib.hid k9; rw [HLEN.out] at k7; unfold sliceOf at k7; clear hp1 ho1 hsw hc1 k4 k5 k6 k8 k9)
      obtain ⟨vA, vc, rfl, _, _⟩ := row_of_own H4.out
      refine wp_region_still_tail 7 (by kernel_rfl) (by kernel_rfl) ?_
      simp only [List.take_succ_cons, List.take_zero, List.drop_succ_cons, List.drop_zero]
      change wpStill _ _ (World.drew _) (fun a' => wpList _ _ _ _ a' (World.drew _)) _ _
      iterate 5 still_step
      still_call (HIX.out _)
      iterate 1 still_step
      refine wpStill_nil ?_
      go_wp2_with fail
      go_ret3
      exact ⟨_, D, rfl, World.ownsRow_nil _ _ _ _, by simp, by simp [Value.ownBlock], fun _ h => h, HP1.out.drew, HC1.out.below (.drew [] _), (HO1.out.mono (fun k hk => by simp [chX, hk])).drew'⟩
end Go.Proofs.YteeefedoffplmaaGreat
