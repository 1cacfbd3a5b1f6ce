/- AuditSums answers true for every input; what it reads stays. No condition. -/
import Derived.Test.YteeefedoffplmaaGreatKnown
import Derived.Test.YteeefedoffplmaaGreatRows
import Derived.Deep.Slices
import Derived.Deep.Fields
import Derived.ChangeSame
import Derived.ProofKit
import Derived.OpenShut
import Derived.JoinedCond
set_option linter.unusedSimpArgs false
set_option linter.unusedVariables false
namespace Go.Proofs.YteeefedoffplmaaGreat
open Go.RowKit

set_option maxRecDepth 100000 in
set_option maxHeartbeats 3200000 in
theorem audit_walk (w : World) (l : List UseS) (A : Option Addr) (c : Nat) (ha : Row w A (l.flatMap UseS.cells)) (hn : A = none → l.length = 0) :
    Calls Tryz.prog 3 #[.slice A l.length c] w fun e w' => e = .returned (.bool true) ∧ Only [] w w' := by
  have HK := Lib.hid known_walk
  by_cases hbig : 10000 < l.length
  · have hbg : ¬ (l.length : Int) ≤ 10000 := by omega
    have hbg2 : (10000 : Int) < l.length := by omega
    clear ha hn hbig
    go_enter Tryz.func3, Tryz.ntmps3
    go_wp2_with (go_at_call 5; refine (HK.out _).mono ?_; rintro e w1 ⟨rfl, ho1⟩; have HO1 := Lib.hid ho1; clear ho1)
    go_ret
    exact ⟨rfl, HO1.out⟩
  · have hbg : (l.length : Int) ≤ 10000 := by omega
    have hbg2 : ¬ (10000 : Int) < l.length := by omega
    have HA := Lib.hid ha; have HN := Lib.hid hn
    have HM1 := Lib.hid (show 0 + l.length ≤ maxLen from by unfold maxLen; omega)
    have HM2 := Lib.hid (show (0 + l.length) * 40 ≤ 140737488355328 from by omega)
    have HLEN := Lib.hid (show (l.flatMap UseS.cells).length = l.length * 5 from flatMap_len _ 5 (fun _ => rfl) l)
    have HONE := Lib.hid (show ∀ u ∈ l.flatMap UseS.cells, u.oneCell' = true from fun u hu => by obtain ⟨x, _, hx⟩ := List.mem_flatMap.1 hu; exact useCells_one x u hx)
    have HB4 := Lib.hid (show l.length ≤ 4000000 from by omega)
    have heq := eqlSums (cnt 1 l) (cnt 2 l) (cnt 3 l) (cnt 4 l) (cnt 5 l)
    have hg25 := guard25
    clear ha hn hbig
    go_enter Tryz.func3, Tryz.ntmps3
    go_wp2_with (first | (go_at_call 5; refine (HK.out _).mono ?_; rintro e w1 ⟨rfl, ho1⟩; have HO1 := Lib.hid ho1; have HA1 := Lib.hid (HA.out.below ho1.below); clear ho1) | (at_builtin; refine wpList_append_is rfl (.const (.slice none 0 0)) (.tmp 9) rfl elemUse rfl (World.ownsRow_nil _ w.heap.size 62 5) _ l.length c (l.flatMap UseS.cells) rfl HA1.out HLEN.out HONE.out HM1.out HM2.out HO1.out.size HN.out ?_; intro v5 w5 hown5 hg5 hat5; have ho5 : Only [] w w5 := HO1.out.grown hg5 (fun k hk => by cases hk); obtain ⟨A5, c5, rfl, hr5, _⟩ := row_of_own hown5; have HO5 := Lib.hid ho5; have HR5 := Lib.hid (show Row w5 A5 (l.flatMap UseS.cells) from hr5); have HA5 := Lib.hid (HA.out.below ho5.below); rw [Nat.zero_add]; clear hown5 hg5 hat5 ho5 hr5) | (go_at_call 6; have hsx := sums_any _ l A5 c5 HB4.out HR5.out; unfold sumsV at hsx; refine hsx.mono ?_; rintro e w6 ⟨rfl, ho6⟩; have HO6 := Lib.hid ho6; clear ho6) | (go_at_call 7; have hsy := refSums_any _ l A c HB4.out (HA5.out.below HO6.out.below); unfold sumsV at hsy; refine hsy.mono ?_; rintro e w7 ⟨rfl, ho7⟩; have HO7 := Lib.hid (HO6.out.trans ho7); clear ho7) | (go_at_call 8; refine (sameUses l l A5 A c5 c _ HB4.out HB4.out (HR5.out.below HO7.out.below) (HA5.out.below HO7.out.below)).mono ?_; rintro e w8 ⟨rfl, n, rfl⟩))
    go_ret
    exact ⟨by simp, (HO5.out.trans HO7.out).drewN n⟩
end Go.Proofs.YteeefedoffplmaaGreat

namespace Go.Proofs.YteeefedoffplmaaGreat
open Go.RowKit Go.Maps Go.ChangeShapes Go.WideShapes Go.Deep Go.ChangeAt
section
variable {H : Type} {enc : TypeId × Value → H} {P : Program} {w : World} {base : Nat} {spare : Nat → Bool} {held : Bool}
theorem open_slice_fields {t e : TypeId} {fs : Array Field} {fuel : Nat} {cs : List Value} {x : DataW H × List MemPlace} (ht : P.underlying t = some (.slice e)) (he : P.underlying e = some (.struct fs))
    (hone : oneCellFields P fs = true) (hC : P.cellsOf e = fs.size) (h : DataW.trod enc P w base spare held fuel t cs = some x) :
    (cs = [.slice none 0 0] ∧ x = (.nil, [])) ∨
    ∃ (a : Addr) (len cap m : Nat) (D : Nat → DataW H) (Pl : Nat → List MemPlace), cs = [.slice (some a) len cap] ∧ base ≤ a.block ∧ len ≤ cap ∧ cap ≤ maxLen ∧ m = (if spare a.block then cap else len) ∧
      x = (.slice ((List.range len).map D) ((List.range (m - len)).map fun j => D (len + j)), MemPlace.row a (m * fs.size) ++ (List.range m).flatMap Pl) ∧
      ∀ i, i < m → ∃ (ys : List (DataW H × List MemPlace)) (n : Nat), D i = .agg (ys.map (·.1)) ∧ Pl i = ys.flatMap (·.2) ∧ ys.length = fs.size ∧
        ∀ (j : Nat) (f : Field), fs[j]? = some f → ∃ (v : Value) (y : DataW H × List MemPlace), w.cell? (a.add (i * fs.size + j)) = some v ∧ ys[j]? = some y ∧ DataW.trod enc P w base spare held n f.type [v] = some y := by
  rcases open_slice ht h with h0 | ⟨a, len, cap, m, n, D, Pl, hcs, hb, hl, hm, hmm, hx, hi⟩
  · exact .inl h0
  · refine .inr ⟨a, len, cap, m, D, Pl, hcs, hb, hl, hm, hmm, by rw [hC] at hx; exact hx, fun i him => ?_⟩
    obtain ⟨cs', hc, ht'⟩ := hi i him
    rw [hC] at hc
    obtain ⟨ys, n', hn', hy, hlen, hyl, hf⟩ := DataW.trod_struct he ht'
    obtain ⟨_, hcl, hat⟩ := World.cells?_some hc
    simp only [Prod.mk.injEq] at hy
    refine ⟨ys, n', hy.1, hy.2, hyl, fun j f hj => ?_⟩
    obtain ⟨ho, hk⟩ := hone_of hone j f hj
    have hjl : j < fs.size := (Array.getElem?_eq_some_iff.1 hj).1
    have hcell := hat j hjl
    have hv : cs'[j]? = some (cs'[j]'(by omega)) := List.getElem?_eq_getElem (by omega)
    have h1 := hf j f hj
    rw [ho, hk] at h1
    have hone' : (cs'.drop j).take 1 = [cs'[j]'(by omega)] := by
      rw [List.drop_eq_getElem_cons (by omega)]
      rfl
    rw [hone'] at h1
    have hys : ys[j]? = some (ys[j]'(by omega)) := List.getElem?_eq_getElem (by omega)
    refine ⟨_, _, ?_, hys, h1.trans hys⟩
    rw [← Go.Deep.add_add, hcell, hv]
end

theorem row_of_adds {w : World} {a : Addr} {xs : List Value} (h : ∀ j u, xs[j]? = some u → w.cell? (a.add j) = some u) : Row w (some a) xs := by
  intro j u hu
  have hj := (List.getElem?_eq_some_iff.1 hu).1
  have h0 : xs[0]? = some (xs[0]'(by omega)) := List.getElem?_eq_getElem _
  have hc := h 0 _ h0
  obtain ⟨b, off, sp⟩ := a
  have hsp : sp = none := by
    cases sp with
    | none => rfl
    | some s =>
      simp only [Addr.add, if_true, World.cell?] at hc
      split at hc <;> simp at hc
  subst hsp
  refine ⟨b, off, rfl, ?_⟩
  have := h j u hu
  rwa [addr_add] at this

theorem row_of_flat {α : Type} {w : World} {a : Addr} (g : α → List Value) (s : Nat) (hg : ∀ x, (g x).length = s) (hs : 0 < s) {l : List α} (h : ∀ i x, l[i]? = some x → ∀ j u, (g x)[j]? = some u → w.cell? (a.add (i * s + j)) = some u) : Row w (some a) (l.flatMap g) := by
  refine row_of_adds fun j u hu => ?_
  have hj := (List.getElem?_eq_some_iff.1 hu).1
  have hlen : (l.flatMap g).length = l.length * s := by
    clear hu hj h
    induction l with
    | nil => simp
    | cons x l ih => rw [List.flatMap_cons, List.length_append, ih, hg, List.length_cons, Nat.succ_mul]; omega
  have hi : j / s < l.length := by rw [hlen] at hj; exact Nat.div_lt_of_lt_mul (by rw [Nat.mul_comm]; exact hj)
  have e : j / s * s + j % s = j := Nat.div_add_mod' j s
  have hx : l[j / s]? = some l[j / s] := List.getElem?_eq_getElem hi
  have hget := flatMap_get g s hg l (j / s) _ hx (j % s) (Nat.mod_lt _ hs)
  rw [e, hu] at hget
  have := h (j / s) _ hx (j % s) u hget.symm
  rwa [e] at this
section
variable {H : Type} {enc : TypeId × Value → H} {w : World} {base : Nat} {held : Bool}
theorem fields62 : ∃ fs : Array Field, Tryz.prog.underlying 62 = some (.struct fs) ∧ fs.size = 5 ∧ fs.toList.map (·.type) = [3, 3, 3, 3, 3] ∧ oneCellFields Tryz.prog fs = true :=
  ⟨_, Tryz.underlying62, rfl, rfl, by kernel_rfl⟩
instance : Inhabited UseS := ⟨⟨0, 0, 0, 0, 0⟩⟩
/-- a list of uses. -/
theorem openUses {fuel : Nat} {v : Value} {y : DataW H × List MemPlace} (h : DataW.trod enc Tryz.prog w base (fun _ => true) held fuel 22 [v] = some y) :
    ∃ (A : Option Addr) (l : List UseS) (c : Nat), v = .slice A l.length c ∧ Row w A (l.flatMap UseS.cells) ∧ (A = none → l.length = 0) := by
  obtain ⟨fs, hu, hsz, hty, hone⟩ := fields62
  rcases open_slice_fields Tryz.underlying22 hu hone (by rw [hsz]; kernel_rfl) h with ⟨hv, rfl⟩ | ⟨a, len, cap, m, D, Pl, hv, _, hl, hm, hmm, rfl, hx⟩
  · injection hv with hv
    subst hv
    exact ⟨none, [], 0, rfl, Row.nil _ _, fun _ => rfl⟩
  · injection hv with hv
    subst hv
    simp only [if_true] at hmm
    subst hmm
    rw [hsz] at hx
    obtain ⟨f, hf⟩ := choose_lt (α := UseS) (n := m) (p := fun i d => ∀ j u, (UseS.cells d)[j]? = some u → w.cell? (a.add (i * 5 + j)) = some u) (fun i hi => by
      obtain ⟨ys, n, hD, _, hys, hfi⟩ := hx i hi
      have gi : ∀ j : Nat, [3, 3, 3, 3, 3][j]? = some 3 → ∃ n : Int, w.cell? (a.add (i * 5 + j)) = some (.int .i64 n) := by
        intro j ht
        rw [← hty, List.getElem?_map, Array.getElem?_toList] at ht
        cases hfj : fs[j]? with
        | none => rw [hfj] at ht; cases ht
        | some g =>
          rw [hfj] at ht
          obtain ⟨v, y, h1, h2, h3⟩ := hfi j g hfj
          injection ht with ht
          have ht' : g.type = 3 := ht
          rw [ht'] at h3
          obtain ⟨n, e, _, hw⟩ := DataW.trod_int Tryz.underlying3 h3
          injection e with e
          subst e
          exact ⟨n, h1⟩
      obtain ⟨x0, h0⟩ := gi 0 rfl
      obtain ⟨x1, h1⟩ := gi 1 rfl
      obtain ⟨x2, h2⟩ := gi 2 rfl
      obtain ⟨x3, h3⟩ := gi 3 rfl
      obtain ⟨x4, h4⟩ := gi 4 rfl
      refine ⟨⟨x0, x1, x2, x3, x4⟩, fun j u hu => ?_⟩
      match j, hu with
      | 0, hu => exact Option.some.inj hu ▸ h0
      | 1, hu => exact Option.some.inj hu ▸ h1
      | 2, hu => exact Option.some.inj hu ▸ h2
      | 3, hu => exact Option.some.inj hu ▸ h3
      | 4, hu => exact Option.some.inj hu ▸ h4
      | j + 5, hu => cases hu)
    have hlen : ((List.range len).map f).length = len := by simp
    refine ⟨some a, (List.range len).map f, m, by rw [hlen], ?_, (fun e => by cases e)⟩
    refine row_of_flat UseS.cells 5 (fun _ => rfl) (by decide) fun i x hi j u hu => ?_
    have hil : i < len := by
      have := (List.getElem?_eq_some_iff.1 hi).1
      rwa [hlen] at this
    have hxi : f i = x := by simpa [hil] using hi
    have := hf i (by omega) j u
    rw [hxi] at this
    exact this hu
end
theorem auditOwn : ownKnob Tryz.prog.godebug = none := by kernel_rfl
theorem auditLaidOut : laidOutB Tryz.prog = true := by kernel_rfl

set_option maxRecDepth 100000 in
set_option maxHeartbeats 1000000 in
theorem audit_contract (H : Type) (enc : TypeId × Value → H) (W : World) (base : Nat) (args : Array Value) (ds gs : List (DataW H)) (before : List MemPlace)
    (hval : ∀ (j : Nat) t v, Tryz.f3.params[j]? = some t → args[j]? = some v → Value.okWide Tryz.prog W .any base t v)
    (hW : DataW.Whole enc Tryz.prog Tryz.f3.params.toList Rows.auditSumsSpec.vars false W args.toList ds gs before) :
    Calls Tryz.prog 3 args W fun e W' => ∃ v, e = .returned v ∧ Rows.auditSumsSpec.post enc Tryz.prog Tryz.f3 false true false false W args v W' := by
  have hW' := hW
  obtain ⟨p, q, hA0, hV, rfl, hfz, hnd⟩ := hW
  have hA : DataW.TrodAll enc Tryz.prog W 0 (fun _ => true) true Tryz.f3.params.toList args.toList ds p := hA0
  rw [Tryz.params3] at hA hval
  obtain ⟨v0, vs0, d0, ds0, p0, q0, hargs, rfl, rfl, h0, r0⟩ := trodAll_cons hA
  obtain ⟨rfl, rfl, rfl⟩ := trodAll_nil r0
  obtain rfl : args = #[v0] := by
    apply Array.toList_inj.1
    rw [hargs]
  obtain ⟨rfl, rfl⟩ := trodVars_none hV
  have h0k := h0
  obtain ⟨fu0, hf0⟩ := h0
  obtain ⟨a0, l0, c0, rfl⟩ := okWide_slice Tryz.underlying22 (hval 0 22 v0 (by simp) (by simp))
  obtain ⟨A, l, c, e0, hrow, hnil⟩ := openUses hf0
  cases e0
  clear hA0
  simp only [List.append_nil] at hW'
  have hlt : ∀ x ∈ p0, x.block < W.heap.size := fun x hx => by simpa using hW'.lt x hx
  refine (audit_walk W l _ _ hrow hnil).mono fun e W' ⟨he, ho⟩ => ?_
  have hbl := ho.below
  subst he
  exact ⟨_, rfl, ⟨_, _, _, [], _, [], hW', trodAll_cons_mk (shut_bool Tryz.underlying4 _) trodAll_mk0,
    trodAll_cons_mk (Below.trod auditLaidOut (by kernel_rfl) (of_decide_eq_true (by kernel_rfl)) h0k hbl (fun x hx => hlt x hx)) trodAll_mk0, rfl, hbl.frame _, fun h => by cases h⟩⟩

set_option maxRecDepth 100000 in
theorem audit_lifted (os : Os) (started : os.Started) (H : Type) (enc : TypeId × Value → H) :
    ReturnsInHanded {} Tryz.checked os 3 .any (Rows.auditSumsSpec.pre6 enc Tryz.prog Tryz.f3 Rows.auditSumsRow.domain false) (Rows.auditSumsSpec.post enc Tryz.prog Tryz.f3 false true false false) := by
  refine returnsInHanded_of_change (C := Tryz.checked) auditOwn started (by kernel_rfl) Tryz.func3
    (ChangeSpec.witness6 (enc := enc) (C := Tryz.checked) false ⟨#[], #[.slice none 0 0], []⟩ 8 (by kernel_rfl) (by kernel_rfl) (by kernel_rfl) (by kernel_rfl)) ?_
  intro W base args ds gs before hval hW _ _
  exact audit_contract H enc W base args ds gs before hval hW

theorem auditSums : Rows.AuditSumsSaid :=
  OpenClaim.holds_of_wide 3 Tryz.f3 rfl rfl rfl rfl rfl rfl rfl ⟨rfl, rfl, rfl, rfl, rfl⟩ rfl rfl rfl rfl rfl (by kernel_rfl) Tryz.func3 (by kernel_rfl)
    (of_decide_eq_true (by kernel_rfl)) (by unfold Func.isWrapper; first | (rw [if_pos (by decide +kernel)]; kernel_rfl) | (rw [if_neg (by decide +kernel)]; exact ⟨rfl, rfl⟩))
    (fun os started H enc _ => audit_lifted os started H enc)
#print axioms auditSums
end Go.Proofs.YteeefedoffplmaaGreat
