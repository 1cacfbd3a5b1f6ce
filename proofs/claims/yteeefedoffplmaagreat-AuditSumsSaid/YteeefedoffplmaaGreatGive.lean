/- A pool's pile: Push. Conditions: the pool lies in memory; the place is one of the pile's. -/
import Derived.Test.YteeefedoffplmaaGreatPool
import Derived.StillTailTactics
namespace Go.Proofs.YteeefedoffplmaaGreat
open Go.RowKit

theorem pileIs (b i n k : Nat) (w : World) (hc : w.cell? ⟨b, 1, none⟩ = some (sliceOf k n)) (h1 : 1 ≤ i) (h2 : i < n) (_ : n ≤ 4097) :
    Calls Tryz.prog 184 #[ptr b, .int .i64 (i : Int)] w fun e w' => e = .returned (.bool true) ∧ w = w' := by
  unfold sliceOf at hc
  unfold ptr
  have e : decide (i < n) = true := by simp; omega
  go_enter Tryz.func184, Tryz.ntmps184
  go_wp2_with fail
  go_ret
  exact ⟨rfl, rfl⟩
theorem calls_rev {P : Program} {f : FuncId} {args : Array Value} {w : World} {v : Ending} (h : Calls P f args w fun e w' => e = v ∧ w = w') : Calls P f args w fun e w' => e = v ∧ w' = w := h.mono fun _ _ ⟨a, b⟩ => ⟨a, b.symm⟩
theorem push_spec {S S' : PoolS} {i : Int} (h : S.push i = some S') : ∃ n : Nat, i = n ∧ 1 ≤ n ∧ n < S.next.length ∧ n ≤ 1048575 ∧ isWordB S.head = true ∧ S' = { S with next := S.next.set n (idxW S.head), head := packW n ((tagW S.head + 1) % T40) } := by
  unfold PoolS.push at h
  split at h
  · rename_i hc
    injection h with h
    obtain ⟨h1, h2, h3, h4⟩ := hc
    unfold T20 at h3
    refine ⟨i.toNat, by omega, by omega, by omega, by omega, h4, ?_⟩
    rw [← h]
    have : ((i.toNat : Nat) : Int) = i := by omega
    rw [this]
  · cases h
set_option maxRecDepth 100000 in
theorem push_any (w : World) (L : PoolL) (S : PoolS) (hp : PoolAt w L S) (i : Int) (S' : PoolS) (hS : S.push i = some S') :
    Calls Tryz.prog 193 #[ptr L.fb, .pointer none, .int .i64 i] w (Stored L S' w (.int .i64 0)) := by
  obtain ⟨n, rfl, h1, h2, h3, hw, rfl⟩ := push_spec hS
  obtain ⟨m, hm⟩ : ∃ m : Nat, idxW S.head = m := ⟨(idxW S.head).toNat, by have := (idxW_bound S.head).1; omega⟩
  have hmb : m ≤ 1048575 := by have := (idxW_bound S.head).2; omega
  obtain ⟨y, hy⟩ : ∃ y, S.next[n]? = some y := ⟨_, List.getElem?_eq_getElem h2⟩
  have his := pileIs L.fb n S.next.length L.nb w (hp.f.cell rfl) h1 h2 (by rw [hp.len]; exact hp.most)
  have hl := atomLoad L.fb 0 S.head w (hp.f.cell rfl)
  have hix := calls_rev (index_is hm w.drew)
  have hst := atomStore L.nb n y w.drew (m : Int) (hp.drew.next hy) (hp.drew.n.frozen _)
  have hp2 := hp.drew.setNext n (m : Int) (by constructor <;> omega)
  have hnx := next_any S.head (n : Int) (w.drew.setCell ⟨L.nb, n, none⟩ (.int .i64 m)) hw (by omega) (by omega)
  have hcas := atomCas L.fb 0 S.head (w.drew.setCell ⟨L.nb, n, none⟩ (.int .i64 m)) (packW n ((tagW S.head + 1) % T40)) (hp2.f.cell rfl) (hp2.f.frozen _)
  have hfin := hp2.setHead (packW n ((tagW S.head + 1) % T40))
  rw [hm]
  have honly : Only L.blocks w ((w.drew.setCell ⟨L.nb, n, none⟩ (.int .i64 m)).setCell ⟨L.fb, 0, none⟩ (.int .i64 (packW n ((tagW S.head + 1) % T40)))) :=
    ((Only.drew _ _).setCell (.inl (by simp [PoolL.blocks])) _).setCell (.inl (by simp [PoolL.blocks])) _
  have HF := Lib.hid hfin; have HO := Lib.hid honly; have HST := Lib.hid hst; have HNX := Lib.hid hnx; have HCAS := Lib.hid hcas; have HIX := Lib.hid hix
  have c1 : w.cell? ⟨L.fb, 1, none⟩ = some (sliceOf L.nb S.next.length) := hp.f.cell rfl
  generalize S.head = hd at *
  generalize packW n ((tagW hd + 1) % T40) = to at *
  unfold ptr at his ⊢
  unfold sliceOf at c1
  clear hp hp2 hfin honly hst hnx hcas hm hy hw hS hix
  go_enter Tryz.func193, Tryz.ntmps193
  go_wp2_with (go_at_call 184; refine his.mono ?_; rintro e w' ⟨rfl, rfl⟩)
  refine wp_loop_rounds 1 ?_
  rw [rounds_succ]
  go_wp2_with (first | (go_at_call 71; refine (step_nil _).mono ?_; rintro e w' ⟨rfl, rfl⟩) | (go_at_call 51; refine hl.mono ?_; rintro e w' ⟨rfl, rfl⟩))
  refine wp_region_still_tail 8 (by kernel_rfl) (by kernel_rfl) ?_
  simp only [List.take_succ_cons, List.take_zero, List.drop_succ_cons, List.drop_zero]
  change wpStill _ _ (World.drew _) (fun a' => wpList _ _ _ _ a' (World.drew _)) _ _
  iterate 7 still_step
  still_call HIX.out
  refine wpStill_nil ?_
  go_wp2_with (first | (go_at_call 100; refine HST.out.mono ?_; rintro e w' ⟨rfl, rfl⟩) | (go_at_call 71; refine (step_nil _).mono ?_; rintro e w' ⟨rfl, rfl⟩) | (go_at_call 217; refine HNX.out.mono ?_; rintro e w' ⟨rfl, rfl⟩) | (go_at_call 135; refine HCAS.out.mono ?_; rintro e w' ⟨rfl, rfl⟩))
  go_ret
  exact ⟨rfl, HF.out, HO.out⟩
end Go.Proofs.YteeefedoffplmaaGreat

/- A pool's Give at a handle in use. Conditions: the pool lies in memory; the handle's slot is in use for it. -/
namespace Go.Proofs.YteeefedoffplmaaGreat
open Go.RowKit

theorem neqNode (x y : NodeS) (w : World) : (binOp .neq 218 (.agg #[.int .i64 x.a, .int .i64 x.b, .int .i64 x.c, .int .i64 x.d]) (.agg #[.int .i64 y.a, .int .i64 y.b, .int .i64 y.c, .int .i64 y.d])).run Tryz.prog w = .ok (.bool (decide (x ≠ y))) w := by
  have h1 : Tryz.prog.stoodInHeld 218 = false := by kernel_rfl
  have hu := Tryz.underlying218
  obtain ⟨x0, x1, x2, x3⟩ := x
  obtain ⟨y0, y1, y2, y3⟩ := y
  go_simp
  by_cases e0 : x0 = y0 <;> by_cases e1 : x1 = y1 <;> by_cases e2 : x2 = y2 <;> by_cases e3 : x3 = y3 <;> simp [e0, e1, e2, e3]
theorem guard218 : Tryz.prog.eqGuardType Tryz.prog.depth 218 = false := by kernel_rfl
theorem give_spec {S S' : PoolS} {h : Int} {s : SlotS} (ha : S.at h = some s) (hS : S.give h = some S') {n : Nat} (hn : idxW h = n) : (S.with n ⟨s.gen + 1, poison, poison, poisoned⟩).push n = some S' := by
  unfold PoolS.give at hS
  simp only [ha, bind, Option.bind, hn] at hS
  exact hS
theorem give_slot {S S' : PoolS} {h : Int} (hS : S.give h = some S') : ∃ s, S.at h = some s := by
  unfold PoolS.give at hS
  cases ha : S.at h with
  | none => simp [ha] at hS
  | some s => exact ⟨s, rfl⟩
theorem Stored.hid {L : PoolL} {S' : PoolS} {w w' : World} {r : Value} {e : Ending} (h : Stored L S' w r e w') : e = .returned r ∧ Hid (PoolAt w' L S') ∧ Hid (Only L.blocks w w') := ⟨h.1, Lib.hid h.2.1, Lib.hid h.2.2⟩
attribute [-go_sem] run_neq_struct
set_option maxRecDepth 100000 in
set_option maxHeartbeats 800000 in
theorem give_any (w : World) (L : PoolL) (S : PoolS) (hp : PoolAt w L S) (h : Int) (S' : PoolS) (hS : S.give h = some S') :
    Calls Tryz.prog 138 #[ptr L.pb, .pointer none, .int .i64 h] w (Stored L S' w (.int .i64 0)) := by
  obtain ⟨s, ha⟩ := give_slot hS
  obtain ⟨n, hn, h1, hs, hlt, hodd, hg⟩ := at_spec ha
  have hpush := give_spec ha hS hn
  have hat := at_any w L S hp h s ha n hn
  have htb := tagW_bound h
  rw [← hg] at htb
  obtain ⟨g1, g2⟩ := htb
  have hok := hp.ok s (List.mem_of_getElem? hs)
  have hokg : In64 (s.gen + 1) := by constructor <;> omega
  have hcas := atomCas L.lb (n * 7 + 0) s.gen w (s.gen + 1) (hp.slot hs (j := 0) (by omega) rfl) (hp.l.frozen _)
  have hp1 : PoolAt (w.setCell ⟨L.lb, n * 7 + 0, none⟩ (.int .i64 (s.gen + 1))) L (S.with n (s.setj 0 (s.gen + 1))) := hp.setSlot hs (by omega) rfl ⟨hokg, hok.mark, hok.link, hok.node⟩
  have ho1 : Only L.blocks w (w.setCell ⟨L.lb, n * 7 + 0, none⟩ (.int .i64 (s.gen + 1))) := (Only.refl _ _).setCell (.inl (by simp [PoolL.blocks])) _
  have HS := Lib.hid hs; have HN := Lib.hid hn; have HPU := Lib.hid hpush; have HG := Lib.hid hokg
  have HP := Lib.hid hp1; have HO := Lib.hid ho1
  have HPB : Hid (Blk w L.pb [sliceOf L.lb S.slots.length, ptr L.fb, .int .i64 S.faults] 124) := Lib.hid hp.p
  have HAP := Lib.hid hp.apart
  rw [Nat.add_zero] at hcas HP HO
  unfold ptr at hat ⊢
  generalize hw1 : w.setCell ⟨L.lb, n * 7, none⟩ (.int .i64 (s.gen + 1)) = w1 at hcas HP HO
  clear hw1 hok hs hn hpush hp1 ho1 hp ha hodd hg hS hokg
  generalize hgg : s.gen = g at *
  have HGG := Lib.hid hgg
  clear hgg
  have hq : ∀ V, (binOp .neq 218 (.agg #[.int .i64 s.node.a, .int .i64 s.node.b, .int .i64 s.node.c, .int .i64 s.node.d]) (.agg #[.int .i64 (-7777777), .int .i64 (-7777777), .int .i64 (-7777777), .int .i64 (-7777777)])).run Tryz.prog V = .ok (.bool (decide (s.node ≠ poisoned))) V := fun V => neqNode s.node poisoned V
  have hho : ∀ o : Obj, Calls Tryz.prog 172 #[.pointer (some ⟨L.lb, n * 7, none⟩)] (w1.alloc o) fun e w' => e = .returned s.node.val ∧ Below (w1.alloc o).heap.size (w1.alloc o) w' := fun o =>
    have hs' := S.with_get HS.out (s.setj 0 (g + 1))
    holds_any L.lb (n * 7) s.node _ ((HP.out.alloc o).slot hs' (j := 3) (by omega) rfl) ((HP.out.alloc o).slot hs' (j := 4) (by omega) rfl) ((HP.out.alloc o).slot hs' (j := 5) (by omega) rfl) ((HP.out.alloc o).slot hs' (j := 6) (by omega) rfl)
  have HHO := Lib.hid hho
  clear hho
  unfold NodeS.val at HHO
  have HPL : Hid (In64 (-7777777)) := Lib.hid (by constructor <;> omega)
  have HPO : Hid (In64 poison) := Lib.hid (by unfold poison; constructor <;> omega)
  by_cases hpo : s.node = poisoned
  all_goals
    have hd := (Bool.eq_false_or_eq_true (decide (s.node ≠ poisoned))).symm
    rcases hd with hd | hd
    all_goals try (exfalso; simp [hpo] at hd; done)
    simp only [hd] at hq
    have HPN := Lib.hid hpo
    clear hpo hd
  all_goals
    generalize hna : s.node.a = na at hq HHO
    generalize hnb : s.node.b = nb at hq HHO
    generalize hnc : s.node.c = nc at hq HHO
    generalize hnd : s.node.d = nd at hq HHO
    clear hna hnb hnc hnd
    go_enter Tryz.func138, Tryz.ntmps138
    go_wp2_with (first | (go_at_call 71; refine (step_nil _).mono ?_; rintro e w' ⟨rfl, rfl⟩) | (go_at_call 191; refine hat.mono ?_; rintro e w' ⟨rfl, rfl⟩) | (go_at_call 135; refine hcas.mono ?_; rintro e w' ⟨rfl, rfl⟩) | (go_at_call 172; refine (HHO.out _).mono ?_; rintro e w2 ⟨rfl, hb⟩; have HP := Lib.hid ((HP.out.alloc _).below hb); have HO := Lib.hid ((HO.out.alloc _).trans (.of_below hb)); have hn9 := blk_behind hb; have hz := hn9.lt; have c0 := hn9.cell (i := 0) rfl; have c1 := hn9.cell (i := 1) rfl; have c2 := hn9.cell (i := 2) rfl; have c3 := hn9.cell (i := 3) rfl; clear hb hn9 hat hcas) | (go_at_call 192; refine (lays_any _ L _ (HP.out.alloc _) n _ (PoolS.with_get _ HS.out _) poisoned poison poison ⟨HPO.out, HPO.out, HPO.out, HPO.out⟩ HPO.out HPO.out).mono ?_; rintro e w3 ⟨rfl, hp, ho⟩; rw [PoolS.with_with] at hp; have HP := Lib.hid hp; have HO := Lib.hid ((HO.out.alloc _).trans ho); clear hp ho hq c0 c1 c2 c3 hz) | (go_at_call 100; (with_reducible refine (slotStore HS HP 1 (by omega) (-7777777) HPL.out _ rfl).mono ?_); rintro e w4 ⟨rfl, hp, ho⟩; have HP := Lib.hid hp; have HO := Lib.hid (HO.out.trans ho); have cpb := hp.p.cell (i := 1) rfl; clear hp ho) | (go_at_call 100; (with_reducible refine (slotStore HS (Lib.hid (HP.out.alloc _)) 1 (by omega) (-7777777) HPL.out _ rfl).mono ?_); rintro e w4 ⟨rfl, hp, ho⟩; have HP := Lib.hid hp; have HO := Lib.hid ((HO.out.alloc _).trans ho); have cpb := hp.p.cell (i := 1) rfl; clear hp ho) | (go_at_call 100; (with_reducible refine (slotStore HS HP 2 (by omega) (-7777777) HPL.out _ rfl).mono ?_); rintro e w4 ⟨rfl, hp, ho⟩; have HP := Lib.hid hp; have HO := Lib.hid (HO.out.trans ho); have cpb := hp.p.cell (i := 1) rfl; clear hp ho) | (go_at_call 100; (with_reducible refine (slotStore HS (Lib.hid (HP.out.alloc _)) 2 (by omega) (-7777777) HPL.out _ rfl).mono ?_); rintro e w4 ⟨rfl, hp, ho⟩; have HP := Lib.hid hp; have HO := Lib.hid ((HO.out.alloc _).trans ho); have cpb := hp.p.cell (i := 1) rfl; clear hp ho))
    have cpb := HP.out.drew.p.cell (i := 1) rfl
    unfold ptr at cpb
    have HIX := Lib.hid fun W => calls_rev (index_is HN.out W)
    refine wp_region_still_tail 7 (by kernel_rfl) (by kernel_rfl) ?_
    simp only [List.take_succ_cons, List.take_zero, List.drop_succ_cons, List.drop_zero]
    change wpStill _ _ (World.drew _) (fun a' => wpList _ _ _ _ a' (World.drew _)) _ _
    iterate 6 still_step
    still_call (HIX.out _)
    refine wpStill_nil ?_
    have hpu : Calls Tryz.prog 193 #[.pointer (some ⟨L.fb, 0, none⟩), .pointer none, .int .i64 (n : Int)] _ _ := push_any _ L _ HP.out.drew n S' (by first | exact HPU.out | (have := HPU.out; rw [← HPN.out] at this; exact this))
    go_wp2_with (go_at_call 193; refine hpu.mono ?_; rintro e w5 ⟨rfl, hp, ho⟩; have HP := Lib.hid hp; have HO := Lib.hid (HO.out.drew'.trans ho); clear hp ho hpu)
    go_ret
    exact ⟨rfl, HP.out, HO.out⟩
end Go.Proofs.YteeefedoffplmaaGreat
