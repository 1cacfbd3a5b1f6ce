/- A pool's calls at a handle in use: at, meets, Read, Mark, CasMark, Link, SwapLink. Conditions: the pool lies in memory; the handle's slot is in use for it. -/
import Derived.Test.YteeefedoffplmaaGreatSlot
namespace Go.Proofs.YteeefedoffplmaaGreat
open Go.RowKit

theorem index_is {h : Int} {n : Nat} (hn : idxW h = n) (w : World) : Calls Tryz.prog 95 #[.int .i64 h] w fun e w' => e = .returned (.int .i64 (n : Int)) ∧ w = w' := hn ▸ index_any h w
theorem tag_is {h t : Int} (hn : tagW h = t) (w : World) : Calls Tryz.prog 84 #[.int .i64 h] w fun e w' => e = .returned (.int .i64 t) ∧ w = w' := hn ▸ tag_any h w
theorem tagW_bound (h : Int) : 0 ≤ tagW h ∧ tagW h ≤ 1099511627775 := by unfold tagW T40; split <;> omega
theorem idxW_bound (h : Int) : 0 ≤ idxW h ∧ idxW h ≤ 1048575 := by
  unfold idxW
  split
  · rename_i hb
    rw [isWordB_iff] at hb
    unfold T40
    omega
  · omega
theorem at_spec {S : PoolS} {h : Int} {s : SlotS} (ha : S.at h = some s) : ∃ n : Nat, idxW h = n ∧ 1 ≤ n ∧ S.slots[n]? = some s ∧ n < S.slots.length ∧ tagW h % 2 = 1 ∧ s.gen = tagW h := by
  unfold PoolS.at at ha
  simp only [bind, Option.bind] at ha
  split at ha
  · cases ha
  · rename_i s' hs
    replace ha : (if 1 ≤ idxW h ∧ tagW h % 2 = 1 ∧ s'.gen = tagW h then some s' else none) = some s := ha
    split at ha
    · rename_i hc
      injection ha with ha
      subst ha
      have := (idxW_bound h).1
      exact ⟨(idxW h).toNat, by omega, by omega, hs, (List.getElem?_eq_some_iff.1 hs).1, hc.2.1, hc.2.2⟩
    · cases ha

section
variable (w : World) (L : PoolL) (S : PoolS) (hp : PoolAt w L S) (h : Int) (s : SlotS)
set_option maxRecDepth 100000 in
theorem at_yes {n : Nat} {t : Int} (hn : idxW h = n) (ht : tagW h = t) (h1 : 1 ≤ n) (hlt : n < S.slots.length) (_ : S.slots.length ≤ 4097) (hodd : t % 2 = 1) (hc : w.cell? ⟨L.pb, 0, none⟩ = some (sliceOf L.lb S.slots.length)) :
    Calls Tryz.prog 191 #[ptr L.pb, .int .i64 h] w fun e w' => e = .returned (.tuple #[.pointer (some ⟨L.lb, n * 7, none⟩), .int .i64 t]) ∧ w = w' := by
  have hb := tagW_bound h
  rw [ht] at hb
  obtain ⟨b1, b2⟩ := hb
  have HN := Lib.hid hn; have HT := Lib.hid ht
  have e1 : decide ((n : Int) < 1) = false := by simp; omega
  have e2 : decide (S.slots.length ≤ n) = false := by simp; omega
  have e3 : (t % 2 == 0) = false := by rw [hodd]; rfl
  generalize S.slots.length = len at *
  unfold sliceOf at hc
  unfold ptr
  clear hn ht hodd
  go_enter Tryz.func191, Tryz.ntmps191
  go_wp2_with (first | (go_at_call 95; refine (index_is HN.out _).mono ?_; rintro e w' ⟨rfl, rfl⟩) | (go_at_call 84; refine (tag_is HT.out _).mono ?_; rintro e w' ⟨rfl, rfl⟩))
  go_ret2
  exact ⟨rfl, rfl⟩
end
/-- the slot of a handle in use. -/
theorem at_any (w : World) (L : PoolL) (S : PoolS) (hp : PoolAt w L S) (h : Int) (s : SlotS) (ha : S.at h = some s) (n : Nat) (hn : idxW h = n) :
    Calls Tryz.prog 191 #[ptr L.pb, .int .i64 h] w fun e w' => e = .returned (.tuple #[.pointer (some ⟨L.lb, n * 7, none⟩), .int .i64 s.gen]) ∧ w = w' := by
  obtain ⟨m, hm, h1, hs, hlt, hodd, hg⟩ := at_spec ha
  obtain rfl : n = m := by omega
  rw [hg]
  exact at_yes w L S h hn rfl h1 hlt hp.most hodd (hp.p.cell rfl)
set_option maxRecDepth 100000 in
theorem meets_any (w : World) (L : PoolL) (S : PoolS) (hp : PoolAt w L S) (h : Int) (s : SlotS) (ha : S.at h = some s) (n : Nat) (hn : idxW h = n) :
    Calls Tryz.prog 202 #[ptr L.pb, .pointer none, .int .i64 h] w fun e w' => e = .returned (.tuple #[.pointer (some ⟨L.lb, n * 7, none⟩), .int .i64 0]) ∧ w = w' := by
  have hat := at_any w L S hp h s ha n hn
  obtain ⟨m, hm, h1, hs, hlt, hodd, hg⟩ := at_spec ha
  obtain rfl : n = m := by omega
  have hl := atomLoad L.lb (n * 7) s.gen w (hp.slot hs (j := 0) (by omega) rfl)
  unfold ptr at hat ⊢
  clear hs hp ha hn hm hodd hg
  go_enter Tryz.func202, Tryz.ntmps202
  go_wp2_with (first | (go_at_call 71; refine (step_nil _).mono ?_; rintro e w' ⟨rfl, rfl⟩) | (go_at_call 191; refine hat.mono ?_; rintro e w' ⟨rfl, rfl⟩) | (go_at_call 51; refine hl.mono ?_; rintro e w' ⟨rfl, rfl⟩))
  go_ret2
  exact ⟨rfl, rfl⟩
theorem blk_behind {w w1 : World} {cs : Array Value} {t : TypeId} (hb : Below (w.alloc (.cells cs t)).heap.size (w.alloc (.cells cs t)) w1) : Blk w1 w.heap.size cs.toList t :=
  (show Blk (w.alloc (.cells cs t)) w.heap.size cs.toList t from by simpa using Blk.new w cs.toList t).only (X := []) (.of_below hb) (by simp)
set_option maxRecDepth 100000 in
theorem read_any (w : World) (L : PoolL) (S : PoolS) (hp : PoolAt w L S) (h : Int) (x : NodeS) (hx : S.read h = some x) :
    Calls Tryz.prog 159 #[ptr L.pb, .pointer none, .int .i64 h] w fun e w' => e = .returned (.tuple #[x.val, .int .i64 0]) ∧ Below w.heap.size w w' := by
  obtain ⟨s, ha, rfl⟩ : ∃ s, S.at h = some s ∧ s.node = x := by simpa [PoolS.read] using hx
  obtain ⟨n, hn, h1, hs, hlt, hodd, hg⟩ := at_spec ha
  have hme := fun o => meets_any _ L S (hp.alloc o) h s ha n hn
  have hho := fun o => holds_any L.lb (n * 7) s.node _ ((hp.alloc o).slot hs (j := 3) (by omega) rfl) ((hp.alloc o).slot hs (j := 4) (by omega) rfl) ((hp.alloc o).slot hs (j := 5) (by omega) rfl) ((hp.alloc o).slot hs (j := 6) (by omega) rfl)
  have HM := Lib.hid hme; have HH := Lib.hid hho
  unfold NodeS.val
  unfold NodeS.val at HH
  unfold ptr at HM ⊢
  clear hme hho hs hp ha hn hodd hg hx
  generalize s.node.a = a, s.node.b = b, s.node.c = c, s.node.d = d at *
  go_enter Tryz.func159, Tryz.ntmps159
  go_wp2_with (first | (go_at_call 202; refine (HM.out _).mono ?_; rintro e w' ⟨rfl, rfl⟩) | (go_at_call 172; refine (HH.out _).mono ?_; rintro e w1 ⟨rfl, hb⟩; have HB := Lib.hid hb; have hn := blk_behind hb; have hf := hn.frozen; have c0 := hn.cell (i := 0) rfl; have c1 := hn.cell (i := 1) rfl; have c2 := hn.cell (i := 2) rfl; have c3 := hn.cell (i := 3) rfl; clear hb hn))
  exact bodyPost_ret (v := .tuple #[.agg #[.int .i64 a, .int .i64 b, .int .i64 c, .int .i64 d], .int .i64 0]) (by simp [results, Tryz.results159, go_sem, c0, c1, c2, c3]) rfl ⟨rfl, (((((((Below.refl _ _).alloc (Nat.le_refl _) _).trans (HB.out.mono (by simp))).setCell (Nat.le_refl _) _).setCell (Nat.le_refl _) _).setCell (Nat.le_refl _) _).setCell (Nat.le_refl _) _)⟩
def I2 (x : Int) : Value := .tuple #[.int .i64 x, .int .i64 0]
def B2 (x : Bool) : Value := .tuple #[.bool x, .int .i64 0]
section
variable (w : World) (L : PoolL) (S : PoolS) (hp : PoolAt w L S) (h : Int)
include hp
set_option maxRecDepth 100000 in
theorem mark_any (s : SlotS) (ha : S.at h = some s) : Calls Tryz.prog 188 #[ptr L.pb, .pointer none, .int .i64 h] w fun e w' => e = .returned (I2 s.mark) ∧ w = w' := by
  obtain ⟨n, hn, h1, hs, hlt, hodd, hg⟩ := at_spec ha
  have hme := meets_any _ L S hp h s ha n hn
  have hl := atomLoad L.lb (n * 7 + 1) s.mark w (hp.slot hs (j := 1) (by omega) rfl)
  unfold I2
  unfold ptr at hme ⊢
  clear hs hp ha hn hodd hg
  go_enter Tryz.func188, Tryz.ntmps188
  go_wp2_with (first | (go_at_call 202; refine hme.mono ?_; rintro e w' ⟨rfl, rfl⟩) | (go_at_call 51; refine hl.mono ?_; rintro e w' ⟨rfl, rfl⟩))
  go_ret2
  exact ⟨rfl, rfl⟩
set_option maxRecDepth 100000 in
theorem link_any (s : SlotS) (ha : S.at h = some s) : Calls Tryz.prog 187 #[ptr L.pb, .pointer none, .int .i64 h] w fun e w' => e = .returned (I2 s.link) ∧ w = w' := by
  obtain ⟨n, hn, h1, hs, hlt, hodd, hg⟩ := at_spec ha
  have hme := meets_any _ L S hp h s ha n hn
  have hl := atomLoad L.lb (n * 7 + 2) s.link w (hp.slot hs (j := 2) (by omega) rfl)
  unfold I2
  unfold ptr at hme ⊢
  clear hs hp ha hn hodd hg
  go_enter Tryz.func187, Tryz.ntmps187
  go_wp2_with (first | (go_at_call 202; refine hme.mono ?_; rintro e w' ⟨rfl, rfl⟩) | (go_at_call 51; refine hl.mono ?_; rintro e w' ⟨rfl, rfl⟩))
  go_ret2
  exact ⟨rfl, rfl⟩
set_option maxRecDepth 100000 in
theorem casMark_any (s : SlotS) (ha : S.at h = some s) (v : Int) (hv : In64 v) (S' : PoolS) (hS : S.setMark h v = some S') :
    Calls Tryz.prog 236 #[ptr L.pb, .pointer none, .int .i64 h, .int .i64 s.mark, .int .i64 v] w (Stored L S' w (B2 true)) := by
  obtain ⟨n, hn, h1, hs, hlt, hodd, hg⟩ := at_spec ha
  have hme := meets_any _ L S hp h s ha n hn
  have hl := atomCas L.lb (n * 7 + 1) s.mark w v (hp.slot hs (j := 1) (by omega) rfl) (hp.l.frozen _)
  have e : S' = S.with n { s with mark := v } := by
    simp only [PoolS.setMark, ha, bind, Option.bind, Option.some.injEq] at hS
    rw [← hS, hn]
    rfl
  subst e
  have hok := hp.ok s (List.mem_of_getElem? hs)
  have hfin : PoolAt (w.setCell ⟨L.lb, n * 7 + 1, none⟩ (.int .i64 v)) L (S.with n { s with mark := v }) ∧ Only L.blocks w (w.setCell ⟨L.lb, n * 7 + 1, none⟩ (.int .i64 v)) :=
    ⟨hp.setSlot hs (by omega) rfl ⟨hok.gen, hv, hok.link, hok.node⟩, (Only.refl _ _).setCell (.inl (by simp [PoolL.blocks])) _⟩
  have HF := Lib.hid hfin
  unfold B2
  unfold ptr at hme ⊢
  clear hs hp ha hn hodd hg hfin hok hS
  generalize s.mark = m at *
  go_enter Tryz.func236, Tryz.ntmps236
  go_wp2_with (first | (go_at_call 202; refine hme.mono ?_; rintro e w' ⟨rfl, rfl⟩) | (go_at_call 135; refine hl.mono ?_; rintro e w' ⟨rfl, rfl⟩))
  go_ret2
  exact ⟨rfl, HF.out⟩
set_option maxRecDepth 100000 in
theorem swapLink_any (s : SlotS) (ha : S.at h = some s) (v : Int) (hv : In64 v) (S' : PoolS) (hS : S.setLink h v = some S') :
    Calls Tryz.prog 189 #[ptr L.pb, .pointer none, .int .i64 h, .int .i64 v] w (Stored L S' w (I2 s.link)) := by
  obtain ⟨n, hn, h1, hs, hlt, hodd, hg⟩ := at_spec ha
  have hme := meets_any _ L S hp h s ha n hn
  have hl := atomSwap L.lb (n * 7 + 2) s.link w v (hp.slot hs (j := 2) (by omega) rfl) (hp.l.frozen _)
  have e : S' = S.with n { s with link := v } := by
    simp only [PoolS.setLink, ha, bind, Option.bind, Option.some.injEq] at hS
    rw [← hS, hn]
    rfl
  subst e
  have hok := hp.ok s (List.mem_of_getElem? hs)
  have hfin : PoolAt (w.setCell ⟨L.lb, n * 7 + 2, none⟩ (.int .i64 v)) L (S.with n { s with link := v }) ∧ Only L.blocks w (w.setCell ⟨L.lb, n * 7 + 2, none⟩ (.int .i64 v)) :=
    ⟨hp.setSlot hs (by omega) rfl ⟨hok.gen, hok.mark, hv, hok.node⟩, (Only.refl _ _).setCell (.inl (by simp [PoolL.blocks])) _⟩
  have HF := Lib.hid hfin
  unfold I2
  unfold ptr at hme ⊢
  clear hs hp ha hn hodd hg hfin hok hS
  generalize s.link = m at *
  go_enter Tryz.func189, Tryz.ntmps189
  go_wp2_with (first | (go_at_call 202; refine hme.mono ?_; rintro e w' ⟨rfl, rfl⟩) | (go_at_call 163; refine hl.mono ?_; rintro e w' ⟨rfl, rfl⟩))
  go_ret2
  exact ⟨rfl, HF.out⟩
end
end Go.Proofs.YteeefedoffplmaaGreat
