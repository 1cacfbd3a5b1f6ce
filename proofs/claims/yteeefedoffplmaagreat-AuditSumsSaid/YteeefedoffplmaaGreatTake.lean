/- A pool's Take where a slot is free. Conditions: the pool lies in memory; Take of the plain pool answers. -/
import Derived.Test.YteeefedoffplmaaGreatGive
namespace Go.Proofs.YteeefedoffplmaaGreat
open Go.RowKit

theorem take_spec {S S' : PoolS} {x : NodeS} {link h : Int} (ht : S.take x link = some (h, S')) :
    ∃ (n m : Nat) (s : SlotS), idxW S.head = n ∧ 1 ≤ n ∧ n ≤ 1048575 ∧ m ≤ 1048575 ∧ S.next[n]? = some (m : Int) ∧ S.slots[n]? = some s ∧ 0 ≤ s.gen ∧ s.gen + 1 ≤ 1099511627775 ∧ isWordB S.head = true ∧ h = packW n (s.gen + 1) ∧
      S' = ({ S with head := packW m ((tagW S.head + 1) % T40) } : PoolS).with n ⟨s.gen + 1, 0, link, x⟩ := by
  simp only [PoolS.take, Option.bind_eq_bind, Option.bind_eq_some_iff] at ht
  obtain ⟨next, hn, s, hs, ht⟩ := ht
  have hb := idxW_bound S.head
  split at ht
  · rename_i hc
    obtain ⟨c1, c2, c3, c4, c5, c6⟩ := hc
    unfold T20 at c3
    unfold MaxTag at c6
    injection ht with ht
    injection ht with h1 h2
    obtain ⟨m, rfl⟩ := Int.eq_ofNat_of_zero_le c2
    refine ⟨(idxW S.head).toNat, m, s, by omega, by omega, by omega, by omega, hn, hs, c5, c6, c4, ?_, ?_⟩
    · rw [← h1]
      congr 1
      omega
    · rw [← h2]
      rfl
  · cases ht

/-- what Take's literal leaves. -/
def Took (L : PoolL) (S' : PoolS) (c : Nat) (h : Int) (w : World) (r : Value) (e : Ending) (w' : World) : Prop := e = .returned r ∧ PoolAt w' L S' ∧ Only (c :: L.blocks) w w' ∧ Blk w' c [.int .i64 h] 3
set_option maxRecDepth 100000 in
set_option maxHeartbeats 800000 in
theorem take1_any (w : World) (L : PoolL) (S : PoolS) (hp : PoolAt w L S) (n : Nat) (s : SlotS) (hs : S.slots[n]? = some s) (x : NodeS) (hx : x.Ok) (link : Int) (hl : In64 link) (hn : n ≤ 1048575) (hg0 : 0 ≤ s.gen) (hg : s.gen + 1 ≤ 1099511627775)
    (c4 c6 c7 c10 : Nat) (k4 : w.cell? ⟨c4, 0, none⟩ = some (ptr L.pb)) (k6 : Blk w c6 x.cells 218) (k7 : w.cell? ⟨c7, 0, none⟩ = some (.int .i64 link)) (k10 : Blk w c10 [.int .i64 0] 3) (hc : c10 ∉ L.all) :
    Calls Tryz.prog 235 #[.int .i64 (n : Int), ptr c4, ptr c6, ptr c7, ptr c10] w (Took L (S.with n ⟨s.gen + 1, 0, link, x⟩) c10 (packW n (s.gen + 1)) w (.tuple #[])) := by
  have cpb : w.cell? ⟨L.pb, 0, none⟩ = some (sliceOf L.lb S.slots.length) := hp.p.cell rfl
  have hlt : n < S.slots.length := (List.getElem?_eq_some_iff.1 hs).1
  have d0 := k6.cell (i := 0) rfl; have d1 := k6.cell (i := 1) rfl; have d2 := k6.cell (i := 2) rfl; have d3 := k6.cell (i := 3) rfl
  have hla := lays_any w L S hp n s hs x 0 link hx (by constructor <;> omega) hl
  have hadd : ∀ w1, PoolAt w1 L (S.with n ⟨s.gen, 0, link, x⟩) → Calls Tryz.prog 227 #[.pointer (some ⟨L.lb, n * 7, none⟩), .int .i64 1] w1 fun e w' => e = .returned (.int .i64 (s.gen + 1)) ∧ w1.setCell ⟨L.lb, n * 7, none⟩ (.int .i64 (s.gen + 1)) = w' := fun w1 hp1 => by
    have h0 := atomAdd L.lb (n * 7 + 0) s.gen w1 1 (hp1.slot (S.with_get hs _) (j := 0) (by omega) rfl) (hp1.l.frozen _)
    rw [IntWalk.wrap64_in (s.gen + 1) (by omega)] at h0
    exact h0
  have hset : ∀ w1, PoolAt w1 L (S.with n ⟨s.gen, 0, link, x⟩) → PoolAt (w1.setCell ⟨L.lb, n * 7, none⟩ (.int .i64 (s.gen + 1))) L (S.with n ⟨s.gen + 1, 0, link, x⟩) := fun w1 hp1 => by
    have h0 := hp1.setSlot (S.with_get hs _) (j := 0) (s' := ⟨s.gen + 1, 0, link, x⟩) (v := .int .i64 (s.gen + 1)) (by omega) rfl ⟨(show In64 (s.gen + 1) from ⟨by omega, by omega⟩), (show In64 0 from ⟨by omega, by omega⟩), hl, hx⟩
    have e : ({ S.with n ⟨s.gen, 0, link, x⟩ with slots := (S.with n ⟨s.gen, 0, link, x⟩).slots.set n ⟨s.gen + 1, 0, link, x⟩ } : PoolS) = S.with n ⟨s.gen + 1, 0, link, x⟩ := S.with_with n _ _
    rwa [e] at h0
  have HLA := Lib.hid hla; have HADD := Lib.hid hadd; have HSET := Lib.hid hset; have K10 := Lib.hid k10; have HC := Lib.hid hc
  unfold NodeS.val at HLA
  unfold ptr at k4 ⊢
  unfold sliceOf at cpb
  clear hla hadd hset hp hs k6 hc hx hl k10
  generalize s.gen = g at *
  go_enter Tryz.func235, Tryz.ntmps235
  go_wp2_with (first | (go_at_call 192; refine HLA.out.mono ?_; rintro e w1 ⟨rfl, hp1, ho1⟩; have HO := Lib.hid ho1; have HP := Lib.hid hp1; clear ho1 hp1) | (go_at_call 227; refine (HADD.out _ HP.out).mono ?_; rintro e w' ⟨rfl, rfl⟩; have HP := Lib.hid (HSET.out _ HP.out); have k := (K10.out.only HO.out (fun h => HC.out (by simp [PoolL.all]; simp [PoolL.blocks] at h; simp [h]))).other (fun h => HC.out (by simp [PoolL.all, h])) (b' := L.lb) (n * 7) (.int .i64 (g + 1)); have K := Lib.hid k; have kc := k.cell (i := 0) rfl; have kf := k.frozen 0; clear k) | (go_at_call 81; refine (pack_any _ _ _ (by omega) (by omega) (by omega) (by omega)).mono ?_; rintro e w' ⟨rfl, rfl⟩))
  have hfin : Hid (PoolAt _ L _) := Lib.hid (HP.out.only (X := [c10]) ((Only.refl _ _).setCell (p := ⟨c10, 0, none⟩) (.inl (by simp)) (.int .i64 (packW n (g + 1)))) (fun k hk => by simp; exact fun e => HC.out (e ▸ hk)))
  go_end0
  exact ⟨rfl, hfin.out, ((HO.out.mono (fun k hk => by simp [hk])).setCell (.inl (by simp [PoolL.blocks])) _).setCell (.inl (by simp)) _, K.out.set 0 _⟩
set_option maxRecDepth 100000 in
set_option maxHeartbeats 800000 in
theorem pop_any (w : World) (L : PoolL) (S : PoolS) (hp : PoolAt w L S) (x : NodeS) (hx : x.Ok) (link : Int) (hl : In64 link) (h : Int) (S' : PoolS) (ht : S.take x link = some (h, S'))
    (c4 c6 c7 c10 : Nat) (k4 : Blk w c4 [ptr L.pb] 53) (k6 : Blk w c6 x.cells 218) (k7 : Blk w c7 [.int .i64 link] 3) (k10 : Blk w c10 [.int .i64 0] 3) (hc : ∀ c, c = c4 ∨ c = c6 ∨ c = c7 ∨ c = c10 → c ∉ L.all) :
    Calls Tryz.prog 234 #[ptr L.fb, .pointer none, .func (.func 235) #[] #[ptr c4, ptr c6, ptr c7, ptr c10]] w fun e w' => ∃ n : Int, Took L S' c10 h w (.tuple #[.int .i64 n, .int .i64 0]) e w' := by
  obtain ⟨n, m, s, hn, h1, h2, h3, hnx, hs, hg0, hg, hw, rfl, rfl⟩ := take_spec ht
  have hlt : n < S.next.length := (List.getElem?_eq_some_iff.1 hnx).1
  have hl1 := atomLoad L.fb 0 S.head w (hp.f.cell rfl)
  have hl2 := atomLoad L.nb n m w (hp.next hnx)
  have hix := index_is hn w
  have c1 : w.cell? ⟨L.fb, 1, none⟩ = some (sliceOf L.nb S.next.length) := hp.f.cell rfl
  have hnext := next_any S.head (m : Int) w hw (by omega) (by omega)
  have hcas := atomCas L.fb 0 S.head w (packW m ((tagW S.head + 1) % T40)) (hp.f.cell rfl) (hp.f.frozen _)
  have hp1 := hp.setHead (packW m ((tagW S.head + 1) % T40))
  have ho1 : Only L.blocks w (w.setCell ⟨L.fb, 0, none⟩ (.int .i64 (packW m ((tagW S.head + 1) % T40)))) := (Only.refl _ _).setCell (.inl (by simp [PoolL.blocks])) _
  have hne : ∀ c, c = c4 ∨ c = c6 ∨ c = c7 ∨ c = c10 → c ∉ L.blocks := fun c h hb => hc c h (by simp [PoolL.all]; simp [PoolL.blocks] at hb; simp [hb])
  have htk := take1_any _ L _ hp1 n s hs x hx link hl h2 hg0 hg c4 c6 c7 c10 ((k4.only ho1 (hne _ (by simp))).cell rfl) (k6.only ho1 (hne _ (by simp))) ((k7.only ho1 (hne _ (by simp))).cell rfl) (k10.only ho1 (hne _ (by simp))) (hc _ (by simp))
  have HTK := Lib.hid htk; have HO := Lib.hid ho1; have HCAS := Lib.hid hcas; have HNX := Lib.hid hnext; have HIX := Lib.hid hix
  clear hp hp1 ho1 htk hcas hnext hnx hs k4 k6 k7 k10 hc hne hn hx hl hw hix ht
  generalize S.head = hd at *
  generalize S.next.length = len at *
  generalize hto : packW m ((tagW hd + 1) % T40) = to at *
  clear hto
  unfold ptr at HTK ⊢
  unfold sliceOf at c1
  go_enter Tryz.func234, Tryz.ntmps234
  go_wp2_with fail
  refine wp_loop_rounds 1 ?_
  rw [rounds_succ]
  go_wp2_with (first | (go_at_call 71; refine (step_nil _).mono ?_; rintro e w' ⟨rfl, rfl⟩) | (go_at_call 51; (first | (with_reducible refine hl1.mono ?_) | (with_reducible refine hl2.mono ?_)); rintro e w' ⟨rfl, rfl⟩) | (go_at_call 95; refine HIX.out.mono ?_; rintro e w' ⟨rfl, rfl⟩) | (go_at_call 217; refine HNX.out.mono ?_; rintro e w' ⟨rfl, rfl⟩) | (go_at_call 135; refine HCAS.out.mono ?_; rintro e w' ⟨rfl, rfl⟩) | (go_at_call 235; refine HTK.out.mono ?_; rintro e w1 ⟨rfl, hp1, ho, hb⟩; have HP := Lib.hid hp1; have HO := Lib.hid ((HO.out.mono (fun k hk => List.mem_cons_of_mem _ hk)).trans ho); have HB := Lib.hid hb; clear hp1 ho hb))
  go_ret2
  exact ⟨n, rfl, HP.out, HO.out, HB.out⟩
/-- the world with Take's boxes. -/
def takeW (w : World) (pb : Nat) (x : NodeS) (link : Int) : World :=
  (((w.alloc (.cells #[.pointer (some ⟨pb, 0, none⟩)] 53)).alloc (.cells #[.int .i64 x.a, .int .i64 x.b, .int .i64 x.c, .int .i64 x.d] 218)).alloc (.cells #[.int .i64 link] 3)).alloc (.cells #[.int .i64 0] 3)
theorem takeW_only (w : World) (pb : Nat) (x : NodeS) (link : Int) : Only [] w (takeW w pb x link) := ((((Only.refl _ _).alloc _).alloc _).alloc _).alloc _
theorem takeW_blk (w : World) (pb : Nat) (x : NodeS) (link : Int) : Blk (takeW w pb x link) w.heap.size [ptr pb] 53 ∧ Blk (takeW w pb x link) (w.heap.size + 1) x.cells 218 ∧ Blk (takeW w pb x link) (w.heap.size + 2) [.int .i64 link] 3 ∧ Blk (takeW w pb x link) (w.heap.size + 3) [.int .i64 0] 3 := by
  have e1 := Blk.new w [ptr pb] 53
  have e2 := Blk.new (w.alloc (.cells #[.pointer (some ⟨pb, 0, none⟩)] 53)) x.cells 218
  have e3 := Blk.new ((w.alloc (.cells #[.pointer (some ⟨pb, 0, none⟩)] 53)).alloc (.cells #[.int .i64 x.a, .int .i64 x.b, .int .i64 x.c, .int .i64 x.d] 218)) [.int .i64 link] 3
  have e4 := Blk.new (((w.alloc (.cells #[.pointer (some ⟨pb, 0, none⟩)] 53)).alloc (.cells #[.int .i64 x.a, .int .i64 x.b, .int .i64 x.c, .int .i64 x.d] 218)).alloc (.cells #[.int .i64 link] 3)) [.int .i64 0] 3
  rw [World.size_alloc] at e2
  rw [World.size_alloc, World.size_alloc] at e3
  rw [World.size_alloc, World.size_alloc, World.size_alloc] at e4
  exact ⟨((e1.alloc _).alloc _).alloc _, (e2.alloc _).alloc _, e3.alloc _, e4⟩
/-- what a call leaves that makes memory beside the pool's. -/
def Made (L : PoolL) (S' : PoolS) (w : World) (r : Value) (e : Ending) (w' : World) : Prop := e = .returned r ∧ PoolAt w' L S' ∧ Only L.blocks w w'
set_option maxRecDepth 100000 in
set_option maxHeartbeats 800000 in
theorem take_any (w : World) (L : PoolL) (S : PoolS) (hp : PoolAt w L S) (x : NodeS) (hx : x.Ok) (link : Int) (hl : In64 link) (h : Int) (S' : PoolS) (ht : S.take x link = some (h, S')) :
    Calls Tryz.prog 214 #[ptr L.pb, .pointer none, x.val, .int .i64 link] w (Made L S' w (I2 h)) := by
  obtain ⟨b0, b1, b2, b3⟩ := takeW_blk w L.pb x link
  have hlt := hp.lt
  have hpop := pop_any (takeW w L.pb x link) L S (hp.only (takeW_only _ _ _ _) (by simp)) x hx link hl h S' ht w.heap.size (w.heap.size + 1) (w.heap.size + 2) (w.heap.size + 3) b0 b1 b2 b3 (by
    intro c hc hm
    have := hlt c hm
    rcases hc with rfl | rfl | rfl | rfl <;> omega)
  have HO := Lib.hid (takeW_only w L.pb x link)
  have cpb : (takeW w L.pb x link).cell? ⟨L.pb, 1, none⟩ = some (ptr L.fb) := (hp.only (takeW_only w L.pb x link) (by simp)).p.cell rfl
  have HPOP := Lib.hid hpop
  have hf := b3.frozen
  unfold takeW at HPOP cpb
  unfold ptr at HPOP cpb ⊢
  unfold NodeS.val I2
  clear hpop hp ht b0 b1 b2 b3 hlt hf
  go_enter Tryz.func214, Tryz.ntmps214
  go_wp2_with (go_at_call 234; refine HPOP.out.mono ?_; rintro e w1 ⟨n, rfl, hp1, ho, hb⟩; have HP := Lib.hid hp1; have HO1 := Lib.hid ho; have c0 := hb.cell (i := 0) rfl; clear hp1 ho hb)
  go_ret2
  exact ⟨rfl, HP.out, ((HO.out.mono (fun k hk => by simp at hk)).trans HO1.out).fresh (fun k hk hlt => by
    rcases List.mem_cons.1 hk with rfl | hk
    · omega
    · exact hk)⟩
end Go.Proofs.YteeefedoffplmaaGreat
