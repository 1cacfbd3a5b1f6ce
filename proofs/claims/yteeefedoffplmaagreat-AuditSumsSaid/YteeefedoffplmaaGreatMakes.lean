/- A tree's read and root: the node of a handle in use, in shape. Conditions: the pool lies in memory, the node is in shape within lo .. hi. -/
import Derived.Test.YteeefedoffplmaaGreatTrie
import Derived.Deep.RegionHeld3
namespace Go.Proofs.YteeefedoffplmaaGreat
open Go.RowKit

set_option maxRecDepth 100000 in
set_option maxHeartbeats 1600000 in
theorem readLeaf_any (w : World) (tb : Nat) (L : PoolL) (S : PoolS) (hp : PoolAt w L S) (ht : Blk w tb [ptr L.pb] 187) (h b c lo hi : Int) (hx : S.read h = some ⟨0, b, c, 1⟩) (hk : keyB b = true) (h1 : lo ≤ b) (h2 : b ≤ hi) :
    Calls Tryz.prog 240 #[ptr tb, .pointer none, .int .i64 h, .int .i64 lo, .int .i64 hi] w fun e w' => e = .returned (.tuple #[.agg #[.int .i64 h, (Shape.leaf b c).val], .int .i64 0]) ∧ Below w.heap.size w w' := by
  have hr := fun W (ho : Only [] w W) => read_any W L S (hp.only ho (by simp)) h _ hx
  have hs := fun W => shapedLeaf_any b c hk W
  have hsp := fun W => spanLeaf_any b c W
  have c0 : w.cell? ⟨tb, 0, none⟩ = some (ptr L.pb) := ht.cell rfl
  have c1 : (w.alloc (.cells #[.int .i64 0, .nilIface] 303)).cell? ⟨tb, 0, none⟩ = some (ptr L.pb) := (ht.only ((Only.refl [] w).alloc _) (by simp)).cell rfl
  have hr' := hr _ ((Only.refl [] w).alloc (.cells #[.int .i64 0, .nilIface] 303))
  unfold Shape.val NodeS.val ptr at *
  clear hp hx hr ht hk
  go_enter Tryz.func240, Tryz.ntmps240
  go_wp2_with (first | (go_at_call 159; refine hr'.mono ?_; rintro e w1 ⟨rfl, hb1⟩; have HB1 := Lib.hid hb1; clear hb1 hr') | (go_at_call 247; refine (hs _).mono ?_; rintro e w2 ⟨rfl, ho⟩; have HO2 := Lib.hid ho; clear ho) | (go_at_call 268; refine (hsp _).mono ?_; rintro e w3 ⟨rfl, ho⟩; have hO := ((Only.of_below (X := []) HB1.out).alloc (.cells #[.int .i64 0, .int .i64 b, .int .i64 c, .int .i64 1] 218)).trans (HO2.out.trans ho); have hn : Blk w3 w.heap.size [.int .i64 0, .nilIface] 303 := (Blk.new w [.int .i64 0, .nilIface] 303).only hO (by simp); have hf := hn.frozen; have d0 := hn.cell (i := 0) rfl; have d1 := hn.cell (i := 1) rfl; have HO := Lib.hid hO; clear ho hO hn HO2))
  exact bodyPost_ret (v := .tuple #[.agg #[.int .i64 h, .iface 307 (.agg #[.int .i64 b, .int .i64 c])], .int .i64 0]) (by simp [results, Tryz.results240, go_sem, d0, d1]) rfl ⟨rfl, ((((Below.refl _ _).alloc (Nat.le_refl _) _).trans (HO.out.below.mono (by simp))).setCell (Nat.le_refl _) _).setCell (Nat.le_refl _) _⟩
set_option maxRecDepth 100000 in
set_option maxHeartbeats 1600000 in
theorem readInner_any (w : World) (tb : Nat) (L : PoolL) (S : PoolS) (hp : PoolAt w L S) (ht : Blk w tb [ptr L.pb] 187) (h a l r c lo hi : Int) (hx : S.read h = some ⟨a, l, r, c⟩) (h0 : 0 < a) (ha : In64 a) (p : Nat) (hpp : ((a - 1) % 64).toNat = p) (hp32 : p < 32) (f : Int) (hff : (a - 1) / 64 = f) (hk : keyB f = true) (hm : f % pow2 (p + 1) = 0) (h1 : lo ≤ f) (h2 : f + pow2 (p + 1) - 1 ≤ hi) :
    Calls Tryz.prog 240 #[ptr tb, .pointer none, .int .i64 h, .int .i64 lo, .int .i64 hi] w fun e w' => e = .returned (.tuple #[.agg #[.int .i64 h, (Shape.inner p f l r c).val], .int .i64 0]) ∧ Below w.heap.size w w' := by
  have hr := fun W (ho : Only [] w W) => read_any W L S (hp.only ho (by simp)) h _ hx
  have hs := fun W => shapedInner_any a l r c h0 ha (by rw [hpp]; exact hp32) (by rw [hff]; exact hk) (by rw [hff, hpp]; exact hm) W
  rw [hff, hpp] at hs
  have hb : 0 ≤ f ∧ f < 4294967296 := by unfold keyB K32 at hk; simp at hk; exact hk
  have hsp := fun W => spanInner_any p f l r c hp32 hb W
  unfold innerV at hsp
  have c0 : w.cell? ⟨tb, 0, none⟩ = some (ptr L.pb) := ht.cell rfl
  have c1 : (w.alloc (.cells #[.int .i64 0, .nilIface] 303)).cell? ⟨tb, 0, none⟩ = some (ptr L.pb) := (ht.only ((Only.refl [] w).alloc _) (by simp)).cell rfl
  have hr' := hr _ ((Only.refl [] w).alloc (.cells #[.int .i64 0, .nilIface] 303))
  unfold Shape.val NodeS.val ptr at *
  clear hp hx hr ht hk hpp hff hm ha hb h0
  generalize pow2 (p + 1) = q at *
  go_enter Tryz.func240, Tryz.ntmps240
  go_wp2_with (first | (go_at_call 159; refine hr'.mono ?_; rintro e w1 ⟨rfl, hb1⟩; have HB1 := Lib.hid hb1; clear hb1 hr') | (go_at_call 247; refine (hs _).mono ?_; rintro e w2 ⟨rfl, ho⟩; have HO2 := Lib.hid ho; clear ho) | (go_at_call 241; refine (hsp _).mono ?_; rintro e w3 ⟨rfl, ho⟩; have hO := ((Only.of_below (X := []) HB1.out).alloc (.cells #[.int .i64 a, .int .i64 l, .int .i64 r, .int .i64 c] 218)).trans (HO2.out.trans ho); have hn : Blk w3 w.heap.size [.int .i64 0, .nilIface] 303 := (Blk.new w [.int .i64 0, .nilIface] 303).only hO (by simp); have hf := hn.frozen; have d0 := hn.cell (i := 0) rfl; have d1 := hn.cell (i := 1) rfl; have HO := Lib.hid hO; clear ho hO hn HO2))
  exact bodyPost_ret (v := .tuple #[.agg #[.int .i64 h, .iface 335 (.agg #[.int .i64 p, .int .i64 f, .int .i64 l, .int .i64 r, .int .i64 c])], .int .i64 0]) (by simp [results, Tryz.results240, go_sem, d0, d1]) rfl ⟨rfl, ((((Below.refl _ _).alloc (Nat.le_refl _) _).trans (HO.out.below.mono (by simp))).setCell (Nat.le_refl _) _).setCell (Nat.le_refl _) _⟩
theorem shape_spec {S : PoolS} {h lo hi : Int} {s : Shape} (hx : S.shape h lo hi = some s) : ∃ x, S.read h = some x ∧ shaped x = some s ∧ lo ≤ s.lo ∧ s.hi ≤ hi := by
  unfold PoolS.shape at hx
  simp only [bind, Option.bind] at hx
  split at hx
  · cases hx
  · rename_i x hr
    dsimp only at hx
    split at hx
    · cases hx
    · rename_i s' hs'
      replace hx : (if lo ≤ s'.lo ∧ s'.hi ≤ hi then some s' else none) = some s := hx
      split at hx
      · rename_i hc
        injection hx with hx
        subst hx
        exact ⟨x, hr, hs', hc⟩
      · cases hx
theorem shaped_spec {x : NodeS} {s : Shape} (hs : shaped x = some s) : (∃ b c, x = ⟨0, b, c, 1⟩ ∧ s = .leaf b c ∧ keyB b = true) ∨ (∃ p f, 0 < x.a ∧ ((x.a - 1) % 64).toNat = p ∧ (x.a - 1) / 64 = f ∧ s = .inner p f x.b x.c x.d ∧ p < 32 ∧ keyB f = true ∧ f % pow2 (p + 1) = 0) := by
  unfold shaped at hs
  split at hs
  · cases hs
  · rename_i h0
    split at hs
    · rename_i h1
      split at hs
      · rename_i h2
        injection hs with hs
        obtain ⟨a, b, c, d⟩ := x
        obtain rfl : a = 0 := h1
        obtain rfl : d = 1 := h2.2
        exact .inl ⟨b, c, rfl, hs.symm, h2.1⟩
      · cases hs
    · rename_i h1
      refine .inr ⟨((x.a - 1) % 64).toNat, (x.a - 1) / 64, by omega, rfl, rfl, ?_⟩
      simp only at hs
      split at hs
      · rename_i h2
        injection hs with hs
        exact ⟨hs.symm, h2.1, h2.2.1, h2.2.2⟩
      · cases hs
theorem PoolAt.read_ok {w : World} {L : PoolL} {S : PoolS} (hp : PoolAt w L S) {h : Int} {x : NodeS} (hx : S.read h = some x) : x.Ok := by
  obtain ⟨s, ha, rfl⟩ : ∃ s, S.at h = some s ∧ s.node = x := by simpa [PoolS.read] using hx
  obtain ⟨n, hn, h1, hs, hlt, hodd, hg⟩ := at_spec ha
  exact (hp.ok s (List.mem_of_getElem? hs)).node
theorem shape_any (w : World) (tb : Nat) (L : PoolL) (S : PoolS) (hp : PoolAt w L S) (ht : Blk w tb [ptr L.pb] 187) (h lo hi : Int) (s : Shape) (hx : S.shape h lo hi = some s) :
    Calls Tryz.prog 240 #[ptr tb, .pointer none, .int .i64 h, .int .i64 lo, .int .i64 hi] w fun e w' => e = .returned (.tuple #[.agg #[.int .i64 h, s.val], .int .i64 0]) ∧ Below w.heap.size w w' := by
  obtain ⟨x, hr, hs, h1, h2⟩ := shape_spec hx
  have hok := hp.read_ok hr
  rcases shaped_spec hs with ⟨b, c, rfl, rfl, hk⟩ | ⟨p, f, h0, hpp, hff, rfl, h32, hk, hm⟩
  · exact readLeaf_any w tb L S hp ht h b c lo hi hr hk h1 h2
  · exact readInner_any w tb L S hp ht h x.a x.b x.c x.d lo hi hr h0 hok.1 p hpp h32 f hff hk hm h1 h2
set_option maxRecDepth 100000 in
theorem root_any (w : World) (tb : Nat) (L : PoolL) (S : PoolS) (hp : PoolAt w L S) (ht : Blk w tb [ptr L.pb] 187) (h : Int) (s : Shape) (hx : S.shape h 0 (K32 - 1) = some s) :
    Calls Tryz.prog 220 #[ptr tb, .pointer none, .int .i64 h] w fun e w' => e = .returned (.tuple #[.agg #[.int .i64 h, s.val], .int .i64 0]) ∧ Below w.heap.size w w' := by
  have hsh := fun W (ho : Only [] w W) => shape_any W tb L S (hp.only ho (by simp)) (ht.only ho (by simp)) h 0 (K32 - 1) s hx
  have hsh' := hsh _ ((Only.refl [] w).alloc (.cells #[.int .i64 0, .nilIface] 303))
  unfold ptr at *
  rw [show K32 - 1 = 4294967295 from rfl] at hsh'
  clear hp hx ht hsh
  obtain ⟨vt, vx, hv⟩ : ∃ t x, s.val = .iface t x := by cases s <;> exact ⟨_, _, rfl⟩
  rw [hv] at hsh' ⊢
  clear hv
  go_enter Tryz.func220, Tryz.ntmps220
  go_wp2_with (go_at_call 240; refine hsh'.mono ?_; rintro e w1 ⟨rfl, ho⟩; have hn : Blk w1 w.heap.size [.int .i64 0, .nilIface] 303 := (Blk.new w [.int .i64 0, .nilIface] 303).only (Only.of_below (X := []) ho) (by simp); have hf := hn.frozen; have d0 := hn.cell (i := 0) rfl; have d1 := hn.cell (i := 1) rfl; have HO := Lib.hid ho; clear ho hn hsh')
  exact bodyPost_ret (v := .tuple #[.agg #[.int .i64 h, .iface vt vx], .int .i64 0]) (by simp [results, Tryz.results220, go_sem, d0, d1]) rfl ⟨rfl, ((((Below.refl _ _).alloc (Nat.le_refl _) _).trans (HO.out.mono (by simp))).setCell (Nat.le_refl _) _).setCell (Nat.le_refl _) _⟩
end Go.Proofs.YteeefedoffplmaaGreat

/- A tree's makes and leaf: a node into a place taken, told of to the edit. Conditions: pool, tree and edit lie in memory; the plain take answers. -/
namespace Go.Proofs.YteeefedoffplmaaGreat
open Go.RowKit

/-- the edit under way: its rows are the call's own. -/
structure EditAt (w : World) (base mb tb : Nat) (m : EditS) (gv mv : Value) : Prop where
  blk : Blk w mb [ptr tb, .pointer none, .int .i64 m.root, .int .i64 m.old, .bool m.had, gv, mv] 320
  gone : w.ownsRow base 3 1 gv m.gone.length (ints m.gone)
  made : w.ownsRow base 3 1 mv m.made.length (ints m.made)
  low : mb < base
  apart : ∀ g, gv.ownBlock = some g → mv.ownBlock ≠ some g
  room : base ≤ w.heap.size
/-- what a step of an edit leaves. -/
def Edited (L : PoolL) (base mb tb : Nat) (m : EditS) (S' : PoolS) (w : World) (e : Ending) (w' : World) : Prop :=
  ∃ gv' mv' D, e = .returned (.int .i64 0) ∧ PoolAt w' L S' ∧ EditAt w' base mb tb m gv' mv' ∧ Only (mb :: L.blocks ++ D) w w' ∧ ∀ k ∈ D, base ≤ k
set_option maxRecDepth 100000 in
set_option maxHeartbeats 1600000 in
theorem makes_any (w : World) (base mb tb : Nat) (L : PoolL) (S : PoolS) (m : EditS) (gv mv : Value) (hp : PoolAt w L S) (ht : Blk w tb [ptr L.pb] 187) (hm : EditAt w base mb tb m gv mv)
    (hx1 : mb ∉ L.all) (hx2 : tb ∉ L.blocks) (hx3 : tb ≠ mb) (hx4 : ∀ k ∈ L.all, k < base) (hx5 : tb < base) (hlen : m.made.length < 100000000) (x : NodeS) (hx : x.Ok) (m' : EditS) (S' : PoolS) (h : makes x (m, S) = some (m', S')) :
    Calls Tryz.prog 229 #[ptr mb, x.val] w (Edited L base mb tb m' S' w) := by
  unfold makes at h
  simp only [bind, Option.bind_eq_some_iff] at h
  obtain ⟨⟨hd, S1⟩, htk, h⟩ := h
  simp only [Option.some.injEq, Prod.mk.injEq] at h
  obtain ⟨rfl, rfl⟩ := h
  have hpa := (hp.alloc (.cells #[.int .i64 x.a, .int .i64 x.b, .int .i64 x.c, .int .i64 x.d] 218)).drew
  have htake := take_any _ L S hpa x hx 0 (by unfold In64; omega) hd S1 htk
  have c0 : (w.alloc (.cells #[.int .i64 x.a, .int .i64 x.b, .int .i64 x.c, .int .i64 x.d] 218)).cell? ⟨mb, 0, none⟩ = some (ptr tb) := (hm.blk.alloc _).cell rfl
  have c1 : (w.alloc (.cells #[.int .i64 x.a, .int .i64 x.b, .int .i64 x.c, .int .i64 x.d] 218)).cell? ⟨mb, 1, none⟩ = some (.pointer none) := (hm.blk.alloc _).cell rfl
  have c2 : (w.alloc (.cells #[.int .i64 x.a, .int .i64 x.b, .int .i64 x.c, .int .i64 x.d] 218)).cell? ⟨tb, 0, none⟩ = some (ptr L.pb) := (ht.alloc _).cell rfl
  obtain ⟨gA, gc, rfl, _, _⟩ := row_of_own hm.gone
  obtain ⟨mA, mc, rfl, _, _⟩ := row_of_own hm.made
  have HT := Lib.hid htake; have HM := Lib.hid hm; have HX1 := Lib.hid hx1; have HX2 := Lib.hid hx2; have HX3 := Lib.hid hx3; have HX4 := Lib.hid hx4; have HX5 := Lib.hid hx5; have HL := Lib.hid hlen; have HP := Lib.hid hp; have HTB := Lib.hid ht
  have hmb : mb ∉ L.blocks := fun e => hx1 (blocks_all e)
  have hbx : w.heap.size ∉ L.blocks := fun e => by have := hx4 _ (blocks_all e); have := hm.room; omega
  have HMB := Lib.hid hmb; have HBX := Lib.hid hbx
  unfold NodeS.val at HT ⊢
  unfold I2 Made at HT
  unfold ptr at HT c0 c2 ⊢
  clear hp hpa htake ht hm hx htk hx1 hx2 hx3 hx4 hx5 hlen hmb hbx
  obtain ⟨xa, xb', xc, xd⟩ := x
  go_enter Tryz.func229, Tryz.ntmps229
  go_wp2_with fail
  go_region_held3 (fun W => W.cell? ⟨mb, 0, none⟩ = some (.pointer (some ⟨tb, 0, none⟩)) ∧ W.cell? ⟨mb, 1, none⟩ = some (.pointer none) ∧ W.cell? ⟨tb, 0, none⟩ = some (.pointer (some ⟨L.pb, 0, none⟩)) ∧ W.cell? ⟨w.heap.size, 0, none⟩ = some (.int .i64 xa) ∧ W.cell? ⟨w.heap.size, 1, none⟩ = some (.int .i64 xb') ∧ W.cell? ⟨w.heap.size, 2, none⟩ = some (.int .i64 xc) ∧ W.cell? ⟨w.heap.size, 3, none⟩ = some (.int .i64 xd))
    (first | exact ⟨cell_only ho2 c0 HMB.out, cell_only ho2 c1 HMB.out, cell_only ho2 c2 HX2.out, cell_only ho2 (cell_new w #[.int .i64 xa, .int .i64 xb', .int .i64 xc, .int .i64 xd] 218 0 _ rfl) HBX.out, cell_only ho2 (cell_new w #[.int .i64 xa, .int .i64 xb', .int .i64 xc, .int .i64 xd] 218 1 _ rfl) HBX.out, cell_only ho2 (cell_new w #[.int .i64 xa, .int .i64 xb', .int .i64 xc, .int .i64 xd] 218 2 _ rfl) HBX.out, cell_only ho2 (cell_new w #[.int .i64 xa, .int .i64 xb', .int .i64 xc, .int .i64 xd] 218 3 _ rfl) HBX.out⟩ | (go_keep; done))
    (first | (go_simp; go_at_call 214; refine HT.out.mono ?_; rintro e w2 ⟨rfl, hp2, ho2⟩; have HP2 := Lib.hid hp2; have ho2' : Only L.blocks w w2 := ((Only.refl _ _).alloc _).trans ⟨ho2.os, ho2.tape, ho2.output, ho2.size, ho2.block⟩; have HO2 := Lib.hid ho2'))
  have hb2 := HM.out.blk.only HO2.out HMB.out
  have hlow : ∀ k, (Value.slice mA m.made.length mc).ownBlock = some k → base ≤ k ∧ k < w.heap.size := fun k hk => HM.out.made.lt k hk
  have glow : ∀ k, (Value.slice gA m.gone.length gc).ownBlock = some k → base ≤ k ∧ k < w.heap.size := fun k hk => HM.out.gone.lt k hk
  have hin : ∀ k, base ≤ k → k ∉ L.blocks := fun k hk e => by have := HX4.out k (blocks_all e); omega
  have hmade2 := own_only HM.out.made HO2.out (fun k hk => hin k (hlow k hk).1)
  have hgone2 := own_only HM.out.gone HO2.out (fun k hk => hin k (glow k hk).1)
  have hml := HM.out.low
  have hmade3 := own_only hmade2 ((Only.refl [mb] w2).setCell (p := ⟨mb, 2, none⟩) (.inl (by simp)) (.int .i64 hd)) (fun k hk e => by have := (hlow k hk).1; simp at e; omega)
  have hgone3 := own_only hgone2 ((Only.refl [mb] w2).setCell (p := ⟨mb, 2, none⟩) (.inl (by simp)) (.int .i64 hd)) (fun k hk e => by have := (glow k hk).1; simp at e; omega)
  have hb3 : Blk (w2.setCell ⟨mb, 2, none⟩ (.int .i64 hd)) mb [ptr tb, .pointer none, .int .i64 hd, .int .i64 m.old, .bool m.had, .slice gA m.gone.length gc, .slice mA m.made.length mc] 320 := hb2.set 2 (.int .i64 hd)
  have ho3 : Only (mb :: L.blocks ++ (Value.slice mA m.made.length mc).ownBlock.toList) w (w2.setCell ⟨mb, 2, none⟩ (.int .i64 hd)) := (HO2.out.mono (by intro k hk; simp [hk])).setCell (.inl (by simp)) _
  have hsz : w.heap.size ≤ (w2.setCell ⟨mb, 2, none⟩ (.int .i64 hd)).heap.size := ho3.size
  have f2 := hb2.frozen 2
  have d2 : w2.cell? ⟨mb, 2, none⟩ = some (.int .i64 m.root) := hb2.cell rfl
  have d6 : (w2.setCell ⟨mb, 2, none⟩ (.int .i64 hd)).cell? ⟨mb, 6, none⟩ = some (.slice mA m.made.length mc) := hb3.cell rfl
  have HP3 := Lib.hid (HP2.out.only ((Only.refl [mb] w2).setCell (p := ⟨mb, 2, none⟩) (.inl (by simp)) (.int .i64 hd)) (fun k hk e => by simp at e; subst e; exact HX1.out hk))
  have HB3 := Lib.hid hb3; have HO3 := Lib.hid ho3; have HG3 := Lib.hid hgone3; have HM3 := Lib.hid hmade3; have HLOW := Lib.hid hlow; have GLOW := Lib.hid glow; have HSZ := Lib.hid hsz; have HIN := Lib.hid hin
  have hs2 : (w2.setCell ⟨mb, 2, none⟩ (.int .i64 hd)).heap.size = w2.heap.size := by simp
  have hrn := row_new (w2.setCell ⟨mb, 2, none⟩ (.int .i64 hd)) [.int .i64 hd] 3
  rw [hs2] at hrn
  have hm1 : m.made.length + 1 ≤ maxLen := by have := HL.out; unfold maxLen; omega
  have hm2 : (m.made.length + 1) * 8 ≤ 140737488355328 := by have := HL.out; omega
  have hbs : base ≤ ((w2.setCell ⟨mb, 2, none⟩ (.int .i64 hd)).alloc (.cells #[.int .i64 hd] 3)).heap.size := Nat.le_trans (Nat.le_trans HM.out.room hsz) (size_alloc_le _ _)
  have HRN := Lib.hid hrn; have HM1 := Lib.hid hm1; have HM2 := Lib.hid hm2; have HBS := Lib.hid hbs; have HS2 := Lib.hid hs2; have HML := Lib.hid hml
  clear hb2 hmade2 hgone2 hb3 ho3 hgone3 hmade3 hlow glow hsz hin hml hs2 hrn hm1 hm2 hbs
  go_wp2_with (at_builtin; refine wpList_append_is rfl (.tmp 35) (.tmp 37) rfl elemInt rfl (HM3.out.alloc (.cells #[.int .i64 hd] 3)) _ 1 _ [.int .i64 hd] rfl HRN.out rfl (by simp [Value.oneCell']) HM1.out HM2.out HBS.out (fun e => by cases e) ?_; intro v2 w4 hown2 hg2 hat2; obtain ⟨A2, c2', rfl, _, _⟩ := row_of_own hown2; have hb4 := blk_grown (HB3.out.alloc (.cells #[.int .i64 hd] 3)) hg2 (fun e => by have h1 := (HLOW.out _ e).1; have h2 := HML.out; omega); have f4 := hb4.frozen 6; have d4 : w4.cell? ⟨mb, 6, none⟩ = some (.slice mA m.made.length mc) := hb4.cell rfl; have HB4 := Lib.hid hb4; have HW2 := Lib.hid hown2; have HG2 := Lib.hid hg2; have HA2 := Lib.hid hat2; clear hb4 hown2 hg2 hat2)
  go_ret
  have g1 : Only ((Value.slice mA m.made.length mc).ownBlock.toList) ((w2.setCell ⟨mb, 2, none⟩ (.int .i64 hd)).alloc (.cells #[.int .i64 hd] 3)) w4 := Only.of_grown HG2.out (fun k hk => .inl (by rw [show (Value.slice mA m.made.length mc).ownBlock = some k from hk]; simp))
  have g2 : Only (mb :: (Value.slice mA m.made.length mc).ownBlock.toList) (w2.setCell ⟨mb, 2, none⟩ (.int .i64 hd)) (w4.setCell ⟨mb, 6, none⟩ (.slice A2 (m.made.length + 1) c2')) := (((Only.refl _ _).alloc _).trans (g1.mono (fun k hk => by simp at hk ⊢; exact .inr hk))).setCell (.inl (by simp)) _
  have hml := HML.out
  have hdl : ∀ k, k ∈ (Value.slice mA m.made.length mc).ownBlock.toList → base ≤ k := fun k hk => (HLOW.out k (by simpa using hk)).1
  have ho : Only (mb :: L.blocks ++ (Value.slice mA m.made.length mc).ownBlock.toList) w (w4.setCell ⟨mb, 6, none⟩ (.slice A2 (m.made.length + 1) c2')) := HO3.out.trans (g2.mono (fun k hk => by simp at hk ⊢; rcases hk with h | h <;> simp [h]))
  refine ⟨_, _, (Value.slice mA m.made.length mc).ownBlock.toList, rfl, HP3.out.only g2 ?_, ⟨HB4.out.set 6 _, own_only HG3.out g2 ?_, ?_, hml, ?_, Nat.le_trans HM.out.room ho.size⟩, ho, hdl⟩
  · intro k hk e
    rcases List.mem_cons.1 e with rfl | e
    · exact HX1.out hk
    · have := hdl k e
      have := HX4.out k hk
      omega
  · intro k hk e
    rcases List.mem_cons.1 e with rfl | e
    · have := (GLOW.out _ hk).1
      omega
    · exact HM.out.apart k hk (by simpa using e)
  · rw [List.length_append, ints_snoc]
    refine own_only HW2.out ((Only.refl [mb] w4).setCell (p := ⟨mb, 6, none⟩) (.inl (by simp)) _) (fun k hk e => ?_)
    have := (HW2.out.lt k hk).1
    simp at e
    omega
  · intro g hg e
    rcases HA2.out with h1 | h1
    · rw [h1] at e
      exact HM.out.apart g hg e
    · rw [h1] at e
      injection e with e
      have h2 := (GLOW.out g hg).2
      have h3 := HSZ.out
      have h4 := size_alloc_le (w2.setCell ⟨mb, 2, none⟩ (.int .i64 hd)) (.cells #[.int .i64 hd] 3)
      omega
end Go.Proofs.YteeefedoffplmaaGreat
