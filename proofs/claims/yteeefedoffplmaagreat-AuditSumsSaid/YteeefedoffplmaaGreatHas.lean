/- A part's has, its keys' test (ContainsFunc), part.changed, part.New; a loading's of. Conditions: the store's fixed blocks lie in memory. -/
import Derived.Test.YteeefedoffplmaaGreatStore
import Derived.Test.YteeefedoffplmaaGreatTrie
import Derived.LoopN
namespace Go.Proofs.YteeefedoffplmaaGreat
open Go.RowKit

theorem has_yes (w : World) (Y : StoreL) (hy : Y.Ok) (hf : Fixed w Y) (i : Nat) (hi : i < Y.n) (key : Int) (hk : keyB key = true) (hp : partOf key Y.n = (i : Int)) :
    Calls Tryz.prog 140 #[ptr (Y.pt i), .int .i64 key] w fun e w' => e = .returned (.bool true) ∧ w' = w := by
  have hpy := part_yes key Y.n w hk (by have := hy.n; omega) (by have := hy.n; omega)
  rw [hp] at hpy
  have c1 := (hf.pt i hi).cell (i := 1) rfl
  have c2 := (hf.pt i hi).cell (i := 2) rfl
  have hq : ((i : Int) == (i : Int)) = true := by simp
  unfold ptr
  generalize (Y.n : Int) = nn at *
  generalize (i : Int) = ii at *
  clear hf hk hp hy hi
  go_enter Tryz.func140, Tryz.ntmps140
  go_wp2_with (go_at_call 47; refine hpy.mono ?_; rintro e w' ⟨rfl, rfl⟩)
  go_ret
  exact ⟨by simp, rfl⟩
theorem has1 (w : World) (Y : StoreL) (hy : Y.Ok) (hf : Fixed w Y) (i : Nat) (hi : i < Y.n) (key : Int) (hk : keyB key = true) (hp : partOf key Y.n = (i : Int)) (b : Nat) (hb : w.cell? ⟨b, 0, none⟩ = some (ptr (Y.pt i))) :
    Calls Tryz.prog 177 #[.int .i64 key, ptr b] w fun e w' => e = .returned (.bool false) ∧ w' = w := by
  have hh := has_yes w Y hy hf i hi key hk hp
  unfold ptr at *
  clear hf hk hp hy hi
  go_enter Tryz.func177, Tryz.ntmps177
  go_wp2_with (go_at_call 140; refine hh.mono ?_; rintro e w' ⟨rfl, rfl⟩)
  go_ret
  exact ⟨by simp, rfl⟩
/-- IndexFunc of a row of one, by a part's has. -/
theorem index1 (w : World) (key : Int) (a b c : Nat) (ha : w.cell? ⟨a, 0, none⟩ = some (.int .i64 key)) (hh : Calls Tryz.prog 177 #[.int .i64 key, ptr b] w fun e w' => e = .returned (.bool false) ∧ w' = w) :
    Calls Tryz.prog 125 #[.slice (some ⟨a, 0, none⟩) 1 c, .func (.func 177) #[] #[ptr b]] w fun e w' => e = .returned (.int .i64 (-1)) ∧ w' = w := by
  unfold ptr at *
  go_enter Tryz.func125, Tryz.ntmps125
  go_wp2_with fail
  refine wp_loop_rounds 2 ?_
  rw [rounds_succ]
  go_wp2_with (go_at_call 177; refine hh.mono ?_; rintro e w' ⟨rfl, rfl⟩)
  rw [rounds_succ]
  go_wp2_with fail
  go_ret
  exact ⟨rfl, rfl⟩
theorem contains1 (w : World) (key : Int) (a b c : Nat) (ha : w.cell? ⟨a, 0, none⟩ = some (.int .i64 key)) (hh : Calls Tryz.prog 177 #[.int .i64 key, ptr b] w fun e w' => e = .returned (.bool false) ∧ w' = w) :
    Calls Tryz.prog 68 #[.slice (some ⟨a, 0, none⟩) 1 c, .func (.func 177) #[] #[ptr b]] w fun e w' => e = .returned (.bool false) ∧ w' = w := by
  have hi := index1 w key a b c ha hh
  unfold ptr at *
  clear hh ha
  go_enter Tryz.func68, Tryz.ntmps68
  go_wp2_with (go_at_call 125; refine hi.mono ?_; rintro e w' ⟨rfl, rfl⟩)
  go_ret
  exact ⟨by simp, rfl⟩
/-- what a call tells of a value. -/
def ToldS.val (t : ToldS) : Value := .agg #[.int .i64 t.value, .bool t.had, .int .i64 t.number, .bool t.new, .int .i64 t.many]
def ToldS.cells (t : ToldS) : List Value := [.int .i64 t.value, .bool t.had, .int .i64 t.number, .bool t.new, .int .i64 t.many]
set_option maxRecDepth 100000 in
theorem changed_any (w : World) (root r o : Int) (had : Bool) (gv mv : Value) (gA mA : Option Addr) (gn gc mn mc : Nat) (hg : gv = .slice gA gn gc) (hm : mv = .slice mA mn mc) :
    Calls Tryz.prog 182 #[.int .i64 root, .agg #[.int .i64 r, .int .i64 o, .bool had, gv, mv]] w fun e w' => e = .returned (.agg #[.int .i64 r, gv, mv, .int .i64 o, .bool had, .int .i64 0, .bool (decide (r ≠ root)), .int .i64 0]) ∧ Only [] w w' := by
  subst hg hm
  have hq : (r != root) = decide (r ≠ root) := by
    by_cases h : r = root <;> simp [h]
  rw [← hq]
  clear hq
  go_enter Tryz.func182, Tryz.ntmps182
  go_wp2_with fail
  refine bodyPost_ret (v := .agg #[.int .i64 r, .slice gA gn gc, .slice mA mn mc, .int .i64 o, .bool had, .int .i64 0, .bool (r != root), .int .i64 0]) (by simp [results, Tryz.results182, go_sem]) rfl ⟨rfl, ((Only.refl _ _).alloc _).alloc _⟩
theorem partNew_any (w : World) (i n pb eb xb ld : Nat) :
    Calls Tryz.prog 46 #[.int .i64 (i : Int), .int .i64 (n : Int), ptr pb, ptr eb, ptr xb, ptr ld] w fun e w' => ∃ b g, e = .returned (ptr b) ∧ w.heap.size ≤ b ∧ w.heap.size ≤ g ∧ b ≠ g ∧ Blk w' b [ptr xb, .int .i64 (i : Int), .int .i64 (n : Int), ptr pb, ptr g, ptr eb, ptr ld] 152 ∧ Blk w' g [ptr pb] 187 ∧ Only [] w w' := by
  have ht := trieNew_any w pb
  unfold ptr at *
  go_enter Tryz.func46, Tryz.ntmps46
  go_wp2_with (go_at_call 43; refine ht.mono ?_; rintro e w1 ⟨g, rfl, h1, h2, h3⟩; have H1 := Lib.hid h1; have H2 := Lib.hid h2; have H3 := Lib.hid h3; clear h1 h2 h3)
  go_ret
  exact ⟨_, g, rfl, H3.out.size, H2.out, fun e => by have := H1.out.lt; omega, heap_alloc_new _ _, H1.out.alloc _, H3.out.alloc _⟩
theorem loadOf_any (w : World) (Y : StoreL) (hf : Fixed w Y) (i : Nat) (hi : i < Y.n) :
    Calls Tryz.prog 218 #[ptr Y.ld, .pointer none, .int .i64 (i : Int)] w fun e w' => e = .returned (.tuple #[ptr (Y.lp i), .int .i64 0]) ∧ w' = w := by
  obtain ⟨A, c, h1, h2⟩ := hf.ld
  have c2 := h1.cell (i := 2) rfl
  obtain ⟨b, rfl, _, hc⟩ := h2 i (ptr (Y.lp i)) (by simp [hi])
  have hq : ((i : Int) < (Y.n : Int)) := by omega
  unfold ptr at *
  clear hf h1 h2
  generalize Y.n = n at *
  go_enter Tryz.func218, Tryz.ntmps218
  go_wp2_with fail
  all_goals (try (exfalso; omega))
  go_ret2
  exact ⟨rfl, rfl⟩
end Go.Proofs.YteeefedoffplmaaGreat
