/- maps.Clone, and a version behind an event. -/
import Derived.Test.YtpnegacfanbcfaaEv
import Derived.Shelf.SlMaps.Clone
namespace Go.Proofs.Ytpnegacfanbcfaa
open Go.RowKit Go.Maps

set_option maxRecDepth 100000 in
theorem runClone (args : Array Value) (w : World) : (callFunc 86 args).run Try.prog w = ((Extern.MapsClone.clone args).run Try.prog w).andThen fun v w' => .ok (.value v) w' :=
  run_callFunc_extern Try.func86 (by kernel_rfl) (by kernel_rfl) (by kernel_rfl) (by kernel_rfl) args w
set_option maxHeartbeats 2000000 in
set_option maxRecDepth 100000 in
theorem cloneMap (b : Nat) (es : Array MapEntry) (clock : Nat) (w : World) (hb : w.heap[b]? = some (.map es clock)) :
    Calls Try.prog 75 #[.map (some b)] w fun e w' => e = .returned (.map (some w.heap.size)) ∧ w' = w.alloc (.map es clock) := by
  have hq := fun w => run_eql_map_nil_sl (P := Try.prog) w 72 3 3 (some b) Try.underlying72
  have HB := Lib.hid hb; clear hb
  go_enter Try.func75, Try.ntmps75
  go_wp2_with fail
  rw [runClone, run_maps_clone_sl w 72 HB.out]
  simp only [Result.andThen]
  rw [Oper.upon_value]
  go_wp2_with fail
  rw [run_typeAssert_map_sl _ 72 20 _ _ _ Try.underlying72]
  simp only [Result.andThen]
  rw [Oper.upon_value]
  go_wp2_with fail
  go_ret
  exact ⟨rfl, rfl⟩
theorem cloneIs {α : Type} {enc : α → Value} (b : Nat) (f : α → Option Value) (w : World) (h : MapIs Try.prog 3 enc w b f) :
    Calls Try.prog 75 #[.map (some b)] w fun e w' => e = .returned (.map (some w.heap.size)) ∧ MapIs Try.prog 3 enc w' w.heap.size f ∧ Below w.heap.size w w' := by
  obtain ⟨es, clock, hb, h1, h2, h3⟩ := h
  refine (cloneMap b es clock w hb).mono fun e w' ⟨he, hw⟩ => ?_
  subst hw
  exact ⟨he, ⟨es, clock, heap_alloc_new w _, h1, h2, h3⟩, (Below.refl _ _).alloc (Nat.le_refl _) _⟩

theorem wpList_delete_is {α : Type} [DecidableEq α] {P : Program} {w : World} {ops : Array Oper} {rest : List Oper} {o : Oper} {a : Act} {Q : Exit → Act → World → Prop} (hg : o.guard = none) (m i : Operand) (t k : TypeId) (hop : o.op = Op.call { callee := Callee.builtin Builtin.delete, args := #[m, i], argTypes := #[t, k] })
    (e : TypeId) (enc : α → Value) (K : Keyed P k) (hinj : ∀ x y, enc x = enc y → x = y) (ht : P.underlying t = some (.map k e)) (b : Nat) (f : α → Option Value) (hm : a.eval m = .map (some b)) (h : MapIs P k enc w b f)
    (x : α) (hi : a.eval i = enc x) {l : Lit} (hx : keyOf P k (enc x) = some l)
    (hK : ∀ w', MapIs P k enc w' b (fun y => if y = x then none else f y) → w.grownBy w' (some b) → wpList P ops Q rest (a.put o.dst (.tuple #[])) w') : wpList P ops Q (o :: rest) a w := by
  refine wpList_plain hg fun K' hK' => ?_
  obtain ⟨w', hrun, r1, r2⟩ := h.run_delete K hinj ht o.type #[k] x hx
  have hrun' : (Builtin.delete_ #[t, k] o.type #[.map (some b), enc x]).run P w = .ok (.tuple #[]) w' := hrun
  unfold Oper.wp
  simp [execOp, hop, resolve, invoke, builtin, hm, hi, hrun', Result.andThen]
  exact hK' _ _ (hK w' r1 r2)

/-- an element of s cells out of a slice. -/
theorem load_elem {α : Type} (g : α → List Value) (s : Nat) (hg : ∀ x, (g x).length = s) (hs : 0 < s) {w : World} {A : Option Addr} {l : List α} (h : Row w A (l.flatMap g)) {k : Nat} {x : α} (hx : l[k]? = some x) :
    ∃ b off, A = some ⟨b, off, none⟩ ∧ (loadCellsFrom ⟨b, off + k * s, none⟩ 0 s #[]).run Try.prog w = .ok (g x).toArray w := by
  have hget : ∀ j, j < s → (l.flatMap g)[k * s + j]? = (g x)[j]? := flatMap_get g s hg l k x hx
  have h0 : (g x)[0]? = some ((g x)[0]'(by rw [hg]; exact hs)) := List.getElem?_eq_getElem _
  obtain ⟨b, off, hA, _⟩ := h (k * s + 0) _ ((hget 0 hs).trans h0)
  subst hA
  refine ⟨b, off, rfl, ?_⟩
  have := run_loadCells_list (P := Try.prog) w ⟨b, off + k * s, none⟩ (g x) (fun j v hv => by
    have hj : j < s := by
      have := (List.getElem?_eq_some_iff.1 hv).1
      rwa [hg] at this
    obtain ⟨b', off', hA, hc⟩ := h (k * s + j) v ((hget j hj).trans hv)
    simp only [Option.some.injEq, Addr.mk.injEq, and_true] at hA
    obtain ⟨rfl, rfl⟩ := hA
    rw [addr_add, Nat.add_assoc]
    exact hc)
  simpa [loadCells, hg] using this

def Tab : Type := Int → Option Int
def tabV (t : Tab) : Int → Option Value := fun k => (t k).map (.int .i64 ·)
def Tab.put (t : Tab) (k v : Int) : Tab := fun x => if x = k then some v else t x
def Tab.del (t : Tab) (k : Int) : Tab := fun x => if x = k then none else t x
def Tab.puts (t : Tab) (l : List (Int × Int)) : Tab := l.foldl (fun t p => t.put p.1 p.2) t
def laysT (t : Tab) (e : Ev) : Tab := if e.kind = 5 then t.puts e.pairs else if e.has then t.put e.key e.new else t.del e.key
theorem tabV_put (t : Tab) (k v : Int) : (fun y => if y = k then some (Value.int .i64 v) else tabV t y) = tabV (t.put k v) := by
  funext y
  simp only [tabV, Tab.put]
  split <;> rfl
theorem tabV_del (t : Tab) (k : Int) : (fun y => if y = k then none else tabV t y) = tabV (t.del k) := by
  funext y
  simp only [tabV, Tab.del]
  split <;> rfl
theorem puts_succ (t : Tab) (l : List (Int × Int)) (j : Nat) (p : Int × Int) (h : l[j]? = some p) : t.puts (l.take (j + 1)) = (t.puts (l.take j)).put p.1 p.2 := by
  unfold Tab.puts
  rw [List.take_add_one, List.foldl_append, h]
  rfl
def pairCell (p : Int × Int) : List Value := [.int .i64 p.1, .int .i64 p.2]

def PRel (t : Tab) (l : List (Int × Int)) (w : World) (b : Nat) (k : Nat) (i : Value) (wr : World) : Prop :=
  ∃ j : Nat, j ≤ l.length ∧ i = .int .i64 j ∧ k = l.length - j ∧ MapIs Try.prog 3 (Value.int .i64 ·) wr b (tabV (t.puts (l.take j))) ∧ Below w.heap.size w wr

attribute [-go_sem] loadCellsFrom
def LaysPost (t : Tab) (e : Ev) (w : World) (r : Ending) (w' : World) : Prop :=
  ∃ b, r = .returned (.map (some b)) ∧ w.heap.size ≤ b ∧ MapIs Try.prog 3 (Value.int .i64 ·) w' b (tabV (laysT t e)) ∧ Below w.heap.size w w'
theorem World.heap_size_alloc' (w : World) (o : Obj) : (w.alloc o).heap.size = w.heap.size + 1 := by simp
theorem keyed3' : Keyed Try.prog 3 := int_keyed Try.underlying3
theorem key3' {a : Int} (h : inI64 a) : keyOf Try.prog 3 (.int .i64 a) = some (.int .i64 a) := keyOf_int_mk Try.underlying3 (wf_i64 h)

set_option maxRecDepth 100000 in
set_option maxHeartbeats 2000000 in
theorem judgeLays (t : Tab) (e : Ev) (b : Nat) (w : World) (hm : MapIs Try.prog 3 (Value.int .i64 ·) w b (tabV t)) (he : e.Ok) (hi : e.In w) (hl : e.pairs.length ≤ 3000) :
    Calls Try.prog 67 #[.map (some b), e.val] w (LaysPost t e w) := by
  have HM := Lib.hid hm; have HE := Lib.hid he; have HI := Lib.hid hi
  clear hm he hi
  simp only [Ev.val, Ev.arr]
  by_cases hk : e.kind = 5
  · have hk' : (e.kind == 5) = true := by simp [hk]
    have HK := Lib.hid hk; clear hk
    go_enter Try.func67, Try.ntmps67
    go_wp2_with (go_at_call 75; refine (cloneIs b (tabV t) _ (HM.out.below ((Below.refl _ _).alloc (Nat.le_refl _) _))).mono ?_; rintro e1 w1 ⟨rfl, hm1, hb1⟩; rw [World.heap_size_alloc'] at hm1; have hE1 : w1.heap[w.heap.size]? = some (.cells e.arr 52 (0, 0)) := (hb1.block _ (by simp)).trans (heap_alloc_new w _); have n3 : w1.cell? ⟨w.heap.size, 3, none⟩ = some (.int .i64 e.kind) := cell_of_row _ _ _ _ _ _ hE1; have n5 : w1.cell? ⟨w.heap.size, 5, none⟩ = some (.int .i64 e.key) := cell_of_row _ _ _ _ _ _ hE1; have n9 : w1.cell? ⟨w.heap.size, 9, none⟩ = some (.bool e.has) := cell_of_row _ _ _ _ _ _ hE1; have n10 : w1.cell? ⟨w.heap.size, 10, none⟩ = some (.int .i64 e.new) := cell_of_row _ _ _ _ _ _ hE1; have n12 : w1.cell? ⟨w.heap.size, 12, none⟩ = some (.slice e.pA e.pairs.length e.pc) := cell_of_row _ _ _ _ _ _ hE1; have hbb : Below w.heap.size w w1 := ((Below.refl _ _).alloc (Nat.le_refl _) _).trans (hb1.mono (by simp)); have HM1 := Lib.hid hm1; have HBB := Lib.hid hbb; clear hm1 hb1 hbb hE1)
    clear n3 n5 n9 n10 n12
    go_loopg [19] e.pairs.length (fun k i wr => PRel t e.pairs w (w.heap.size + 1) k i wr)
    case atStart => exact ⟨0, Nat.zero_le _, rfl, rfl, HM1.out, HBB.out⟩
    case round =>
      obtain ⟨j, hj, rfl, rfl, hmr, hbr⟩ := hrel
      by_cases hlt : j < e.pairs.length
      · obtain ⟨p, hp⟩ : ∃ p, e.pairs[j]? = some p := ⟨_, List.getElem?_eq_getElem hlt⟩
        obtain ⟨pb, poff, hA, hld⟩ := load_elem pairCell 2 (fun _ => rfl) (by decide) (l := e.pairs) (HI.out.p.below hbr) hp
        have hld' : (loadCellsFrom ⟨pb, poff + j * 2, none⟩ 0 2 #[]).run Try.prog wr = .ok #[.int .i64 p.1, .int .i64 p.2] wr := hld
        have HP := Lib.hid hp
        have HMR := Lib.hid (hmr.below ((Below.refl wr.heap.size wr).alloc (Nat.le_refl _) (.cells #[.int .i64 p.1, .int .i64 p.2] 58)))
        have HBR := Lib.hid (hbr.alloc hbr.size (.cells #[.int .i64 p.1, .int .i64 p.2] 58))
        have hpk := HE.out.pairs p (List.mem_of_getElem? hp)
        have HPK := Lib.hid hpk
        clear hp hmr hbr hld hpk
        have HA := Lib.hid hA; clear hA
        generalize hpa : e.pA = pA at *
        have HPA := Lib.hid hpa; clear hpa
        obtain rfl : pA = some ⟨pb, poff, none⟩ := HA.out
        go_wp2_with (at_mapUpdate; refine wpList_mapUpdate_is rfl (.tmp 23) (.tmp 25) (.tmp 27) 72 rfl 3 3 (Value.int .i64 ·) keyed3' int_enc_inj Try.underlying72 (w.heap.size + 1) _ rfl HMR.out p.1 rfl (key3' HPK.out.1) (.int .i64 p.2) rfl ?_; intro w3 hm3 hg3; rw [tabV_put] at hm3; have HM3 := Lib.hid hm3; have HG3 := Lib.hid hg3; clear hm3 hg3)
        go_roundg (e.pairs.length - (j + 1))
        case measure => omega
        case rel =>
          refine ⟨j + 1, by omega, by go_num, rfl, ?_, HBR.out.grown HG3.out HBR.out.size (fun k hk => by injection hk with hk; omega)⟩
          rw [puts_succ _ _ _ _ HP.out]
          exact HM3.out
      · have HMR := Lib.hid hmr; have HBR := Lib.hid hbr
        have HT : Hid (e.pairs.take j = e.pairs) := List.take_of_length_le (by omega)
        clear hmr hbr
        go_wp2_with fail
        go_ret
        refine ⟨w.heap.size + 1, rfl, by omega, ?_, HBR.out⟩
        have : laysT t e = t.puts (e.pairs.take j) := by simp only [laysT, if_pos HK.out, HT.out]
        rw [this]
        exact HMR.out
  · have hk' : (e.kind == 5) = false := by simpa using hk
    have HK := Lib.hid hk; clear hk
    go_enter Try.func67, Try.ntmps67
    go_wp2_with (first
      | (go_at_call 75; refine (cloneIs b (tabV t) _ (HM.out.below ((Below.refl _ _).alloc (Nat.le_refl _) _))).mono ?_; rintro e1 w1 ⟨rfl, hm1, hb1⟩; rw [World.heap_size_alloc'] at hm1; have hE1 : w1.heap[w.heap.size]? = some (.cells e.arr 52 (0, 0)) := (hb1.block _ (by simp)).trans (heap_alloc_new w _); have n3 : w1.cell? ⟨w.heap.size, 3, none⟩ = some (.int .i64 e.kind) := cell_of_row _ _ _ _ _ _ hE1; have n5 : w1.cell? ⟨w.heap.size, 5, none⟩ = some (.int .i64 e.key) := cell_of_row _ _ _ _ _ _ hE1; have n9 : w1.cell? ⟨w.heap.size, 9, none⟩ = some (.bool e.has) := cell_of_row _ _ _ _ _ _ hE1; have n10 : w1.cell? ⟨w.heap.size, 10, none⟩ = some (.int .i64 e.new) := cell_of_row _ _ _ _ _ _ hE1; have n12 : w1.cell? ⟨w.heap.size, 12, none⟩ = some (.slice e.pA e.pairs.length e.pc) := cell_of_row _ _ _ _ _ _ hE1; have hbb : Below w.heap.size w w1 := ((Below.refl _ _).alloc (Nat.le_refl _) _).trans (hb1.mono (by simp)); have HM1 := Lib.hid hm1; have HBB := Lib.hid hbb; clear hm1 hb1 hbb hE1)
      | (at_mapUpdate; refine wpList_mapUpdate_is rfl (.tmp 32) (.tmp 34) (.tmp 36) 72 rfl 3 3 (Value.int .i64 ·) keyed3' int_enc_inj Try.underlying72 (w.heap.size + 1) _ rfl HM1.out e.key rfl (key3' HE.out.key) (.int .i64 e.new) rfl ?_; intro w3 hm3 hg3; rw [tabV_put] at hm3; have HM3 := Lib.hid hm3; have HG3 := Lib.hid hg3; clear hm3 hg3)
      | (at_delete; refine wpList_delete_is rfl (.tmp 9) (.tmp 11) 72 3 rfl 3 (Value.int .i64 ·) keyed3' int_enc_inj Try.underlying72 (w.heap.size + 1) _ rfl HM1.out e.key rfl (key3' HE.out.key) ?_; intro w3 hm3 hg3; rw [tabV_del] at hm3; have HM3 := Lib.hid hm3; have HG3 := Lib.hid hg3; clear hm3 hg3))
    · have hh : e.has = true := by assumption
      go_ret
      refine ⟨w.heap.size + 1, rfl, by omega, ?_, HBB.out.grown HG3.out HBB.out.size (fun k hk => by injection hk with hk; omega)⟩
      have : laysT t e = t.put e.key e.new := by simp only [laysT, if_neg HK.out, hh, if_true]
      rw [this]
      exact HM3.out
    · have hh : e.has = false := by assumption
      go_ret
      refine ⟨w.heap.size + 1, rfl, by omega, ?_, HBB.out.grown HG3.out HBB.out.size (fun k hk => by injection hk with hk; omega)⟩
      have : laysT t e = t.del e.key := by simp [laysT, HK.out, hh]
      rw [this]
      exact HM3.out
end Go.Proofs.Ytpnegacfanbcfaa
