/- The law of JudgeLess: without its last events, none of them a Write, a history has just the blames that are of the others alone. Plain. -/
import Derived.Test.YtpnegacfanbcfaaVersP
namespace Go.Proofs.Ytpnegacfanbcfaa
open Go.RowKit Go.Maps

theorem leB_total (x y : Blm) : (leB x y || leB y x) = true := by
  simp only [leB, Bool.or_eq_true, Bool.not_eq_true', decide_eq_false_iff_not]
  unfold ltB
  omega
theorem leB_trans (x y z : Blm) (h1 : leB x y = true) (h2 : leB y z = true) : leB x z = true := by
  simp only [leB, Bool.not_eq_true', decide_eq_false_iff_not] at *
  unfold ltB at *
  omega
theorem leB_anti (x y : Blm) (h1 : leB x y = true) (h2 : leB y x = true) : x = y := by
  simp only [leB, Bool.not_eq_true', decide_eq_false_iff_not] at *
  exact totB x y (by rw [ltOfB, decide_eq_false_iff_not]; exact h2) (by rw [ltOfB, decide_eq_false_iff_not]; exact h1)
theorem sortB_perm (l : List Blm) : (sortB l).Perm l := List.mergeSort_perm l leB
theorem sortB_pair (l : List Blm) : (sortB l).Pairwise fun a b => leB a b = true := List.pairwise_mergeSort leB_trans leB_total l
theorem sortB_filter (l : List Blm) (p : Blm → Bool) : (sortB l).filter p = sortB (l.filter p) :=
  List.Perm.eq_of_pairwise (le := fun a b => leB a b = true) (fun a b _ _ h1 h2 => leB_anti a b h1 h2) ((sortB_pair l).filter p) (sortB_pair _) (((sortB_perm l).filter p).trans (sortB_perm _).symm)

/-- none of the events from n on is a Write or a Batch. -/
def TailOk (l : List Ev) (n : Nat) : Prop := ∀ i e, n ≤ i → l[i]? = some e → writesB e = false
theorem tail_mem {l : List Ev} {n : Nat} (h : TailOk l n) {e : Ev} (he : e ∈ l.drop n) : writesB e = false := by
  obtain ⟨i, hi⟩ := List.getElem?_of_mem he
  rw [List.getElem?_drop] at hi
  exact h (n + i) e (by omega) hi
theorem pubF_take {l : List Ev} {n : Nat} (h : TailOk l n) (parts part k : Int) : pubF (l.take n) parts part k = pubF l parts part k := by
  have e : pubF l parts part k = pubF (l.take n ++ l.drop n) parts part k := by rw [List.take_append_drop]
  rw [e]
  unfold pubF
  rw [List.filter_append]
  have : (l.drop n).filter (fun e => pubB parts part e && decide (e.number = k)) = [] := by
    rw [List.filter_eq_nil_iff]
    intro x hx
    simp [pubB, tail_mem h hx]
  rw [this, List.append_nil]
theorem busyB_take {l : List Ev} {n : Nat} (h : TailOk l n) (parts part : Int) : busyB (l.take n) parts part = busyB l parts part := by
  have e : busyB l parts part = busyB (l.take n ++ l.drop n) parts part := by rw [List.take_append_drop]
  rw [e]
  unfold busyB
  rw [List.any_append]
  have : (l.drop n).any (fun e => isB e parts && writesB e && decide (e.end_ = 0) && decide (e.part = part)) = false := by
    rw [List.any_eq_false]
    intro x hx
    simp [tail_mem h hx]
  rw [this, Bool.or_false]
theorem tellsL_more {l : List Ev} {parts part : Int} (d : Nat) : ∀ (k : Nat) (acc : List Tab), acc.length + k = l.length + 2 → (∀ m : Nat, 2 ≤ m → m ≤ acc.length → (pubF l parts part m).length = 1) →
    tellsL (pubF l parts part) (k + d) acc = tellsL (pubF l parts part) k acc
  | 0, acc, hl, hs => by
    have hne : (pubF l parts part ((acc.length : Int) + 1)).length ≠ 1 := by
      intro h
      have h3 := singles_le (l := l) (parts := parts) (part := part) acc.length (fun m g1 g2 => by
        rcases Nat.lt_or_ge acc.length m with g | g
        · obtain rfl : m = acc.length + 1 := by omega
          exact h
        · exact hs m g1 g)
      have h4 := upTo_le l parts part ((acc.length : Int) + 1)
      omega
    rw [tellsL_stop hne, tellsL_stop hne]
  | k + 1, acc, hl, hs => by
    by_cases h : (pubF l parts part ((acc.length : Int) + 1)).length = 1
    · obtain ⟨e, he⟩ := List.length_eq_one_iff.1 h
      have e1 : k + 1 + d = (k + d) + 1 := by omega
      rw [e1, tellsL_go he, tellsL_go he]
      refine tellsL_more d k _ (by simp; omega) (fun m g1 g2 => ?_)
      rw [List.length_append, List.length_singleton] at g2
      rcases Nat.lt_or_ge acc.length m with g | g
      · obtain rfl : m = acc.length + 1 := by omega
        exact h
      · exact hs m g1 g
    · rw [tellsL_stop h, tellsL_stop h]
theorem toldAt_take {l : List Ev} {n : Nat} (h : TailOk l n) (hn : n ≤ l.length) (starts : List (List (Int × Int))) (p : Nat) : toldAt (l.take n) starts p = toldAt l starts p := by
  unfold toldAt told
  have hF : pubF l starts.length (p : Int) = pubF (l.take n) starts.length (p : Int) := funext fun k => (pubF_take h _ _ k).symm
  rw [hF]
  have hl : (l.take n).length = n := by simp [hn]
  have e : l.length + 1 = ((l.take n).length + 1) + (l.length - n) := by rw [hl]; omega
  rw [e]
  exact (tellsL_more (l := l.take n) (l.length - n) _ _ (by simp; omega) (fun m g1 g2 => absurd g2 (by simp; omega))).symm
theorem selfL_take {l : List Ev} {n : Nat} (h : TailOk l n) (hn : n ≤ l.length) (starts : List (List (Int × Int))) (i : Int) (a : Ev) : selfL (l.take n) starts i a = selfL l starts i a := by
  unfold selfL selfA selfC
  rw [toldAt_take h hn, busyB_take h]
theorem selfL_at (l : List Ev) (starts : List (List (Int × Int))) (i : Int) (a : Ev) : ∀ b ∈ selfL l starts i a, b.at_ = i ∧ b.wit = -1 := by
  intro b hb
  unfold selfL selfA selfC at hb
  have h1 := fun (c : Bool) (x : Blm) (hb : b ∈ (if c = true then [x] else [])) => (by cases c <;> simp at hb; exact hb : b = x)
  split at hb
  · split at hb
    · cases hb
    · rw [List.mem_append] at hb
      rcases hb with hb | hb
      · rw [h1 _ _ hb]
        exact ⟨rfl, rfl⟩
      · split at hb
        · cases hb
        · rw [h1 _ _ hb]
          exact ⟨rfl, rfl⟩
  · rw [List.mem_singleton] at hb
    rw [hb]
    exact ⟨rfl, rfl⟩
theorem besideL_at (i k : Int) (a b : Ev) : ∀ x ∈ besideL i k a b, x.at_ = i ∧ x.wit = k := by
  intro x hx
  have h1 := fun (c : Bool) (y : Blm) (hx : x ∈ (if c = true then [y] else [])) => (by cases c <;> simp at hx; exact hx : x = y)
  unfold besideL at hx
  split at hx
  · split at hx <;> (rw [h1 _ _ hx]; exact ⟨rfl, rfl⟩)
  · split at hx
    · rw [h1 _ _ hx]; exact ⟨rfl, rfl⟩
    · split at hx
      · rw [List.mem_append] at hx
        rcases hx with hx | hx <;> (rw [h1 _ _ hx]; exact ⟨rfl, rfl⟩)
      · cases hx
def keepB (n : Nat) (b : Blm) : Bool := decide (b.at_ < n) && decide (b.wit < n)
theorem zipIdx_split {α : Type} (l : List α) (n : Nat) (hn : n ≤ l.length) : l.zipIdx = (l.take n).zipIdx ++ (l.drop n).zipIdx n := by
  have e : l.zipIdx = (l.take n ++ l.drop n).zipIdx := by rw [List.take_append_drop]
  rw [e, List.zipIdx_append]
  simp [hn]
theorem flatMap_same {α β : Type} {f g : α → List β} {l : List α} (h : ∀ x ∈ l, f x = g x) : l.flatMap f = l.flatMap g := by
  induction l with
  | nil => rfl
  | cons x l ih => rw [List.flatMap_cons, List.flatMap_cons, h x (List.mem_cons_self ..), ih fun y hy => h y (List.mem_cons_of_mem _ hy)]
theorem filter_flatMap {α β : Type} (f : α → List β) (p : β → Bool) (l : List α) : (l.flatMap f).filter p = l.flatMap fun x => (f x).filter p := by
  induction l with
  | nil => rfl
  | cons x l ih => simp [List.flatMap_cons, List.filter_append, ih]
theorem besU_keep (l : List Ev) (parts : Int) (i n : Nat) (a : Ev) (hn : n ≤ l.length) (hi : i < n) : (besU l parts i a l.length).filter (keepB n) = besU (l.take n) parts i a n := by
  have e1 : besU l parts i a l.length = l.zipIdx.flatMap (besideK parts i a) := by unfold besU; rw [List.take_length]
  have e2 : besU (l.take n) parts i a n = (l.take n).zipIdx.flatMap (besideK parts i a) := by unfold besU; rw [List.take_take, Nat.min_self]
  rw [e1, e2, zipIdx_split l n hn, List.flatMap_append, List.filter_append, filter_flatMap, filter_flatMap]
  have h1 : ((l.drop n).zipIdx n).flatMap (fun x => (besideK parts i a x).filter (keepB n)) = [] := by
    rw [List.flatMap_eq_nil_iff]
    rintro ⟨e, k⟩ hk
    have hk1 := (List.mem_zipIdx hk).1
    rw [List.filter_eq_nil_iff]
    intro b hb
    unfold besideK at hb
    split at hb
    · have := (besideL_at _ _ _ _ b hb).2
      simp only [keepB, this]
      simp
      omega
    · cases hb
  have h2 : ((l.take n).zipIdx).flatMap (fun x => (besideK parts i a x).filter (keepB n)) = ((l.take n).zipIdx).flatMap (besideK parts i a) := by
    apply flatMap_same
    rintro ⟨e, k⟩ hk
    have hk1 := (List.mem_zipIdx hk).2.1
    rw [List.filter_eq_self]
    intro b hb
    unfold besideK at hb
    split at hb
    · have h3 := besideL_at _ _ _ _ b hb
      have hk2 : k < n := by simpa [hn] using hk1
      simp only [keepB, h3.1, h3.2, Bool.and_eq_true, decide_eq_true_eq]
      omega
    · cases hb
  rw [h1, h2, List.append_nil]
theorem oneU_keep {l : List Ev} {n : Nat} (h : TailOk l n) (hn : n ≤ l.length) (starts : List (List (Int × Int))) (a : Ev) (i : Nat) (hi : i < n) : (oneU l starts (a, i)).filter (keepB n) = oneU (l.take n) starts (a, i) := by
  unfold oneU
  rw [List.filter_append, selfL_take h hn]
  congr 1
  · rw [List.filter_eq_self]
    intro b hb
    have := selfL_at _ _ _ _ b hb
    simp only [keepB, this.1, this.2, Bool.and_eq_true, decide_eq_true_eq]
    omega
  · split
    · rw [besU_keep l _ i n a hn hi]
      congr 1
      simp [hn]
    · rfl
theorem oneU_drop (l : List Ev) (starts : List (List (Int × Int))) (a : Ev) (i n : Nat) (hi : n ≤ i) : (oneU l starts (a, i)).filter (keepB n) = [] := by
  rw [List.filter_eq_nil_iff]
  intro b hb
  have hat : b.at_ = i := by
    unfold oneU at hb
    rw [List.mem_append] at hb
    rcases hb with hb | hb
    · exact (selfL_at _ _ _ _ b hb).1
    · split at hb
      · unfold besU at hb
        obtain ⟨⟨e, k⟩, _, hb⟩ := List.mem_flatMap.1 hb
        unfold besideK at hb
        split at hb
        · exact (besideL_at _ _ _ _ b hb).1
        · cases hb
      · cases hb
  simp only [keepB, hat]
  simp
  omega
theorem versions_less {l : List Ev} {n : Nat} (h : TailOk l n) (hn : n ≤ l.length) (starts : List (List (Int × Int))) : versionsL starts (l.take n) = (versionsL starts l).filter (keepB n) := by
  unfold versionsL
  rw [sortB_filter]
  congr 1
  have hl : (l.take n).length = n := by simp [hn]
  have e1 : allU l starts l.length = l.zipIdx.flatMap (oneU l starts) := by unfold allU; rw [List.take_length]
  have e2 : allU (l.take n) starts (l.take n).length = (l.take n).zipIdx.flatMap (oneU (l.take n) starts) := by unfold allU; rw [List.take_length]
  rw [e1, e2, zipIdx_split l n hn, List.flatMap_append, List.filter_append, filter_flatMap, filter_flatMap]
  have h1 : ((l.drop n).zipIdx n).flatMap (fun x => (oneU l starts x).filter (keepB n)) = [] := by
    rw [List.flatMap_eq_nil_iff]
    rintro ⟨e, k⟩ hk
    exact oneU_drop l starts e k n (List.mem_zipIdx hk).1
  rw [h1, List.append_nil]
  symm
  apply flatMap_same
  rintro ⟨e, k⟩ hk
  have hk1 := (List.mem_zipIdx hk).2.1
  exact oneU_keep h hn starts e k (by simpa [hn] using hk1)
end Go.Proofs.Ytpnegacfanbcfaa

/- The law of JudgeVersions, plain: the blames of each event sorted by themselves, one event behind the other, are the blames sorted all at once. -/
namespace Go.Proofs.Ytpnegacfanbcfaa
open Go.RowKit Go.Maps

/-- what the document's judge answers. -/
def refAllL (l : List Ev) (starts : List (List (Int × Int))) (j : Nat) : List Blm := (l.take j).zipIdx.flatMap fun p => sortB (oneU l starts p)
theorem oneU_at (l : List Ev) (starts : List (List (Int × Int))) (p : Ev × Nat) : ∀ x ∈ oneU l starts p, x.at_ = (p.2 : Int) := by
  intro x hx
  unfold oneU at hx
  rcases List.mem_append.1 hx with h | h
  · exact (selfL_at _ _ _ _ x h).1
  · split at h
    · unfold besU at h
      obtain ⟨q, _, hq⟩ := List.mem_flatMap.1 h
      unfold besideK at hq
      split at hq
      · exact (besideL_at _ _ _ _ x hq).1
      · cases hq
    · cases h
theorem perm_flat {α β : Type} {f g : α → List β} : ∀ {l : List α}, (∀ x ∈ l, (f x).Perm (g x)) → (l.flatMap f).Perm (l.flatMap g)
  | [], _ => List.Perm.refl _
  | x :: l, h => by
    simp only [List.flatMap_cons]
    exact (h x (List.mem_cons_self ..)).append (perm_flat fun y hy => h y (List.mem_cons_of_mem _ hy))
theorem pair_flat {l : List Ev} {starts : List (List (Int × Int))} : ∀ (q : List (Ev × Nat)), q.Pairwise (fun a b => a.2 < b.2) → (q.flatMap fun p => sortB (oneU l starts p)).Pairwise fun a b => leB a b = true
  | [], _ => List.Pairwise.nil
  | p :: q, h => by
    rw [List.pairwise_cons] at h
    simp only [List.flatMap_cons]
    rw [List.pairwise_append]
    refine ⟨sortB_pair _, pair_flat q h.2, fun x hx y hy => ?_⟩
    have h1 := oneU_at l starts p x ((sortB_perm _).mem_iff.1 hx)
    obtain ⟨p2, hp2, hy2⟩ := List.mem_flatMap.1 hy
    have h2 := oneU_at l starts p2 y ((sortB_perm _).mem_iff.1 hy2)
    have h3 := h.1 p2 hp2
    simp only [leB, Bool.not_eq_true', decide_eq_false_iff_not]
    unfold ltB
    omega
theorem zip_pair {α : Type} (l : List α) (n : Nat) : (l.zipIdx n).Pairwise (fun a b => a.2 < b.2) := by
  induction l generalizing n with
  | nil => exact List.Pairwise.nil
  | cons x l ih =>
    rw [List.zipIdx_cons, List.pairwise_cons]
    refine ⟨fun y hy => ?_, ih (n + 1)⟩
    have := List.le_snd_of_mem_zipIdx hy
    show n < y.2
    omega
theorem refAll_is (l : List Ev) (starts : List (List (Int × Int))) : refAllL l starts l.length = versionsL starts l := by
  unfold versionsL
  refine List.Perm.eq_of_pairwise (le := fun a b => leB a b = true) (fun a b _ _ h1 h2 => leB_anti a b h1 h2) (pair_flat _ (zip_pair _ _)) (sortB_pair _) ?_
  refine List.Perm.trans ?_ (sortB_perm _).symm
  exact perm_flat fun x _ => sortB_perm _
end Go.Proofs.Ytpnegacfanbcfaa

/- An insertion sort of blames, plain: what stands from a place on, step by step. -/
namespace Go.Proofs.Ytpnegacfanbcfaa

/-- the test of the document's sort: does a, which stands ahead, go behind b? -/
def upB (a b : Blm) : Bool := decide (b.wit < a.wit) || (decide (a.wit = b.wit) && decide (b.why < a.why))
theorem leB_of_up {a b : Blm} (h : a.at_ = b.at_) (hu : upB a b = true) : leB b a = true := by
  simp only [upB, Bool.or_eq_true, Bool.and_eq_true, decide_eq_true_eq] at hu
  simp only [leB, Bool.not_eq_true', decide_eq_false_iff_not]
  unfold ltB
  omega
theorem leB_of_not_up {a b : Blm} (h : a.at_ = b.at_) (hu : upB a b = false) : leB a b = true := by
  simp only [upB, Bool.or_eq_false_iff, Bool.and_eq_false_iff, decide_eq_false_iff_not] at hu
  simp only [leB, Bool.not_eq_true', decide_eq_false_iff_not]
  unfold ltB
  omega
def SortedB (l : List Blm) : Prop := l.Pairwise fun a b => leB a b = true
/-- within: x goes down through s; t stands behind it. -/
structure InsSt (pre chunk rest s t : List Blm) (x : Blm) (M : List Blm) : Prop where
  eq : M = pre ++ (s ++ x :: t) ++ rest
  srt : SortedB (s ++ t)
  low : ∀ y ∈ t, leB x y = true
  perm : ((s ++ x :: t) ++ rest).Perm chunk
/-- between: s is sorted, rest stands as it stood. -/
structure SrtSt (pre chunk s rest M : List Blm) : Prop where
  eq : M = pre ++ s ++ rest
  srt : SortedB s
  perm : (s ++ rest).Perm chunk
section
variable {pre chunk rest s t M : List Blm} {x y : Blm}
theorem SrtSt.start (x : Blm) (l : List Blm) : SrtSt pre (x :: l) [x] l (pre ++ x :: l) :=
  ⟨by simp, List.pairwise_singleton _ _, by simp⟩
theorem SrtSt.done (h : SrtSt pre chunk s [] M) : M = pre ++ sortB chunk := by
  have hp := h.perm
  rw [List.append_nil] at hp
  rw [h.eq, List.append_nil]
  congr 1
  exact List.Perm.eq_of_pairwise (le := fun a b => leB a b = true) (fun a b _ _ h1 h2 => leB_anti a b h1 h2) h.srt (sortB_pair _) (hp.trans (sortB_perm _).symm)
theorem SrtSt.next (h : SrtSt pre chunk s (x :: rest) M) : InsSt pre chunk rest s [] x M :=
  ⟨by rw [h.eq]; simp, by rw [List.append_nil]; exact h.srt, (fun _ hy => by cases hy), by simpa using h.perm⟩
theorem SrtSt.len (h : SrtSt pre chunk s rest M) : M.length = pre.length + s.length + rest.length := by rw [h.eq]; simp [Nat.add_assoc]
theorem SrtSt.len2 (h : SrtSt pre chunk s rest M) : chunk.length = s.length + rest.length := by rw [← h.perm.length_eq]; simp
theorem InsSt.len (h : InsSt pre chunk rest s t x M) : M.length = pre.length + s.length + 1 + t.length + rest.length := by
  rw [h.eq]
  simp
  omega
theorem InsSt.at_eq {a : Int} (ha : ∀ z ∈ chunk, z.at_ = a) (h : InsSt pre chunk rest s t x M) : x.at_ = a ∧ ∀ z ∈ s, z.at_ = a :=
  ⟨ha x (h.perm.mem_iff.1 (by simp)), fun z hz => ha z (h.perm.mem_iff.1 (by simp [hz]))⟩
theorem InsSt.down {a : Int} (ha : ∀ z ∈ chunk, z.at_ = a) (h : InsSt pre chunk rest (s ++ [y]) t x M) (hu : upB y x = true) : InsSt pre chunk rest s (y :: t) x (pre ++ (s ++ x :: y :: t) ++ rest) := by
  have hx := h.at_eq ha
  refine ⟨rfl, ?_, ?_, ?_⟩
  · have := h.srt
    simpa using this
  · intro z hz
    rcases List.mem_cons.1 hz with rfl | hz
    · exact leB_of_up (by rw [hx.1]; exact hx.2 _ (by simp)) hu
    · exact h.low z hz
  · refine List.Perm.trans ?_ h.perm
    refine List.Perm.append_right _ ?_
    rw [List.append_assoc]
    exact List.Perm.append_left _ (List.Perm.swap ..)
theorem InsSt.put_nil (h : InsSt pre chunk rest [] t x M) : SrtSt pre chunk (x :: t) rest M := by
  refine ⟨by simpa using h.eq, ?_, by simpa using h.perm⟩
  have := h.srt
  exact List.pairwise_cons.2 ⟨h.low, by simpa [SortedB] using this⟩
theorem InsSt.put {a : Int} (ha : ∀ z ∈ chunk, z.at_ = a) (h : InsSt pre chunk rest (s ++ [y]) t x M) (hu : upB y x = false) : SrtSt pre chunk (s ++ [y] ++ x :: t) rest M := by
  have hx := h.at_eq ha
  have hyx : leB y x = true := leB_of_not_up (by rw [hx.1]; exact hx.2 _ (by simp)) hu
  have hs := h.srt
  unfold SortedB at hs
  rw [List.pairwise_append] at hs
  refine ⟨h.eq, ?_, h.perm⟩
  unfold SortedB
  rw [List.pairwise_append]
  refine ⟨hs.1, List.pairwise_cons.2 ⟨h.low, hs.2.1⟩, fun u hm z hz => ?_⟩
  rcases List.mem_cons.1 hz with rfl | hz
  · rcases List.mem_append.1 hm with hm | hm
    · have h1 := hs.1
      rw [List.pairwise_append] at h1
      exact leB_trans _ _ _ (h1.2.2 u hm y (by simp)) hyx
    · obtain rfl : u = y := by simpa using hm
      exact hyx
  · exact hs.2.2 u hm z hz
/-- what stands at the two places, and what stands when they have changed places. -/
theorem InsSt.gets (h : InsSt pre chunk rest (s ++ [y]) t x M) :
    M[pre.length + s.length]? = some y ∧ M[pre.length + s.length + 1]? = some x ∧ (M.set (pre.length + s.length) x).set (pre.length + s.length + 1) y = pre ++ (s ++ x :: y :: t) ++ rest := by
  have e : M = (pre ++ s) ++ y :: x :: (t ++ rest) := by rw [h.eq]; simp
  have hl : pre.length + s.length = (pre ++ s).length := by simp
  refine ⟨?_, ?_, ?_⟩
  · rw [e, hl, List.getElem?_append_right (Nat.le_refl _)]; simp
  · rw [e, hl, List.getElem?_append_right (by omega)]; simp
  · rw [e, hl, List.set_append_right _ _ (by omega), Nat.sub_self, List.set_cons_zero, List.set_append_right _ _ (by omega)]
    simp
end
end Go.Proofs.Ytpnegacfanbcfaa
