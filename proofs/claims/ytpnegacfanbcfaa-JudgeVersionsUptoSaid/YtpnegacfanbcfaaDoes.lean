/- What a deed alone does (judge.does, skeinref20.alone): the contract for every deed. No condition. Printed by gen_does.py. -/
import Derived.Test.YtpnegacfanbcfaaWords
namespace Go.Proofs.Ytpnegacfanbcfaa
open Go.RowKit

set_option maxHeartbeats 1000000 in
theorem jdoes1 (b e a bb c n v : Int) (ok : Bool) (w : World) :
    Calls Try.prog 50 #[.agg #[.int .i64 b, .int .i64 e, .int .i64 1, .int .i64 a, .int .i64 bb, .int .i64 c, .int .i64 n, .bool ok], .int .i64 v] w fun r w' => r = .returned (.tuple #[.int .i64 (v), .bool (decide (e = 0) || (decide ((v) = n) && (false == ok)))]) ∧ Below w.heap.size w w' := by
  by_cases he : e = 0
  · subst he
    go_enter Try.func50, Try.ntmps50
    go_wp2
    go_quiet (fail)
    all_goals
      go_wp2
      go_ret2
      exact ⟨by simp, by repeat' first | exact Below.refl _ _ | refine below_drewN ?_ _ | refine Below.alloc ?_ (by simp) _⟩
  · have he' : (e == 0) = false := by simpa using he
    by_cases hn : (v) = n
    · subst hn
      clear he
      go_enter Try.func50, Try.ntmps50
      go_wp2
      go_quiet (fail)
      all_goals
        go_wp2
        go_ret2
        exact ⟨ret_int_bool rfl (by simp_all), by repeat' first | exact Below.refl _ _ | refine below_drewN ?_ _ | refine Below.alloc ?_ (by simp) _⟩
    · have hn' : ((v) == n) = false := by simpa using hn
      clear hn he
      go_enter Try.func50, Try.ntmps50
      go_wp2
      go_quiet (fail)
      all_goals
        go_wp2
        go_ret2
        exact ⟨ret_int_bool rfl (by simp_all), by repeat' first | exact Below.refl _ _ | refine below_drewN ?_ _ | refine Below.alloc ?_ (by simp) _⟩

set_option maxHeartbeats 1000000 in
theorem jdoes2 (b e a bb c n v : Int) (ok : Bool) (w : World) :
    Calls Try.prog 50 #[.agg #[.int .i64 b, .int .i64 e, .int .i64 2, .int .i64 a, .int .i64 bb, .int .i64 c, .int .i64 n, .bool ok], .int .i64 v] w fun r w' => r = .returned (.tuple #[.int .i64 (bb), .bool (decide (e = 0) || (decide ((0) = n) && (false == ok)))]) ∧ Below w.heap.size w w' := by
  by_cases he : e = 0
  · subst he
    go_enter Try.func50, Try.ntmps50
    go_wp2
    go_quiet (fail)
    all_goals
      go_wp2
      go_ret2
      exact ⟨by simp, by repeat' first | exact Below.refl _ _ | refine below_drewN ?_ _ | refine Below.alloc ?_ (by simp) _⟩
  · have he' : (e == 0) = false := by simpa using he
    by_cases hn : (0) = n
    · subst hn
      clear he
      go_enter Try.func50, Try.ntmps50
      go_wp2
      go_quiet (fail)
      all_goals
        go_wp2
        go_ret2
        exact ⟨ret_int_bool rfl (by simp_all), by repeat' first | exact Below.refl _ _ | refine below_drewN ?_ _ | refine Below.alloc ?_ (by simp) _⟩
    · have hn' : ((0) == n) = false := by simpa using hn
      clear hn he
      go_enter Try.func50, Try.ntmps50
      go_wp2
      go_quiet (fail)
      all_goals
        go_wp2
        go_ret2
        exact ⟨ret_int_bool rfl (by simp_all), by repeat' first | exact Below.refl _ _ | refine below_drewN ?_ _ | refine Below.alloc ?_ (by simp) _⟩

set_option maxHeartbeats 1000000 in
theorem jdoes3 (b e a bb c n v : Int) (ok : Bool) (w : World) :
    Calls Try.prog 50 #[.agg #[.int .i64 b, .int .i64 e, .int .i64 3, .int .i64 a, .int .i64 bb, .int .i64 c, .int .i64 n, .bool ok], .int .i64 v] w fun r w' => r = .returned (.tuple #[.int .i64 (wrap64 (v + bb)), .bool (decide (e = 0) || (decide ((wrap64 (v + bb)) = n) && (false == ok)))]) ∧ Below w.heap.size w w' := by
  by_cases he : e = 0
  · subst he
    go_enter Try.func50, Try.ntmps50
    go_wp2
    go_quiet (fail)
    all_goals
      go_wp2
      go_ret2
      exact ⟨by simp, by repeat' first | exact Below.refl _ _ | refine below_drewN ?_ _ | refine Below.alloc ?_ (by simp) _⟩
  · have he' : (e == 0) = false := by simpa using he
    by_cases hn : (wrap64 (v + bb)) = n
    · subst hn
      clear he
      go_enter Try.func50, Try.ntmps50
      go_wp2
      go_quiet (fail)
      all_goals
        go_wp2
        go_ret2
        exact ⟨ret_int_bool rfl (by simp_all), by repeat' first | exact Below.refl _ _ | refine below_drewN ?_ _ | refine Below.alloc ?_ (by simp) _⟩
    · have hn' : ((wrap64 (v + bb)) == n) = false := by simpa using hn
      clear hn he
      go_enter Try.func50, Try.ntmps50
      go_wp2
      go_quiet (fail)
      all_goals
        go_wp2
        go_ret2
        exact ⟨ret_int_bool rfl (by simp_all), by repeat' first | exact Below.refl _ _ | refine below_drewN ?_ _ | refine Below.alloc ?_ (by simp) _⟩

set_option maxHeartbeats 1000000 in
theorem jdoes4 (b e a bb c n v : Int) (ok : Bool) (w : World) :
    Calls Try.prog 50 #[.agg #[.int .i64 b, .int .i64 e, .int .i64 4, .int .i64 a, .int .i64 bb, .int .i64 c, .int .i64 n, .bool ok], .int .i64 v] w fun r w' => r = .returned (.tuple #[.int .i64 (bb), .bool (decide (e = 0) || (decide ((v) = n) && (false == ok)))]) ∧ Below w.heap.size w w' := by
  by_cases he : e = 0
  · subst he
    go_enter Try.func50, Try.ntmps50
    go_wp2
    go_quiet (fail)
    go_wp2
    go_quiet (fail)
    all_goals
      go_wp2
      go_ret2
      exact ⟨by simp, by repeat' first | exact Below.refl _ _ | refine below_drewN ?_ _ | refine Below.alloc ?_ (by simp) _⟩
  · have he' : (e == 0) = false := by simpa using he
    by_cases hn : (v) = n
    · subst hn
      clear he
      go_enter Try.func50, Try.ntmps50
      go_wp2
      go_quiet (fail)
      go_wp2
      go_quiet (fail)
      all_goals
        go_wp2
        go_ret2
        exact ⟨ret_int_bool rfl (by simp_all), by repeat' first | exact Below.refl _ _ | refine below_drewN ?_ _ | refine Below.alloc ?_ (by simp) _⟩
    · have hn' : ((v) == n) = false := by simpa using hn
      clear hn he
      go_enter Try.func50, Try.ntmps50
      go_wp2
      go_quiet (fail)
      go_wp2
      go_quiet (fail)
      all_goals
        go_wp2
        go_ret2
        exact ⟨ret_int_bool rfl (by simp_all), by repeat' first | exact Below.refl _ _ | refine below_drewN ?_ _ | refine Below.alloc ?_ (by simp) _⟩

set_option maxHeartbeats 1000000 in
theorem jdoes5eq (b e a c n v : Int) (ok : Bool) (w : World) :
    Calls Try.prog 50 #[.agg #[.int .i64 b, .int .i64 e, .int .i64 5, .int .i64 a, .int .i64 v, .int .i64 c, .int .i64 n, .bool ok], .int .i64 v] w fun r w' => r = .returned (.tuple #[.int .i64 (c), .bool (decide (e = 0) || (decide ((0) = n) && (true == ok)))]) ∧ Below w.heap.size w w' := by
  by_cases he : e = 0
  · subst he
    go_enter Try.func50, Try.ntmps50
    go_wp2
    go_quiet (fail)
    all_goals
      go_wp2
      go_ret2
      exact ⟨by simp, by repeat' first | exact Below.refl _ _ | refine below_drewN ?_ _ | refine Below.alloc ?_ (by simp) _⟩
  · have he' : (e == 0) = false := by simpa using he
    by_cases hn : (0) = n
    · subst hn
      clear he
      go_enter Try.func50, Try.ntmps50
      go_wp2
      go_quiet (fail)
      all_goals
        go_wp2
        go_ret2
        exact ⟨ret_int_bool rfl (by simp_all), by repeat' first | exact Below.refl _ _ | refine below_drewN ?_ _ | refine Below.alloc ?_ (by simp) _⟩
    · have hn' : ((0) == n) = false := by simpa using hn
      clear hn he
      go_enter Try.func50, Try.ntmps50
      go_wp2
      go_quiet (fail)
      all_goals
        go_wp2
        go_ret2
        exact ⟨ret_int_bool rfl (by simp_all), by repeat' first | exact Below.refl _ _ | refine below_drewN ?_ _ | refine Below.alloc ?_ (by simp) _⟩

set_option maxHeartbeats 1000000 in
theorem jdoes5ne (b e a bb c n v : Int) (ok : Bool) (w : World) (hs : (v == bb) = false) :
    Calls Try.prog 50 #[.agg #[.int .i64 b, .int .i64 e, .int .i64 5, .int .i64 a, .int .i64 bb, .int .i64 c, .int .i64 n, .bool ok], .int .i64 v] w fun r w' => r = .returned (.tuple #[.int .i64 (v), .bool (decide (e = 0) || (decide ((0) = n) && (false == ok)))]) ∧ Below w.heap.size w w' := by
  by_cases he : e = 0
  · subst he
    go_enter Try.func50, Try.ntmps50
    go_wp2
    go_quiet (fail)
    all_goals
      go_wp2
      go_ret2
      exact ⟨by simp, by repeat' first | exact Below.refl _ _ | refine below_drewN ?_ _ | refine Below.alloc ?_ (by simp) _⟩
  · have he' : (e == 0) = false := by simpa using he
    by_cases hn : (0) = n
    · subst hn
      clear he
      go_enter Try.func50, Try.ntmps50
      go_wp2
      go_quiet (fail)
      all_goals
        go_wp2
        go_ret2
        exact ⟨ret_int_bool rfl (by simp_all), by repeat' first | exact Below.refl _ _ | refine below_drewN ?_ _ | refine Below.alloc ?_ (by simp) _⟩
    · have hn' : ((0) == n) = false := by simpa using hn
      clear hn he
      go_enter Try.func50, Try.ntmps50
      go_wp2
      go_quiet (fail)
      all_goals
        go_wp2
        go_ret2
        exact ⟨ret_int_bool rfl (by simp_all), by repeat' first | exact Below.refl _ _ | refine below_drewN ?_ _ | refine Below.alloc ?_ (by simp) _⟩

set_option maxHeartbeats 1000000 in
theorem jdoes6lt (b e a bb c n v : Int) (ok : Bool) (w : World) (hs : v < bb) :
    Calls Try.prog 50 #[.agg #[.int .i64 b, .int .i64 e, .int .i64 6, .int .i64 a, .int .i64 bb, .int .i64 c, .int .i64 n, .bool ok], .int .i64 v] w fun r w' => r = .returned (.tuple #[.int .i64 (bb), .bool (decide (e = 0) || (decide ((bb) = n) && (false == ok)))]) ∧ Below w.heap.size w w' := by
  by_cases he : e = 0
  · subst he
    go_enter Try.func50, Try.ntmps50
    go_wp2
    go_quiet (fail)
    all_goals
      go_wp2
      go_ret2
      exact ⟨by simp, by repeat' first | exact Below.refl _ _ | refine below_drewN ?_ _ | refine Below.alloc ?_ (by simp) _⟩
  · have he' : (e == 0) = false := by simpa using he
    by_cases hn : (bb) = n
    · subst hn
      clear he
      go_enter Try.func50, Try.ntmps50
      go_wp2
      go_quiet (fail)
      all_goals
        go_wp2
        go_ret2
        exact ⟨ret_int_bool rfl (by simp_all), by repeat' first | exact Below.refl _ _ | refine below_drewN ?_ _ | refine Below.alloc ?_ (by simp) _⟩
    · have hn' : ((bb) == n) = false := by simpa using hn
      clear hn he
      go_enter Try.func50, Try.ntmps50
      go_wp2
      go_quiet (fail)
      all_goals
        go_wp2
        go_ret2
        exact ⟨ret_int_bool rfl (by simp_all), by repeat' first | exact Below.refl _ _ | refine below_drewN ?_ _ | refine Below.alloc ?_ (by simp) _⟩

set_option maxHeartbeats 1000000 in
theorem jdoes6gt (b e a bb c n v : Int) (ok : Bool) (w : World) (hs : bb < v) :
    Calls Try.prog 50 #[.agg #[.int .i64 b, .int .i64 e, .int .i64 6, .int .i64 a, .int .i64 bb, .int .i64 c, .int .i64 n, .bool ok], .int .i64 v] w fun r w' => r = .returned (.tuple #[.int .i64 (v), .bool (decide (e = 0) || (decide ((v) = n) && (false == ok)))]) ∧ Below w.heap.size w w' := by
  by_cases he : e = 0
  · subst he
    go_enter Try.func50, Try.ntmps50
    go_wp2
    go_quiet (fail)
    all_goals
      go_wp2
      go_ret2
      exact ⟨by simp, by repeat' first | exact Below.refl _ _ | refine below_drewN ?_ _ | refine Below.alloc ?_ (by simp) _⟩
  · have he' : (e == 0) = false := by simpa using he
    by_cases hn : (v) = n
    · subst hn
      clear he
      go_enter Try.func50, Try.ntmps50
      go_wp2
      go_quiet (fail)
      all_goals
        go_wp2
        go_ret2
        exact ⟨ret_int_bool rfl (by simp_all), by repeat' first | exact Below.refl _ _ | refine below_drewN ?_ _ | refine Below.alloc ?_ (by simp) _⟩
    · have hn' : ((v) == n) = false := by simpa using hn
      clear hn he
      go_enter Try.func50, Try.ntmps50
      go_wp2
      go_quiet (fail)
      all_goals
        go_wp2
        go_ret2
        exact ⟨ret_int_bool rfl (by simp_all), by repeat' first | exact Below.refl _ _ | refine below_drewN ?_ _ | refine Below.alloc ?_ (by simp) _⟩

set_option maxHeartbeats 1000000 in
theorem jdoes6eq (b e a c n v : Int) (ok : Bool) (w : World) :
    Calls Try.prog 50 #[.agg #[.int .i64 b, .int .i64 e, .int .i64 6, .int .i64 a, .int .i64 v, .int .i64 c, .int .i64 n, .bool ok], .int .i64 v] w fun r w' => r = .returned (.tuple #[.int .i64 (v), .bool (decide (e = 0) || (decide ((v) = n) && (false == ok)))]) ∧ Below w.heap.size w w' := by
  by_cases he : e = 0
  · subst he
    go_enter Try.func50, Try.ntmps50
    go_wp2
    go_quiet (fail)
    all_goals
      go_wp2
      go_ret2
      exact ⟨by simp, by repeat' first | exact Below.refl _ _ | refine below_drewN ?_ _ | refine Below.alloc ?_ (by simp) _⟩
  · have he' : (e == 0) = false := by simpa using he
    by_cases hn : (v) = n
    · subst hn
      clear he
      go_enter Try.func50, Try.ntmps50
      go_wp2
      go_quiet (fail)
      all_goals
        go_wp2
        go_ret2
        exact ⟨ret_int_bool rfl (by simp_all), by repeat' first | exact Below.refl _ _ | refine below_drewN ?_ _ | refine Below.alloc ?_ (by simp) _⟩
    · have hn' : ((v) == n) = false := by simpa using hn
      clear hn he
      go_enter Try.func50, Try.ntmps50
      go_wp2
      go_quiet (fail)
      all_goals
        go_wp2
        go_ret2
        exact ⟨ret_int_bool rfl (by simp_all), by repeat' first | exact Below.refl _ _ | refine below_drewN ?_ _ | refine Below.alloc ?_ (by simp) _⟩

set_option maxHeartbeats 1000000 in
theorem jdoes7lt (b e a bb c n v : Int) (ok : Bool) (w : World) (hs : v < bb) :
    Calls Try.prog 50 #[.agg #[.int .i64 b, .int .i64 e, .int .i64 7, .int .i64 a, .int .i64 bb, .int .i64 c, .int .i64 n, .bool ok], .int .i64 v] w fun r w' => r = .returned (.tuple #[.int .i64 (v), .bool (decide (e = 0) || (decide ((v) = n) && (false == ok)))]) ∧ Below w.heap.size w w' := by
  by_cases he : e = 0
  · subst he
    go_enter Try.func50, Try.ntmps50
    go_wp2
    go_quiet (fail)
    all_goals
      go_wp2
      go_ret2
      exact ⟨by simp, by repeat' first | exact Below.refl _ _ | refine below_drewN ?_ _ | refine Below.alloc ?_ (by simp) _⟩
  · have he' : (e == 0) = false := by simpa using he
    by_cases hn : (v) = n
    · subst hn
      clear he
      go_enter Try.func50, Try.ntmps50
      go_wp2
      go_quiet (fail)
      all_goals
        go_wp2
        go_ret2
        exact ⟨ret_int_bool rfl (by simp_all), by repeat' first | exact Below.refl _ _ | refine below_drewN ?_ _ | refine Below.alloc ?_ (by simp) _⟩
    · have hn' : ((v) == n) = false := by simpa using hn
      clear hn he
      go_enter Try.func50, Try.ntmps50
      go_wp2
      go_quiet (fail)
      all_goals
        go_wp2
        go_ret2
        exact ⟨ret_int_bool rfl (by simp_all), by repeat' first | exact Below.refl _ _ | refine below_drewN ?_ _ | refine Below.alloc ?_ (by simp) _⟩

set_option maxHeartbeats 1000000 in
theorem jdoes7gt (b e a bb c n v : Int) (ok : Bool) (w : World) (hs : bb < v) :
    Calls Try.prog 50 #[.agg #[.int .i64 b, .int .i64 e, .int .i64 7, .int .i64 a, .int .i64 bb, .int .i64 c, .int .i64 n, .bool ok], .int .i64 v] w fun r w' => r = .returned (.tuple #[.int .i64 (bb), .bool (decide (e = 0) || (decide ((bb) = n) && (false == ok)))]) ∧ Below w.heap.size w w' := by
  by_cases he : e = 0
  · subst he
    go_enter Try.func50, Try.ntmps50
    go_wp2
    go_quiet (fail)
    all_goals
      go_wp2
      go_ret2
      exact ⟨by simp, by repeat' first | exact Below.refl _ _ | refine below_drewN ?_ _ | refine Below.alloc ?_ (by simp) _⟩
  · have he' : (e == 0) = false := by simpa using he
    by_cases hn : (bb) = n
    · subst hn
      clear he
      go_enter Try.func50, Try.ntmps50
      go_wp2
      go_quiet (fail)
      all_goals
        go_wp2
        go_ret2
        exact ⟨ret_int_bool rfl (by simp_all), by repeat' first | exact Below.refl _ _ | refine below_drewN ?_ _ | refine Below.alloc ?_ (by simp) _⟩
    · have hn' : ((bb) == n) = false := by simpa using hn
      clear hn he
      go_enter Try.func50, Try.ntmps50
      go_wp2
      go_quiet (fail)
      all_goals
        go_wp2
        go_ret2
        exact ⟨ret_int_bool rfl (by simp_all), by repeat' first | exact Below.refl _ _ | refine below_drewN ?_ _ | refine Below.alloc ?_ (by simp) _⟩

set_option maxHeartbeats 1000000 in
theorem jdoes7eq (b e a c n v : Int) (ok : Bool) (w : World) :
    Calls Try.prog 50 #[.agg #[.int .i64 b, .int .i64 e, .int .i64 7, .int .i64 a, .int .i64 v, .int .i64 c, .int .i64 n, .bool ok], .int .i64 v] w fun r w' => r = .returned (.tuple #[.int .i64 (v), .bool (decide (e = 0) || (decide ((v) = n) && (false == ok)))]) ∧ Below w.heap.size w w' := by
  by_cases he : e = 0
  · subst he
    go_enter Try.func50, Try.ntmps50
    go_wp2
    go_quiet (fail)
    all_goals
      go_wp2
      go_ret2
      exact ⟨by simp, by repeat' first | exact Below.refl _ _ | refine below_drewN ?_ _ | refine Below.alloc ?_ (by simp) _⟩
  · have he' : (e == 0) = false := by simpa using he
    by_cases hn : (v) = n
    · subst hn
      clear he
      go_enter Try.func50, Try.ntmps50
      go_wp2
      go_quiet (fail)
      all_goals
        go_wp2
        go_ret2
        exact ⟨ret_int_bool rfl (by simp_all), by repeat' first | exact Below.refl _ _ | refine below_drewN ?_ _ | refine Below.alloc ?_ (by simp) _⟩
    · have hn' : ((v) == n) = false := by simpa using hn
      clear hn he
      go_enter Try.func50, Try.ntmps50
      go_wp2
      go_quiet (fail)
      all_goals
        go_wp2
        go_ret2
        exact ⟨ret_int_bool rfl (by simp_all), by repeat' first | exact Below.refl _ _ | refine below_drewN ?_ _ | refine Below.alloc ?_ (by simp) _⟩

set_option maxHeartbeats 1000000 in
theorem jdoesO (b e kind a bb c n v : Int) (ok : Bool) (w : World) (h1 : (kind == 1) = false) (h2 : (kind == 2) = false) (h3 : (kind == 3) = false) (h4 : (kind == 4) = false) (h5 : (kind == 5) = false) (h6 : (kind == 6) = false) (h7 : (kind == 7) = false) :
    Calls Try.prog 50 #[.agg #[.int .i64 b, .int .i64 e, .int .i64 kind, .int .i64 a, .int .i64 bb, .int .i64 c, .int .i64 n, .bool ok], .int .i64 v] w fun r w' => r = .returned (.tuple #[.int .i64 (v), .bool (decide (e = 0) || (decide ((0) = n) && (false == ok)))]) ∧ Below w.heap.size w w' := by
  by_cases he : e = 0
  · subst he
    go_enter Try.func50, Try.ntmps50
    go_wp2
    go_quiet (fail)
    all_goals
      go_wp2
      go_ret2
      exact ⟨by simp, by repeat' first | exact Below.refl _ _ | refine below_drewN ?_ _ | refine Below.alloc ?_ (by simp) _⟩
  · have he' : (e == 0) = false := by simpa using he
    by_cases hn : (0) = n
    · subst hn
      clear he
      go_enter Try.func50, Try.ntmps50
      go_wp2
      go_quiet (fail)
      all_goals
        go_wp2
        go_ret2
        exact ⟨ret_int_bool rfl (by simp_all), by repeat' first | exact Below.refl _ _ | refine below_drewN ?_ _ | refine Below.alloc ?_ (by simp) _⟩
    · have hn' : ((0) == n) = false := by simpa using hn
      clear hn he
      go_enter Try.func50, Try.ntmps50
      go_wp2
      go_quiet (fail)
      all_goals
        go_wp2
        go_ret2
        exact ⟨ret_int_bool rfl (by simp_all), by repeat' first | exact Below.refl _ _ | refine below_drewN ?_ _ | refine Below.alloc ?_ (by simp) _⟩

/-- what the function answers of a deed alone. -/
theorem judgeDoes (d : Deed) (v : Int) (w : World) :
    Calls Try.prog 50 #[d.val, .int .i64 v] w fun r w' => r = .returned (.tuple #[.int .i64 (doesNext d v), .bool (doesOk d v)]) ∧ Below w.heap.size w w' := by
  obtain ⟨b, e, kind, a, bb, c, n, ok⟩ := d
  simp only [Deed.val]
  by_cases h1 : kind = 1
  · subst h1
    exact (jdoes1 b e a bb c n v ok w).mono fun r w' h => ⟨h.1.trans (ret_int_bool (by simp [doesNext]) (by simp [doesOk, doesN, doesIs])), h.2⟩
  by_cases h2 : kind = 2
  · subst h2
    exact (jdoes2 b e a bb c n v ok w).mono fun r w' h => ⟨h.1.trans (ret_int_bool (by simp [doesNext]) (by simp [doesOk, doesN, doesIs])), h.2⟩
  by_cases h3 : kind = 3
  · subst h3
    exact (jdoes3 b e a bb c n v ok w).mono fun r w' h => ⟨h.1.trans (ret_int_bool (by simp [doesNext]) (by simp [doesOk, doesN, doesIs])), h.2⟩
  by_cases h4 : kind = 4
  · subst h4
    exact (jdoes4 b e a bb c n v ok w).mono fun r w' h => ⟨h.1.trans (ret_int_bool (by simp [doesNext]) (by simp [doesOk, doesN, doesIs])), h.2⟩
  by_cases h5 : kind = 5
  · subst h5
    by_cases hs : v = bb
    · subst hs
      exact (jdoes5eq b e a c n v ok w).mono fun r w' h => ⟨h.1.trans (ret_int_bool (by simp [doesNext]) (by simp [doesOk, doesN, doesIs])), h.2⟩
    · exact (jdoes5ne b e a bb c n v ok w (by simpa using hs)).mono fun r w' h => ⟨h.1.trans (ret_int_bool (by simp [doesNext, hs]) (by simp [doesOk, doesN, doesIs, hs])), h.2⟩
  by_cases h6 : kind = 6
  · subst h6
    rcases Int.lt_trichotomy v bb with hs | hs | hs
    · exact (jdoes6lt b e a bb c n v ok w hs).mono fun r w' h => ⟨h.1.trans (ret_int_bool (by simp only [doesNext]; grind) (by simp only [doesOk, doesN, doesIs]; grind)), h.2⟩
    · subst hs
      exact (jdoes6eq b e a c n v ok w).mono fun r w' h => ⟨h.1.trans (ret_int_bool (by simp only [doesNext]; grind) (by simp only [doesOk, doesN, doesIs]; grind)), h.2⟩
    · exact (jdoes6gt b e a bb c n v ok w hs).mono fun r w' h => ⟨h.1.trans (ret_int_bool (by simp only [doesNext]; grind) (by simp only [doesOk, doesN, doesIs]; grind)), h.2⟩
  by_cases h7 : kind = 7
  · subst h7
    rcases Int.lt_trichotomy v bb with hs | hs | hs
    · exact (jdoes7lt b e a bb c n v ok w hs).mono fun r w' h => ⟨h.1.trans (ret_int_bool (by simp only [doesNext]; grind) (by simp only [doesOk, doesN, doesIs]; grind)), h.2⟩
    · subst hs
      exact (jdoes7eq b e a c n v ok w).mono fun r w' h => ⟨h.1.trans (ret_int_bool (by simp only [doesNext]; grind) (by simp only [doesOk, doesN, doesIs]; grind)), h.2⟩
    · exact (jdoes7gt b e a bb c n v ok w hs).mono fun r w' h => ⟨h.1.trans (ret_int_bool (by simp only [doesNext]; grind) (by simp only [doesOk, doesN, doesIs]; grind)), h.2⟩
  exact (jdoesO b e kind a bb c n v ok w (by simpa using h1) (by simpa using h2) (by simpa using h3) (by simpa using h4) (by simpa using h5) (by simpa using h6) (by simpa using h7)).mono fun r w' h => ⟨h.1.trans (ret_int_bool (by simp [doesNext, *]) (by simp [doesOk, doesN, doesIs, *])), h.2⟩
end Go.Proofs.Ytpnegacfanbcfaa
