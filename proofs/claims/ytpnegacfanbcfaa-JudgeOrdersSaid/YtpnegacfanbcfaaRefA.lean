/- What a deed alone does (judge.does, skeinref20.alone): the contract for every deed. No condition. Printed by gen_does.py. -/
import Derived.Test.YtpnegacfanbcfaaWords
import Derived.Test.YtpnegacfanbcfaaOrderParts
import Derived.Test.YtpnegacfanbcfaaOpen
import Derived.Test.YtpnegacfanbcfaaFits
import Derived.Test.YtpnegacfanbcfaaFitsQ
namespace Go.Proofs.Ytpnegacfanbcfaa
open Go.RowKit

set_option maxHeartbeats 1000000 in
theorem rdoes1 (b e a bb c n v : Int) (ok : Bool) (w : World) :
    Calls Try.prog 55 #[.agg #[.int .i64 b, .int .i64 e, .int .i64 1, .int .i64 a, .int .i64 bb, .int .i64 c, .int .i64 n, .bool ok], .int .i64 v] w fun r w' => r = .returned (.tuple #[.int .i64 (v), .bool (decide (e = 0) || (decide ((v) = n) && (false == ok)))]) ∧ Below w.heap.size w w' := by
  by_cases he : e = 0
  · subst he
    go_enter Try.func55, Try.ntmps55
    go_wp2
    go_quiet (fail)
    all_goals
      go_wp2
      go_ret2
      exact ⟨by simp, by repeat' first | exact Below.refl _ _ | refine below_drewN ?_ _ | refine Below.alloc ?_ (by simp) _⟩
  · have he' : (e == 0) = false := by simpa using he
    by_cases hn : (v) = n
    · subst hn
      clear he
      go_enter Try.func55, Try.ntmps55
      go_wp2
      go_quiet (fail)
      all_goals
        go_wp2
        go_ret2
        exact ⟨ret_int_bool rfl (by simp_all), by repeat' first | exact Below.refl _ _ | refine below_drewN ?_ _ | refine Below.alloc ?_ (by simp) _⟩
    · have hn' : ((v) == n) = false := by simpa using hn
      clear hn he
      go_enter Try.func55, Try.ntmps55
      go_wp2
      go_quiet (fail)
      all_goals
        go_wp2
        go_ret2
        exact ⟨ret_int_bool rfl (by simp_all), by repeat' first | exact Below.refl _ _ | refine below_drewN ?_ _ | refine Below.alloc ?_ (by simp) _⟩

set_option maxHeartbeats 1000000 in
theorem rdoes2 (b e a bb c n v : Int) (ok : Bool) (w : World) :
    Calls Try.prog 55 #[.agg #[.int .i64 b, .int .i64 e, .int .i64 2, .int .i64 a, .int .i64 bb, .int .i64 c, .int .i64 n, .bool ok], .int .i64 v] w fun r w' => r = .returned (.tuple #[.int .i64 (bb), .bool (decide (e = 0) || (decide ((0) = n) && (false == ok)))]) ∧ Below w.heap.size w w' := by
  by_cases he : e = 0
  · subst he
    go_enter Try.func55, Try.ntmps55
    go_wp2
    go_quiet (fail)
    all_goals
      go_wp2
      go_ret2
      exact ⟨by simp, by repeat' first | exact Below.refl _ _ | refine below_drewN ?_ _ | refine Below.alloc ?_ (by simp) _⟩
  · have he' : (e == 0) = false := by simpa using he
    by_cases hn : (0) = n
    · subst hn
      clear he
      go_enter Try.func55, Try.ntmps55
      go_wp2
      go_quiet (fail)
      all_goals
        go_wp2
        go_ret2
        exact ⟨ret_int_bool rfl (by simp_all), by repeat' first | exact Below.refl _ _ | refine below_drewN ?_ _ | refine Below.alloc ?_ (by simp) _⟩
    · have hn' : ((0) == n) = false := by simpa using hn
      clear hn he
      go_enter Try.func55, Try.ntmps55
      go_wp2
      go_quiet (fail)
      all_goals
        go_wp2
        go_ret2
        exact ⟨ret_int_bool rfl (by simp_all), by repeat' first | exact Below.refl _ _ | refine below_drewN ?_ _ | refine Below.alloc ?_ (by simp) _⟩

set_option maxHeartbeats 1000000 in
theorem rdoes3 (b e a bb c n v : Int) (ok : Bool) (w : World) :
    Calls Try.prog 55 #[.agg #[.int .i64 b, .int .i64 e, .int .i64 3, .int .i64 a, .int .i64 bb, .int .i64 c, .int .i64 n, .bool ok], .int .i64 v] w fun r w' => r = .returned (.tuple #[.int .i64 (wrap64 (v + bb)), .bool (decide (e = 0) || (decide ((wrap64 (v + bb)) = n) && (false == ok)))]) ∧ Below w.heap.size w w' := by
  by_cases he : e = 0
  · subst he
    go_enter Try.func55, Try.ntmps55
    go_wp2
    go_quiet (fail)
    all_goals
      go_wp2
      go_ret2
      exact ⟨by simp, by repeat' first | exact Below.refl _ _ | refine below_drewN ?_ _ | refine Below.alloc ?_ (by simp) _⟩
  · have he' : (e == 0) = false := by simpa using he
    by_cases hn : (wrap64 (v + bb)) = n
    · subst hn
      clear he
      go_enter Try.func55, Try.ntmps55
      go_wp2
      go_quiet (fail)
      all_goals
        go_wp2
        go_ret2
        exact ⟨ret_int_bool rfl (by simp_all), by repeat' first | exact Below.refl _ _ | refine below_drewN ?_ _ | refine Below.alloc ?_ (by simp) _⟩
    · have hn' : ((wrap64 (v + bb)) == n) = false := by simpa using hn
      clear hn he
      go_enter Try.func55, Try.ntmps55
      go_wp2
      go_quiet (fail)
      all_goals
        go_wp2
        go_ret2
        exact ⟨ret_int_bool rfl (by simp_all), by repeat' first | exact Below.refl _ _ | refine below_drewN ?_ _ | refine Below.alloc ?_ (by simp) _⟩

set_option maxHeartbeats 1000000 in
theorem rdoes4 (b e a bb c n v : Int) (ok : Bool) (w : World) :
    Calls Try.prog 55 #[.agg #[.int .i64 b, .int .i64 e, .int .i64 4, .int .i64 a, .int .i64 bb, .int .i64 c, .int .i64 n, .bool ok], .int .i64 v] w fun r w' => r = .returned (.tuple #[.int .i64 (bb), .bool (decide (e = 0) || (decide ((v) = n) && (false == ok)))]) ∧ Below w.heap.size w w' := by
  by_cases he : e = 0
  · subst he
    go_enter Try.func55, Try.ntmps55
    go_wp2
    go_quiet (fail)
    all_goals
      go_wp2
      go_ret2
      exact ⟨by simp, by repeat' first | exact Below.refl _ _ | refine below_drewN ?_ _ | refine Below.alloc ?_ (by simp) _⟩
  · have he' : (e == 0) = false := by simpa using he
    by_cases hn : (v) = n
    · subst hn
      clear he
      go_enter Try.func55, Try.ntmps55
      go_wp2
      go_quiet (fail)
      all_goals
        go_wp2
        go_ret2
        exact ⟨ret_int_bool rfl (by simp_all), by repeat' first | exact Below.refl _ _ | refine below_drewN ?_ _ | refine Below.alloc ?_ (by simp) _⟩
    · have hn' : ((v) == n) = false := by simpa using hn
      clear hn he
      go_enter Try.func55, Try.ntmps55
      go_wp2
      go_quiet (fail)
      all_goals
        go_wp2
        go_ret2
        exact ⟨ret_int_bool rfl (by simp_all), by repeat' first | exact Below.refl _ _ | refine below_drewN ?_ _ | refine Below.alloc ?_ (by simp) _⟩

set_option maxHeartbeats 1000000 in
theorem rdoes5eq (b e a c n v : Int) (ok : Bool) (w : World) :
    Calls Try.prog 55 #[.agg #[.int .i64 b, .int .i64 e, .int .i64 5, .int .i64 a, .int .i64 v, .int .i64 c, .int .i64 n, .bool ok], .int .i64 v] w fun r w' => r = .returned (.tuple #[.int .i64 (c), .bool (decide (e = 0) || (decide ((0) = n) && (true == ok)))]) ∧ Below w.heap.size w w' := by
  by_cases he : e = 0
  · subst he
    go_enter Try.func55, Try.ntmps55
    go_wp2
    go_quiet (fail)
    all_goals
      go_wp2
      go_ret2
      exact ⟨by simp, by repeat' first | exact Below.refl _ _ | refine below_drewN ?_ _ | refine Below.alloc ?_ (by simp) _⟩
  · have he' : (e == 0) = false := by simpa using he
    by_cases hn : (0) = n
    · subst hn
      clear he
      go_enter Try.func55, Try.ntmps55
      go_wp2
      go_quiet (fail)
      all_goals
        go_wp2
        go_ret2
        exact ⟨ret_int_bool rfl (by simp_all), by repeat' first | exact Below.refl _ _ | refine below_drewN ?_ _ | refine Below.alloc ?_ (by simp) _⟩
    · have hn' : ((0) == n) = false := by simpa using hn
      clear hn he
      go_enter Try.func55, Try.ntmps55
      go_wp2
      go_quiet (fail)
      all_goals
        go_wp2
        go_ret2
        exact ⟨ret_int_bool rfl (by simp_all), by repeat' first | exact Below.refl _ _ | refine below_drewN ?_ _ | refine Below.alloc ?_ (by simp) _⟩

set_option maxHeartbeats 1000000 in
theorem rdoes5ne (b e a bb c n v : Int) (ok : Bool) (w : World) (hs : (v == bb) = false) :
    Calls Try.prog 55 #[.agg #[.int .i64 b, .int .i64 e, .int .i64 5, .int .i64 a, .int .i64 bb, .int .i64 c, .int .i64 n, .bool ok], .int .i64 v] w fun r w' => r = .returned (.tuple #[.int .i64 (v), .bool (decide (e = 0) || (decide ((0) = n) && (false == ok)))]) ∧ Below w.heap.size w w' := by
  by_cases he : e = 0
  · subst he
    go_enter Try.func55, Try.ntmps55
    go_wp2
    go_quiet (fail)
    all_goals
      go_wp2
      go_ret2
      exact ⟨by simp, by repeat' first | exact Below.refl _ _ | refine below_drewN ?_ _ | refine Below.alloc ?_ (by simp) _⟩
  · have he' : (e == 0) = false := by simpa using he
    by_cases hn : (0) = n
    · subst hn
      clear he
      go_enter Try.func55, Try.ntmps55
      go_wp2
      go_quiet (fail)
      all_goals
        go_wp2
        go_ret2
        exact ⟨ret_int_bool rfl (by simp_all), by repeat' first | exact Below.refl _ _ | refine below_drewN ?_ _ | refine Below.alloc ?_ (by simp) _⟩
    · have hn' : ((0) == n) = false := by simpa using hn
      clear hn he
      go_enter Try.func55, Try.ntmps55
      go_wp2
      go_quiet (fail)
      all_goals
        go_wp2
        go_ret2
        exact ⟨ret_int_bool rfl (by simp_all), by repeat' first | exact Below.refl _ _ | refine below_drewN ?_ _ | refine Below.alloc ?_ (by simp) _⟩

set_option maxHeartbeats 1000000 in
theorem rdoes6lt (b e a bb c n v : Int) (ok : Bool) (w : World) (hs : v < bb) :
    Calls Try.prog 55 #[.agg #[.int .i64 b, .int .i64 e, .int .i64 6, .int .i64 a, .int .i64 bb, .int .i64 c, .int .i64 n, .bool ok], .int .i64 v] w fun r w' => r = .returned (.tuple #[.int .i64 (bb), .bool (decide (e = 0) || (decide ((bb) = n) && (false == ok)))]) ∧ Below w.heap.size w w' := by
  by_cases he : e = 0
  · subst he
    go_enter Try.func55, Try.ntmps55
    go_wp2
    go_quiet (fail)
    all_goals
      go_wp2
      go_ret2
      exact ⟨by simp, by repeat' first | exact Below.refl _ _ | refine below_drewN ?_ _ | refine Below.alloc ?_ (by simp) _⟩
  · have he' : (e == 0) = false := by simpa using he
    by_cases hn : (bb) = n
    · subst hn
      clear he
      go_enter Try.func55, Try.ntmps55
      go_wp2
      go_quiet (fail)
      all_goals
        go_wp2
        go_ret2
        exact ⟨ret_int_bool rfl (by simp_all), by repeat' first | exact Below.refl _ _ | refine below_drewN ?_ _ | refine Below.alloc ?_ (by simp) _⟩
    · have hn' : ((bb) == n) = false := by simpa using hn
      clear hn he
      go_enter Try.func55, Try.ntmps55
      go_wp2
      go_quiet (fail)
      all_goals
        go_wp2
        go_ret2
        exact ⟨ret_int_bool rfl (by simp_all), by repeat' first | exact Below.refl _ _ | refine below_drewN ?_ _ | refine Below.alloc ?_ (by simp) _⟩

set_option maxHeartbeats 1000000 in
theorem rdoes6gt (b e a bb c n v : Int) (ok : Bool) (w : World) (hs : bb < v) :
    Calls Try.prog 55 #[.agg #[.int .i64 b, .int .i64 e, .int .i64 6, .int .i64 a, .int .i64 bb, .int .i64 c, .int .i64 n, .bool ok], .int .i64 v] w fun r w' => r = .returned (.tuple #[.int .i64 (v), .bool (decide (e = 0) || (decide ((v) = n) && (false == ok)))]) ∧ Below w.heap.size w w' := by
  by_cases he : e = 0
  · subst he
    go_enter Try.func55, Try.ntmps55
    go_wp2
    go_quiet (fail)
    all_goals
      go_wp2
      go_ret2
      exact ⟨by simp, by repeat' first | exact Below.refl _ _ | refine below_drewN ?_ _ | refine Below.alloc ?_ (by simp) _⟩
  · have he' : (e == 0) = false := by simpa using he
    by_cases hn : (v) = n
    · subst hn
      clear he
      go_enter Try.func55, Try.ntmps55
      go_wp2
      go_quiet (fail)
      all_goals
        go_wp2
        go_ret2
        exact ⟨ret_int_bool rfl (by simp_all), by repeat' first | exact Below.refl _ _ | refine below_drewN ?_ _ | refine Below.alloc ?_ (by simp) _⟩
    · have hn' : ((v) == n) = false := by simpa using hn
      clear hn he
      go_enter Try.func55, Try.ntmps55
      go_wp2
      go_quiet (fail)
      all_goals
        go_wp2
        go_ret2
        exact ⟨ret_int_bool rfl (by simp_all), by repeat' first | exact Below.refl _ _ | refine below_drewN ?_ _ | refine Below.alloc ?_ (by simp) _⟩

set_option maxHeartbeats 1000000 in
theorem rdoes6eq (b e a c n v : Int) (ok : Bool) (w : World) :
    Calls Try.prog 55 #[.agg #[.int .i64 b, .int .i64 e, .int .i64 6, .int .i64 a, .int .i64 v, .int .i64 c, .int .i64 n, .bool ok], .int .i64 v] w fun r w' => r = .returned (.tuple #[.int .i64 (v), .bool (decide (e = 0) || (decide ((v) = n) && (false == ok)))]) ∧ Below w.heap.size w w' := by
  by_cases he : e = 0
  · subst he
    go_enter Try.func55, Try.ntmps55
    go_wp2
    go_quiet (fail)
    all_goals
      go_wp2
      go_ret2
      exact ⟨by simp, by repeat' first | exact Below.refl _ _ | refine below_drewN ?_ _ | refine Below.alloc ?_ (by simp) _⟩
  · have he' : (e == 0) = false := by simpa using he
    by_cases hn : (v) = n
    · subst hn
      clear he
      go_enter Try.func55, Try.ntmps55
      go_wp2
      go_quiet (fail)
      all_goals
        go_wp2
        go_ret2
        exact ⟨ret_int_bool rfl (by simp_all), by repeat' first | exact Below.refl _ _ | refine below_drewN ?_ _ | refine Below.alloc ?_ (by simp) _⟩
    · have hn' : ((v) == n) = false := by simpa using hn
      clear hn he
      go_enter Try.func55, Try.ntmps55
      go_wp2
      go_quiet (fail)
      all_goals
        go_wp2
        go_ret2
        exact ⟨ret_int_bool rfl (by simp_all), by repeat' first | exact Below.refl _ _ | refine below_drewN ?_ _ | refine Below.alloc ?_ (by simp) _⟩

set_option maxHeartbeats 1000000 in
theorem rdoes7lt (b e a bb c n v : Int) (ok : Bool) (w : World) (hs : v < bb) :
    Calls Try.prog 55 #[.agg #[.int .i64 b, .int .i64 e, .int .i64 7, .int .i64 a, .int .i64 bb, .int .i64 c, .int .i64 n, .bool ok], .int .i64 v] w fun r w' => r = .returned (.tuple #[.int .i64 (v), .bool (decide (e = 0) || (decide ((v) = n) && (false == ok)))]) ∧ Below w.heap.size w w' := by
  by_cases he : e = 0
  · subst he
    go_enter Try.func55, Try.ntmps55
    go_wp2
    go_quiet (fail)
    all_goals
      go_wp2
      go_ret2
      exact ⟨by simp, by repeat' first | exact Below.refl _ _ | refine below_drewN ?_ _ | refine Below.alloc ?_ (by simp) _⟩
  · have he' : (e == 0) = false := by simpa using he
    by_cases hn : (v) = n
    · subst hn
      clear he
      go_enter Try.func55, Try.ntmps55
      go_wp2
      go_quiet (fail)
      all_goals
        go_wp2
        go_ret2
        exact ⟨ret_int_bool rfl (by simp_all), by repeat' first | exact Below.refl _ _ | refine below_drewN ?_ _ | refine Below.alloc ?_ (by simp) _⟩
    · have hn' : ((v) == n) = false := by simpa using hn
      clear hn he
      go_enter Try.func55, Try.ntmps55
      go_wp2
      go_quiet (fail)
      all_goals
        go_wp2
        go_ret2
        exact ⟨ret_int_bool rfl (by simp_all), by repeat' first | exact Below.refl _ _ | refine below_drewN ?_ _ | refine Below.alloc ?_ (by simp) _⟩

set_option maxHeartbeats 1000000 in
theorem rdoes7gt (b e a bb c n v : Int) (ok : Bool) (w : World) (hs : bb < v) :
    Calls Try.prog 55 #[.agg #[.int .i64 b, .int .i64 e, .int .i64 7, .int .i64 a, .int .i64 bb, .int .i64 c, .int .i64 n, .bool ok], .int .i64 v] w fun r w' => r = .returned (.tuple #[.int .i64 (bb), .bool (decide (e = 0) || (decide ((bb) = n) && (false == ok)))]) ∧ Below w.heap.size w w' := by
  by_cases he : e = 0
  · subst he
    go_enter Try.func55, Try.ntmps55
    go_wp2
    go_quiet (fail)
    all_goals
      go_wp2
      go_ret2
      exact ⟨by simp, by repeat' first | exact Below.refl _ _ | refine below_drewN ?_ _ | refine Below.alloc ?_ (by simp) _⟩
  · have he' : (e == 0) = false := by simpa using he
    by_cases hn : (bb) = n
    · subst hn
      clear he
      go_enter Try.func55, Try.ntmps55
      go_wp2
      go_quiet (fail)
      all_goals
        go_wp2
        go_ret2
        exact ⟨ret_int_bool rfl (by simp_all), by repeat' first | exact Below.refl _ _ | refine below_drewN ?_ _ | refine Below.alloc ?_ (by simp) _⟩
    · have hn' : ((bb) == n) = false := by simpa using hn
      clear hn he
      go_enter Try.func55, Try.ntmps55
      go_wp2
      go_quiet (fail)
      all_goals
        go_wp2
        go_ret2
        exact ⟨ret_int_bool rfl (by simp_all), by repeat' first | exact Below.refl _ _ | refine below_drewN ?_ _ | refine Below.alloc ?_ (by simp) _⟩

set_option maxHeartbeats 1000000 in
theorem rdoes7eq (b e a c n v : Int) (ok : Bool) (w : World) :
    Calls Try.prog 55 #[.agg #[.int .i64 b, .int .i64 e, .int .i64 7, .int .i64 a, .int .i64 v, .int .i64 c, .int .i64 n, .bool ok], .int .i64 v] w fun r w' => r = .returned (.tuple #[.int .i64 (v), .bool (decide (e = 0) || (decide ((v) = n) && (false == ok)))]) ∧ Below w.heap.size w w' := by
  by_cases he : e = 0
  · subst he
    go_enter Try.func55, Try.ntmps55
    go_wp2
    go_quiet (fail)
    all_goals
      go_wp2
      go_ret2
      exact ⟨by simp, by repeat' first | exact Below.refl _ _ | refine below_drewN ?_ _ | refine Below.alloc ?_ (by simp) _⟩
  · have he' : (e == 0) = false := by simpa using he
    by_cases hn : (v) = n
    · subst hn
      clear he
      go_enter Try.func55, Try.ntmps55
      go_wp2
      go_quiet (fail)
      all_goals
        go_wp2
        go_ret2
        exact ⟨ret_int_bool rfl (by simp_all), by repeat' first | exact Below.refl _ _ | refine below_drewN ?_ _ | refine Below.alloc ?_ (by simp) _⟩
    · have hn' : ((v) == n) = false := by simpa using hn
      clear hn he
      go_enter Try.func55, Try.ntmps55
      go_wp2
      go_quiet (fail)
      all_goals
        go_wp2
        go_ret2
        exact ⟨ret_int_bool rfl (by simp_all), by repeat' first | exact Below.refl _ _ | refine below_drewN ?_ _ | refine Below.alloc ?_ (by simp) _⟩

set_option maxHeartbeats 1000000 in
theorem rdoesO (b e kind a bb c n v : Int) (ok : Bool) (w : World) (h1 : (kind == 1) = false) (h2 : (kind == 2) = false) (h3 : (kind == 3) = false) (h4 : (kind == 4) = false) (h5 : (kind == 5) = false) (h6 : (kind == 6) = false) (h7 : (kind == 7) = false) :
    Calls Try.prog 55 #[.agg #[.int .i64 b, .int .i64 e, .int .i64 kind, .int .i64 a, .int .i64 bb, .int .i64 c, .int .i64 n, .bool ok], .int .i64 v] w fun r w' => r = .returned (.tuple #[.int .i64 (v), .bool (decide (e = 0) || (decide ((0) = n) && (false == ok)))]) ∧ Below w.heap.size w w' := by
  by_cases he : e = 0
  · subst he
    go_enter Try.func55, Try.ntmps55
    go_wp2
    go_quiet (fail)
    all_goals
      go_wp2
      go_ret2
      exact ⟨by simp, by repeat' first | exact Below.refl _ _ | refine below_drewN ?_ _ | refine Below.alloc ?_ (by simp) _⟩
  · have he' : (e == 0) = false := by simpa using he
    by_cases hn : (0) = n
    · subst hn
      clear he
      go_enter Try.func55, Try.ntmps55
      go_wp2
      go_quiet (fail)
      all_goals
        go_wp2
        go_ret2
        exact ⟨ret_int_bool rfl (by simp_all), by repeat' first | exact Below.refl _ _ | refine below_drewN ?_ _ | refine Below.alloc ?_ (by simp) _⟩
    · have hn' : ((0) == n) = false := by simpa using hn
      clear hn he
      go_enter Try.func55, Try.ntmps55
      go_wp2
      go_quiet (fail)
      all_goals
        go_wp2
        go_ret2
        exact ⟨ret_int_bool rfl (by simp_all), by repeat' first | exact Below.refl _ _ | refine below_drewN ?_ _ | refine Below.alloc ?_ (by simp) _⟩

/-- what the function answers of a deed alone. -/
theorem refAlone (d : Deed) (v : Int) (w : World) :
    Calls Try.prog 55 #[d.val, .int .i64 v] w fun r w' => r = .returned (.tuple #[.int .i64 (doesNext d v), .bool (doesOk d v)]) ∧ Below w.heap.size w w' := by
  obtain ⟨b, e, kind, a, bb, c, n, ok⟩ := d
  simp only [Deed.val]
  by_cases h1 : kind = 1
  · subst h1
    exact (rdoes1 b e a bb c n v ok w).mono fun r w' h => ⟨h.1.trans (ret_int_bool (by simp [doesNext]) (by simp [doesOk, doesN, doesIs])), h.2⟩
  by_cases h2 : kind = 2
  · subst h2
    exact (rdoes2 b e a bb c n v ok w).mono fun r w' h => ⟨h.1.trans (ret_int_bool (by simp [doesNext]) (by simp [doesOk, doesN, doesIs])), h.2⟩
  by_cases h3 : kind = 3
  · subst h3
    exact (rdoes3 b e a bb c n v ok w).mono fun r w' h => ⟨h.1.trans (ret_int_bool (by simp [doesNext]) (by simp [doesOk, doesN, doesIs])), h.2⟩
  by_cases h4 : kind = 4
  · subst h4
    exact (rdoes4 b e a bb c n v ok w).mono fun r w' h => ⟨h.1.trans (ret_int_bool (by simp [doesNext]) (by simp [doesOk, doesN, doesIs])), h.2⟩
  by_cases h5 : kind = 5
  · subst h5
    by_cases hs : v = bb
    · subst hs
      exact (rdoes5eq b e a c n v ok w).mono fun r w' h => ⟨h.1.trans (ret_int_bool (by simp [doesNext]) (by simp [doesOk, doesN, doesIs])), h.2⟩
    · exact (rdoes5ne b e a bb c n v ok w (by simpa using hs)).mono fun r w' h => ⟨h.1.trans (ret_int_bool (by simp [doesNext, hs]) (by simp [doesOk, doesN, doesIs, hs])), h.2⟩
  by_cases h6 : kind = 6
  · subst h6
    rcases Int.lt_trichotomy v bb with hs | hs | hs
    · exact (rdoes6lt b e a bb c n v ok w hs).mono fun r w' h => ⟨h.1.trans (ret_int_bool (by simp only [doesNext]; grind) (by simp only [doesOk, doesN, doesIs]; grind)), h.2⟩
    · subst hs
      exact (rdoes6eq b e a c n v ok w).mono fun r w' h => ⟨h.1.trans (ret_int_bool (by simp only [doesNext]; grind) (by simp only [doesOk, doesN, doesIs]; grind)), h.2⟩
    · exact (rdoes6gt b e a bb c n v ok w hs).mono fun r w' h => ⟨h.1.trans (ret_int_bool (by simp only [doesNext]; grind) (by simp only [doesOk, doesN, doesIs]; grind)), h.2⟩
  by_cases h7 : kind = 7
  · subst h7
    rcases Int.lt_trichotomy v bb with hs | hs | hs
    · exact (rdoes7lt b e a bb c n v ok w hs).mono fun r w' h => ⟨h.1.trans (ret_int_bool (by simp only [doesNext]; grind) (by simp only [doesOk, doesN, doesIs]; grind)), h.2⟩
    · subst hs
      exact (rdoes7eq b e a c n v ok w).mono fun r w' h => ⟨h.1.trans (ret_int_bool (by simp only [doesNext]; grind) (by simp only [doesOk, doesN, doesIs]; grind)), h.2⟩
    · exact (rdoes7gt b e a bb c n v ok w hs).mono fun r w' h => ⟨h.1.trans (ret_int_bool (by simp only [doesNext]; grind) (by simp only [doesOk, doesN, doesIs]; grind)), h.2⟩
  exact (rdoesO b e kind a bb c n v ok w (by simpa using h1) (by simpa using h2) (by simpa using h3) (by simpa using h4) (by simpa using h5) (by simpa using h6) (by simpa using h7)).mono fun r w' h => ⟨h.1.trans (ret_int_bool (by simp [doesNext, *]) (by simp [doesOk, doesN, doesIs, *])), h.2⟩
end Go.Proofs.Ytpnegacfanbcfaa

/- The document's judge of deeds: its small functions. -/
namespace Go.Proofs.Ytpnegacfanbcfaa
open Go.RowKit Go.Maps

theorem refTimes (b e : Int) (w : World) :
    Calls Try.prog 52 #[.int .i64 b, .int .i64 e] w fun r w' => r = .returned (.bool (timesB b e)) ∧ w = w' := by
  go_enter Try.func52, Try.ntmps52
  go_wp2
  all_goals (go_ret; refine ⟨ret_bool ?_, rfl⟩; simp_all [timesB]; try omega)
theorem refBefore (e b : Int) (w : World) : Calls Try.prog 62 #[.int .i64 e, .int .i64 b] w fun r w' => r = .returned (.bool (aheadB e b)) ∧ w' = w := by
  by_cases h0 : e = 0
  · subst h0
    go_enter Try.func62, Try.ntmps62
    go_wp2
    go_ret
    exact ⟨by simp [aheadB], rfl⟩
  · have h1 : (e == 0) = false := by simpa using h0
    go_enter Try.func62, Try.ntmps62
    go_wp2
    all_goals
      go_ret
      refine ⟨ret_bool ?_, rfl⟩
      simp_all [aheadB, bne]

set_option maxHeartbeats 1000000 in
theorem refRight (n : Nat) (fA : Option Addr) (fc : Nat) (d : Deed) (w : World) :
    Calls Try.prog 30 #[.slice fA n fc, d.val] w fun r w' => r = .returned (.bool (rightB n d)) ∧ Below w.heap.size w w' := by
  obtain ⟨b, e, kind, a, bb, c, m, ok⟩ := d
  simp only [Deed.val]
  go_enter Try.func30, Try.ntmps30
  go_wp2_with (go_at_call 52; refine (refTimes _ _ _).mono ?_; rintro e1 w1 ⟨rfl, rfl⟩)
  all_goals
    go_ret
    refine ⟨ret_bool ?_, (Below.refl _ _).alloc (Nat.le_refl _) _⟩
    go_tidy
    simp only [rightB]
    grind

attribute [-go_sem] loadCellsFrom

set_option maxRecDepth 20000 in
set_option maxHeartbeats 1000000 in
theorem refOpen (l : List Deed) (A : Option Addr) (c : Nat) (t : Int) (w : World) (hl : l.length ≤ 64) (hr : Row w A (deedCells l)) :
    Calls Try.prog 31 #[.slice A l.length c, .int .i64 t] w fun r w' => r = .returned (.int .i64 (opensAt l t)) ∧ Below w.heap.size w w' := by
  have HR := Lib.hid hr; clear hr
  go_enter Try.func31, Try.ntmps31
  go_wp2
  go_loopg [5, 6] l.length (fun k n i wr => ORel l t w k n i wr)
  case atStart => exact ⟨0, Nat.zero_le _, rfl, rfl, rfl, Below.refl _ _⟩
  case round =>
    obtain ⟨j, hj, rfl, rfl, rfl, hb⟩ := hrel
    have HB := Lib.hid hb
    by_cases hlt : j < l.length
    · obtain ⟨d, hd⟩ : ∃ d, l[j]? = some d := ⟨_, List.getElem?_eq_getElem hlt⟩
      obtain ⟨lb, loff, hA, d0, d1, _⟩ := (HR.out.below hb).deed hd
      have hsucc := opensAt_succ l t j d hd
      have hle := opensAt_le l t j
      have HS := Lib.hid hsucc
      clear hb hd hsucc
      subst hA
      go_wp2
      all_goals
        go_roundg (l.length - (j + 1))
        case measure => omega
        case rel =>
          refine ⟨j + 1, by omega, by go_num, rfl, ?_, HB.out⟩
          rw [HS.out]
          go_tidy
          refine congrArg (Value.int .i64) ?_
          simp only [atB]
          grind
    · clear hb
      have HE : Hid (l.take j = l) := List.take_of_length_le (by omega)
      go_wp2
      go_ret
      exact ⟨ret_int (by rw [HE.out]), HB.out⟩

/-- so far they are alike. -/
def LkRel {α : Type} (a b : List α) (n : Nat) (w : World) (k : Nat) (i : Value) (wr : World) : Prop :=
  ∃ j : Nat, j ≤ n ∧ i = .int .i64 (j : Int) ∧ k = n - j ∧ a.take j = b.take j ∧ Below w.heap.size w wr
theorem take_next {α : Type} {a b : List α} {j : Nat} {x : α} (h : a.take j = b.take j) (ha : a[j]? = some x) (hb : b[j]? = some x) : a.take (j + 1) = b.take (j + 1) := by
  rw [List.take_add_one, List.take_add_one, h, ha, hb]
theorem ne_at {α : Type} {a b : List α} {j : Nat} {x y : α} (ha : a[j]? = some x) (hb : b[j]? = some y) (h : x ≠ y) : a ≠ b := by
  intro e
  rw [e, hb] at ha
  injection ha with ha
  exact h ha.symm

set_option maxRecDepth 20000 in
set_option maxHeartbeats 2000000 in
theorem refSame (n m : Nat) (a1 b1 : List Bool) (a2 b2 : List Int) (A1 B1 A2 B2 : Option Addr) (c1 c2 c3 c4 : Nat) (w : World) (hn : n ≤ 64) (hm : m ≤ 256) (hl1 : a1.length = n) (hl2 : b1.length = n) (hl3 : a2.length = m) (hl4 : b2.length = m)
    (r1 : Row w A1 (bools a1)) (r2 : Row w A2 (nums a2)) (r3 : Row w B1 (bools b1)) (r4 : Row w B2 (nums b2)) :
    Calls Try.prog 53 #[.agg #[.slice A1 n c1, .slice A2 m c2], .agg #[.slice B1 n c3, .slice B2 m c4]] w fun r w' => r = .returned (.bool (decide (a1 = b1 ∧ a2 = b2))) ∧ Below w.heap.size w w' := by
  have R1 := Lib.hid r1; have R2 := Lib.hid r2; have R3 := Lib.hid r3; have R4 := Lib.hid r4
  have HL1 := Lib.hid hl1; have HL2 := Lib.hid hl2; have HL3 := Lib.hid hl3; have HL4 := Lib.hid hl4
  clear r1 r2 r3 r4 hl1 hl2 hl3 hl4
  go_enter Try.func53, Try.ntmps53
  go_upto_region 1 with fail
  obtain ⟨W, hW⟩ : ∃ W, W = (w.alloc (.cells #[.slice A1 n c1, .slice A2 m c2] 84)).alloc (.cells #[.slice B1 n c3, .slice B2 m c4] 84) := ⟨_, rfl⟩
  rw [← hW]
  have hbW : Below w.heap.size w W := by rw [hW]; exact ((Below.refl _ _).alloc (Nat.le_refl _) _).alloc (by simp) _
  have hX : W.heap[w.heap.size]? = some (.cells #[.slice A1 n c1, .slice A2 m c2] 84 (0, 0)) := by
    rw [hW]
    exact (Below.heap_alloc _ _ _ (by simp)).trans (heap_alloc_new w _)
  have hY : W.heap[w.heap.size + 1]? = some (.cells #[.slice B1 n c3, .slice B2 m c4] 84 (0, 0)) := by
    rw [hW]
    have := heap_alloc_new (w.alloc (.cells #[.slice A1 n c1, .slice A2 m c2] 84)) (.cells #[.slice B1 n c3, .slice B2 m c4] 84)
    simpa using this
  have HBW := Lib.hid hbW; have HX := Lib.hid hX; have HY := Lib.hid hY
  clear hW hbW hX hY
  have cells : ∀ V, Below W.heap.size W V → V.cell? ⟨w.heap.size, 0, none⟩ = some (.slice A1 n c1) ∧ V.cell? ⟨w.heap.size, 1, none⟩ = some (.slice A2 m c2) ∧ V.cell? ⟨w.heap.size + 1, 0, none⟩ = some (.slice B1 n c3) ∧ V.cell? ⟨w.heap.size + 1, 1, none⟩ = some (.slice B2 m c4) := by
    intro V hV
    refine ⟨cell_below hV _ _ (cell_of_row _ _ _ _ _ _ HX.out), cell_below hV _ _ (cell_of_row _ _ _ _ _ _ HX.out), cell_below hV _ _ (cell_of_row _ _ _ _ _ _ HY.out), cell_below hV _ _ (cell_of_row _ _ _ _ _ _ HY.out)⟩
  have HC := Lib.hid cells
  clear cells
  go_wp2_with fail
  go_loopg [5] n (fun k i wr => LkRel a1 b1 n W k i wr)
  case atStart => exact ⟨0, Nat.zero_le _, rfl, rfl, by simp, Below.refl _ _⟩
  case round =>
    obtain ⟨j, hj, rfl, rfl, htk, hbr⟩ := hrel
    obtain ⟨wo, hwo⟩ : ∃ wo : World, wo = wr := ⟨_, rfl⟩
    subst hwo
    obtain ⟨q0, q1, q2, q3⟩ := HC.out _ hbr
    have HTK := Lib.hid htk; have HBR := Lib.hid hbr
    by_cases hlt : j < n
    · obtain ⟨x, hx⟩ : ∃ x, a1[j]? = some x := ⟨_, List.getElem?_eq_getElem (by rw [HL1.out]; exact hlt)⟩
      obtain ⟨y, hy⟩ : ∃ y, b1[j]? = some y := ⟨_, List.getElem?_eq_getElem (by rw [HL2.out]; exact hlt)⟩
      have hbw := HBW.out.trans (hbr.mono HBW.out.size)
      obtain ⟨ab, aoff, hAe, hca⟩ := (R1.out.below hbw) j (.bool x) (by simp [bools, hx])
      obtain ⟨bb, boff, hBe, hcb⟩ := (R3.out.below hbw) j (.bool y) (by simp [bools, hy])
      have HX' := Lib.hid hx; have HY' := Lib.hid hy
      clear hx hy htk hbr hbw
      subst hAe hBe
      cases x <;> cases y
      · go_wp2_with fail
        go_quiet (fail)
        go_wp2_with fail
        go_roundg (n - (j + 1))
        case measure => omega
        case rel => exact ⟨j + 1, by omega, by go_num, rfl, take_next HTK.out HX'.out HY'.out, below_drewN HBR.out _⟩
      · go_wp2_with fail
        go_quiet (fail)
        go_wp2_with fail
        go_ret
        exact ⟨ret_bool (by symm; rw [decide_eq_false_iff_not]; exact fun h => ne_at HX'.out HY'.out (by decide) h.1), HBW.out.trans ((below_drewN HBR.out _).mono HBW.out.size)⟩
      · go_wp2_with fail
        go_quiet (fail)
        go_wp2_with fail
        go_ret
        exact ⟨ret_bool (by symm; rw [decide_eq_false_iff_not]; exact fun h => ne_at HX'.out HY'.out (by decide) h.1), HBW.out.trans ((below_drewN HBR.out _).mono HBW.out.size)⟩
      · go_wp2_with fail
        go_quiet (fail)
        go_wp2_with fail
        go_roundg (n - (j + 1))
        case measure => omega
        case rel => exact ⟨j + 1, by omega, by go_num, rfl, take_next HTK.out HX'.out HY'.out, below_drewN HBR.out _⟩
    · have HE1 : Hid (a1 = b1) := by
        have h := htk
        rwa [List.take_of_length_le (by rw [HL1.out]; omega), List.take_of_length_le (by rw [HL2.out]; omega)] at h
      have HWO := Lib.hid hbr
      clear htk
      go_wp2_with fail
      go_loopg [6] m (fun k i wr => LkRel a2 b2 m W k i wr)
      case atStart => exact ⟨0, Nat.zero_le _, rfl, rfl, by simp, HWO.out⟩
      case round =>
        obtain ⟨j2, hj2, rfl, rfl, htk2, hbr2⟩ := hrel
        obtain ⟨wi, hwi⟩ : ∃ wi : World, wi = wr := ⟨_, rfl⟩
        subst hwi
        clear q0 q1 q2 q3
        obtain ⟨q0, q1, q2, q3⟩ := HC.out _ hbr2
        have HTK2 := Lib.hid htk2; have HBR2 := Lib.hid hbr2
        by_cases hlt2 : j2 < m
        · obtain ⟨x, hx⟩ : ∃ x, a2[j2]? = some x := ⟨_, List.getElem?_eq_getElem (by rw [HL3.out]; exact hlt2)⟩
          obtain ⟨y, hy⟩ : ∃ y, b2[j2]? = some y := ⟨_, List.getElem?_eq_getElem (by rw [HL4.out]; exact hlt2)⟩
          have hbw := HBW.out.trans (hbr2.mono HBW.out.size)
          obtain ⟨ab, aoff, hAe, hca⟩ := (R2.out.below hbw) j2 (.int .i64 x) (by simp [nums, hx])
          obtain ⟨bb, boff, hBe, hcb⟩ := (R4.out.below hbw) j2 (.int .i64 y) (by simp [nums, hy])
          have HX' := Lib.hid hx; have HY' := Lib.hid hy
          clear hx hy htk2 hbr2 hbw
          subst hAe hBe
          by_cases hxy : x = y
          · have hxy' : (x != y) = false := by simp [hxy]
            have HXY := Lib.hid hxy
            clear hxy
            go_wp2_with fail
            go_quiet (fail)
            go_wp2_with fail
            go_roundg (m - (j2 + 1))
            case measure => omega
            case rel => exact ⟨j2 + 1, by omega, by go_num, rfl, take_next HTK2.out HX'.out (by rw [HY'.out, HXY.out]), below_drewN HBR2.out _⟩
          · have hxy' : (x != y) = true := by simp [hxy]
            have HXY := Lib.hid hxy
            clear hxy
            go_wp2_with fail
            go_quiet (fail)
            go_wp2_with fail
            go_ret
            exact ⟨ret_bool (by symm; rw [decide_eq_false_iff_not]; exact fun h => ne_at HX'.out HY'.out HXY.out h.2), HBW.out.trans ((below_drewN HBR2.out _).mono HBW.out.size)⟩
        · have HE2 : Hid (a2 = b2) := by
            have h := htk2
            rwa [List.take_of_length_le (by rw [HL3.out]; omega), List.take_of_length_le (by rw [HL4.out]; omega)] at h
          clear htk2 hbr2
          go_wp2_with fail
          go_ret
          exact ⟨ret_bool (by symm; rw [decide_eq_true_eq]; exact ⟨HE1.out, HE2.out⟩), HBW.out.trans (HBR2.out.mono HBW.out.size)⟩

def MayRel (l : List Deed) (b : Int) (inn : List Bool) (W : World) (k : Nat) (i : Value) (wr : World) : Prop :=
  ∃ j : Nat, j ≤ l.length ∧ i = .int .i64 (j : Int) ∧ k = l.length - j ∧ (∀ j' e, j' < j → l[j']? = some e → (inn.getD j' false || !aheadB e.end_ b) = true) ∧ Below W.heap.size W wr
set_option maxRecDepth 20000 in
set_option maxHeartbeats 2000000 in
theorem refMay (l : List Deed) (inn : List Bool) (X : Nat) (lA sA : Option Addr) (lc sc : Nat) (cv : Value) (k : Nat) (d : Deed) (w : World) (h64 : l.length ≤ 64) (hd : l[k]? = some d) (hn : inn.length = l.length)
    (hx : w.cell? ⟨X, 0, none⟩ = some (.slice lA l.length lc)) (_hcv : cv.oneCell' = true) (hrl : Row w lA (deedCells l)) (hri : Row w sA (bools inn)) :
    Calls Try.prog 54 #[.pointer (some ⟨X, 0, none⟩), .agg #[.slice sA l.length sc, cv], .int .i64 (k : Int)] w fun r w' => r = .returned (.bool (!inn.getD k false && freeL l inn d.begin_)) ∧ Below w.heap.size w w' := by
  have HX := Lib.hid hx; have HRL := Lib.hid hrl; have HRI := Lib.hid hri; have HD := Lib.hid hd; have HN := Lib.hid hn
  have hk := (List.getElem?_eq_some_iff.1 hd).1
  clear hx hrl hri hd hn
  go_enter Try.func54, Try.ntmps54
  go_upto_region 1 with fail
  obtain ⟨W, hW⟩ : ∃ W, W = w.alloc (.cells #[.slice sA l.length sc, cv] 84) := ⟨_, rfl⟩
  rw [← hW]
  have hbW : Below w.heap.size w W := by rw [hW]; exact (Below.refl _ _).alloc (Nat.le_refl _) _
  have hB : W.heap[w.heap.size]? = some (.cells #[.slice sA l.length sc, cv] 84 (0, 0)) := by
    rw [hW]
    exact heap_alloc_new w _
  have HBW := Lib.hid hbW; have HBX := Lib.hid hB
  have q0 : W.cell? ⟨w.heap.size, 0, none⟩ = some (.slice sA l.length sc) := cell_of_row _ _ _ _ _ _ hB
  obtain ⟨sb, soff, hsA, hck⟩ := (HRI.out.below hbW) k (.bool (inn.getD k false)) (by simp [bools, List.getD, HN.out, hk])
  subst hsA
  clear hW hbW hB
  cases hb : inn.getD k false with
  | true =>
    rw [hb] at hck
    have HB := Lib.hid hb
    clear hb
    go_wp2_with fail
    go_ret
    exact ⟨ret_bool (by rw [HB.out]; rfl), HBW.out⟩
  | false =>
    rw [hb] at hck
    have HB := Lib.hid hb
    clear hb
    go_wp2_with fail
    clear hck q0
    go_loopg [7] l.length (fun k i wr => MayRel l d.begin_ inn W k i wr)
    case atStart => exact ⟨0, Nat.zero_le _, rfl, rfl, fun j' e h => absurd h (Nat.not_lt_zero _), Below.refl _ _⟩
    case round =>
      obtain ⟨j, hj, rfl, rfl, hfr, hbr⟩ := hrel
      obtain ⟨wo, hwo⟩ : ∃ wo : World, wo = wr := ⟨_, rfl⟩
      subst hwo
      have q0 : wo.cell? ⟨w.heap.size, 0, none⟩ = some (.slice (some ⟨sb, soff, none⟩) l.length sc) := cell_below hbr _ _ (cell_of_row _ _ _ _ _ _ HBX.out)
      have hbw := HBW.out.trans (hbr.mono HBW.out.size)
      have q1 := cell_below hbw _ _ HX.out
      have HFR := Lib.hid hfr; have HBR := Lib.hid hbr
      by_cases hlt : j < l.length
      · obtain ⟨e, he⟩ : ∃ e, l[j]? = some e := ⟨_, List.getElem?_eq_getElem hlt⟩
        obtain ⟨lb, loff, hlA, e0, e1, _⟩ := (HRL.out.below hbw).deed he
        obtain ⟨lb', loff', hlA', d0, d1, _⟩ := (HRL.out.below hbw).deed HD.out
        rw [hlA] at hlA'
        injection hlA' with hlA'
        injection hlA' with hb1 hb2
        subst hb1 hb2
        obtain ⟨sb', soff', hsA', hcj⟩ := (HRI.out.below hbw) j (.bool (inn.getD j false)) (by simp [bools, List.getD, HN.out, hlt])
        injection hsA' with hsA'
        injection hsA' with hb1 hb2
        subst hb1 hb2
        have HE := Lib.hid he
        clear he hfr hbr hbw
        subst hlA
        have NEXT : Hid (∀ nq, (inn.getD j false || !aheadB e.end_ d.begin_) = true → MayRel l d.begin_ inn W (l.length - (j + 1)) (.int .i64 ((j + 1 : Nat) : Int)) (wo.drewN nq)) := by
          intro nq hok
          refine ⟨j + 1, by omega, rfl, rfl, fun j' e' hj' he' => ?_, below_drewN HBR.out nq⟩
          rcases Nat.lt_or_ge j' j with h | h
          · exact HFR.out j' e' h he'
          · obtain rfl : j' = j := by omega
            rw [HE.out] at he'
            injection he' with he'
            subst he'
            exact hok
        cases hbj : inn.getD j false with
        | true =>
          rw [hbj] at hcj
          have HOK : Hid ((inn.getD j false || !aheadB e.end_ d.begin_) = true) := by show _ = _; rw [hbj]; rfl
          clear hbj
          go_wp2_with fail
          go_quiet (fail)
          go_wp2_with fail
          go_roundg (l.length - (j + 1))
          case measure => omega
          case rel => exact NEXT.out _ HOK.out
        | false =>
          rw [hbj] at hcj
          have HBJ := Lib.hid hbj
          clear hbj
          cases hah : aheadB e.end_ d.begin_ with
          | true =>
            have HAH := Lib.hid hah
            clear hah
            go_wp2_with fail
            go_quiet ((go_at_call 62; exact Calls.quiet_of_same ((refBefore _ _ _).mono fun _ _ h => ⟨by rw [h.1, HAH.out], h.2⟩)))
            go_wp2_with fail
            go_ret
            exact ⟨ret_bool (by rw [HB.out, free_no HE.out HBJ.out HAH.out]; rfl), HBW.out.trans ((below_drewN HBR.out _).mono HBW.out.size)⟩
          | false =>
            have HAH := Lib.hid hah
            have HOK : Hid ((inn.getD j false || !aheadB e.end_ d.begin_) = true) := by show _ = _; rw [hah]; simp
            clear hah
            go_wp2_with fail
            go_quiet ((go_at_call 62; exact Calls.quiet_of_same ((refBefore _ _ _).mono fun _ _ h => ⟨by rw [h.1, HAH.out], h.2⟩)))
            go_wp2_with fail
            go_roundg (l.length - (j + 1))
            case measure => omega
            case rel => exact NEXT.out _ HOK.out
      · have hjl : j = l.length := by omega
        have HYES : Hid (freeL l inn d.begin_ = true) := by
          show _ = _
          unfold freeL
          rw [List.all_eq_true]
          rintro ⟨e, i⟩ hp
          have he := List.mem_zipIdx_iff_getElem?.1 hp
          exact hfr i e (by have := (List.getElem?_eq_some_iff.1 he).1; omega) he
        clear hfr hbr hbw
        go_wp2_with fail
        go_ret
        exact ⟨ret_bool (by rw [HB.out, HYES.out]; rfl), HBW.out.trans (HBR.out.mono HBW.out.size)⟩
end Go.Proofs.Ytpnegacfanbcfaa

/- The document's search of deeds: what it finds, and its memory. -/
namespace Go.Proofs.Ytpnegacfanbcfaa
open Go.RowKit Go.Maps

/-- what the search finds from there. -/
def LR (l : List Deed) (inn : List Bool) (cells : List Int) (r : Option (List Nat)) : Prop := ∀ s, FRel l (num l).ci s inn cells → least l (num l).ci (num l).en s = r
def KR (l : List Deed) (inn : List Bool) (cells : List Int) (k : Nat) (r : Option (List Nat)) : Prop := ∀ s, FRel l (num l).ci s inn cells → tryK (least l (num l).ci (num l).en) l (num l).ci s k = r
section
variable {l : List Deed} {inn : List Bool} {cells : List Int}
theorem done_iff {s : St} (h : FRel l (num l).ci s inn cells) : s.inn &&& (num l).en = (num l).en ↔ doneL l inn = true := by
  rw [num_done]
  unfold doneL
  rw [List.all_eq_true]
  constructor
  · rintro hs ⟨e, i⟩ hp
    have he := List.mem_zipIdx_iff_getElem?.1 hp
    by_cases h0 : e.end_ = 0
    · simp [h0]
    · have := hs i e he h0
      rw [h.bit i (List.getElem?_eq_some_iff.1 he).1] at this
      simp only [this, Bool.or_true]
  · intro hs k d hd h0
    have := hs (d, k) (List.mem_zipIdx_iff_getElem?.2 hd)
    rw [h.bit k (List.getElem?_eq_some_iff.1 hd).1]
    simpa [h0] using this
theorem LR_done (h : doneL l inn = true) : LR l inn cells (some []) := fun _ hs => least_done ((done_iff hs).2 h)
theorem KR_no {k : Nat} {d : Deed} (hd : l[k]? = some d) (h : (!inn.getD k false && freeL l inn d.begin_) = false) : KR l inn cells k none := by
  intro s hs
  have hk := (List.getElem?_eq_some_iff.1 hd).1
  unfold tryK
  rw [hd]
  have hf : freeB l s d.begin_ = freeL l inn d.begin_ := by
    unfold freeB freeL
    rw [Bool.eq_iff_iff, List.all_eq_true, List.all_eq_true]
    constructor
    · rintro h1 ⟨e, i⟩ hp
      have := h1 (e, i) hp
      rwa [hs.bit i (List.getElem?_eq_some_iff.1 (List.mem_zipIdx_iff_getElem?.1 hp)).1] at this
    · rintro h1 ⟨e, i⟩ hp
      have := h1 (e, i) hp
      rwa [← hs.bit i (List.getElem?_eq_some_iff.1 (List.mem_zipIdx_iff_getElem?.1 hp)).1] at this
  simp only [hs.bit k hk, hf, h, Bool.false_and, Bool.false_eq_true, if_false]
theorem KR_not {k : Nat} {d : Deed} (hd : l[k]? = some d) (h : doesOk d (cells.getD d.a.toNat 0) = false) : KR l inn cells k none := by
  intro s hs
  exact tryK_not hd (by rw [hs.cell k d hd]; exact h)
theorem KR_yes (ha : ∀ d ∈ l, 0 ≤ d.a) {k : Nat} {d : Deed} (hd : l[k]? = some d) (h : (!inn.getD k false && freeL l inn d.begin_) = true) (ho : doesOk d (cells.getD d.a.toNat 0) = true) {r : Option (List Nat)}
    (hr : LR l (inn.set k true) (cells.set d.a.toNat (doesNext d (cells.getD d.a.toNat 0))) r) : KR l inn cells k (r.map (k :: ·)) := by
  intro s hs
  have hk := (List.getElem?_eq_some_iff.1 hd).1
  rw [Bool.and_eq_true, Bool.not_eq_true'] at h
  have hfree : freeB l s d.begin_ = true := freeB_of fun i e he => by
    have h2 := h.2
    unfold freeL at h2
    rw [List.all_eq_true] at h2
    have := h2 (e, i) (List.mem_zipIdx_iff_getElem?.2 he)
    rw [hs.bit i (List.getElem?_eq_some_iff.1 he).1]
    simpa using this
  rw [tryK_yes hd (by rw [hs.bit k hk]; exact h.1) hfree (by rw [hs.cell k d hd]; exact ho), hr _ (hs.next (num_ciOk ha) hd)]
theorem LR_first (hn : doneL l inn = false) {j : Nat} {t : List Nat} (hj : j < l.length) (h0 : ∀ i, i < j → KR l inn cells i none) (h1 : KR l inn cells j (some t)) : LR l inn cells (some t) :=
  fun s hs => least_first (fun h => by rw [(done_iff hs).1 h] at hn; cases hn) hj (fun i hi => h0 i hi s hs) (h1 s hs)
theorem LR_none (hn : doneL l inn = false) (h0 : ∀ i, i < l.length → KR l inn cells i none) : LR l inn cells none :=
  fun s hs => least_none (fun h => by rw [(done_iff hs).1 h] at hn; cases hn) (fun i hi => h0 i hi s hs)
end

/-- how many calls the search makes at most. -/
def callsR : Nat → Nat
  | 0 => 1
  | r + 1 => 1 + (r + 1) * callsR r
theorem callsR_mono : ∀ {a b : Nat}, a ≤ b → callsR a ≤ callsR b
  | a, 0, h => by
    obtain rfl : a = 0 := by omega
    exact Nat.le_refl _
  | a, b + 1, h => by
    rcases Nat.lt_or_ge a (b + 1) with h1 | h1
    · have ih := callsR_mono (a := a) (b := b) (by omega)
      have : callsR b ≤ (b + 1) * callsR b := Nat.le_mul_of_pos_left _ (by omega)
      simp only [callsR]
      omega
    · obtain rfl : a = b + 1 := by omega
      exact Nat.le_refl _
theorem callsR_14 {r : Nat} (h : r ≤ 14) : callsR r ≤ 236975164805 := Nat.le_trans (callsR_mono h) (by decide)

/-- a state that lies in the memory. -/
structure StV where
  inn : List Bool
  cells : List Int
  a : Value
  c : Value
def stCells (l : List StV) : List Value := l.flatMap fun t => [t.a, t.c]
theorem elemState : ElemOk Try.prog 110 84 2 48 := elemOk_of (by kernel_rfl) (by decide) (.agg #[.slice none 0 0, .slice none 0 0]) (by kernel_rfl) rfl
structure StIn (B n m : Nat) (P : List Bool → List Int → Prop) (w : World) (t : StV) : Prop where
  a : w.ownsRow B 4 1 t.a n (bools t.inn)
  c : w.ownsRow B 3 1 t.c m (nums t.cells)
  p : P t.inn t.cells
/-- the search's memory. -/
structure RV (n m K X V : Nat) (lv : Value) (P : List Bool → List Int → Prop) (w0 : World) (vs : List Value) (w : World) : Prop where
  x : w.heap[X]? = some (.cells #[lv, .slice (some ⟨V, 0, none⟩) (n + 1) (n + 1)] 80 (0, 0))
  v : w.heap[V]? = some (.cells vs.toArray 110 (0, 0))
  len : vs.length = n + 1
  rows : ∀ (j : Nat) (u : Value), vs[j]? = some u → ∃ sts : List StV, w.ownsRow w0.heap.size 84 2 u sts.length (stCells sts) ∧ sts.length ≤ K ∧ ∀ t ∈ sts, StIn w0.heap.size n m P w t
  dis : ∀ (i j : Nat) (u u' : Value) (k : Nat), vs[i]? = some u → vs[j]? = some u' → u.ownBlock = some k → u'.ownBlock = some k → i = j
  b : Below w0.heap.size w0 w
  bx : w0.heap.size ≤ X
  bv : w0.heap.size ≤ V
/-- what stays, however the memory grows. -/
structure Fr (V : Nat) (vs : List Value) (w : World) (vs' : List Value) (w' : World) : Prop where
  os : w'.os = w.os
  tape : w'.tape = w.tape
  output : w'.output = w.output
  size : w.heap.size ≤ w'.heap.size
  block : ∀ k, k < w.heap.size → k ≠ V → (∀ u ∈ vs, u.ownBlock ≠ some k) → w'.heap[k]? = w.heap[k]?
  own : ∀ u ∈ vs', ∀ k, u.ownBlock = some k → (∃ u' ∈ vs, u'.ownBlock = some k) ∨ w.heap.size ≤ k
section
variable {n m K X V : Nat} {lv : Value} {P : List Bool → List Int → Prop} {w0 w w' w2 : World} {vs vs' vs2 : List Value}
theorem Fr.of_below (h : Below w.heap.size w w') : Fr V vs w vs w' := ⟨h.os, h.tape, h.output, h.size, fun k hk _ _ => h.block k hk, fun u hu _ hk => .inl ⟨u, hu, hk⟩⟩
theorem Fr.trans (h : Fr V vs w vs' w') (h2 : Fr V vs' w' vs2 w2) : Fr V vs w vs2 w2 := by
  refine ⟨h2.os.trans h.os, h2.tape.trans h.tape, h2.output.trans h.output, Nat.le_trans h.size h2.size, fun k hk hv hu => ?_, fun u hu k hk => ?_⟩
  · refine (h2.block k (Nat.lt_of_lt_of_le hk h.size) hv fun u hu' e => ?_).trans (h.block k hk hv hu)
    rcases h.own u hu' k e with ⟨u2, hu2, e2⟩ | h3
    · exact hu u2 hu2 e2
    · omega
  · rcases h2.own u hu k hk with ⟨u2, hu2, e2⟩ | h3
    · exact h.own u2 hu2 k e2
    · exact .inr (Nat.le_trans h.size h3)
theorem RV.own84 (h : RV n m K X V lv P w0 vs w) {u : Value} (hu : u ∈ vs) {k : Nat} (hk : u.ownBlock = some k) : w0.heap.size ≤ k ∧ k < w.heap.size ∧ ∃ cs, w.heap[k]? = some (.cells cs 84 (0, 0)) := by
  obtain ⟨j, hj⟩ := List.getElem?_of_mem hu
  obtain ⟨sts, ho, _⟩ := h.rows j u hj
  have := ho.lt k hk
  exact ⟨this.1, this.2, own_block_cells ho hk⟩
/-- a row of another kind stays. -/
theorem Fr.row (h : Fr V vs w vs' w') (hr : RV n m K X V lv P w0 vs w) {B e size q : Nat} {v : Value} {xs : List Value} (ho : w.ownsRow B e size v q xs) (h1 : e ≠ 84) (h2 : e ≠ 110) : w'.ownsRow B e size v q xs := by
  refine ⟨ho.1, ho.2.imp id fun ⟨g, cap, cur, e0, e1, e2, r⟩ => ⟨g, cap, cur, e0, e1, (h.block g (Array.getElem?_eq_some_iff.1 e2).1 (fun e3 => ?_) (fun u hu e3 => ?_)).trans e2, r⟩⟩
  · rw [e3, hr.v] at e2
    injection e2 with e2
    injection e2 with _ e2
    exact h2 e2.symm
  · obtain ⟨_, _, cs, e4⟩ := hr.own84 hu e3
    rw [e4] at e2
    injection e2 with e2
    injection e2 with _ e2
    exact h1 e2.symm
theorem StIn.below {t : StV} {B : Nat} (h : StIn B n m P w t) (hb : Below w.heap.size w w') : StIn B n m P w' t := ⟨own_below h.a hb, own_below h.c hb, h.p⟩
theorem RV.lts (h : RV n m K X V lv P w0 vs w) : X < w.heap.size ∧ V < w.heap.size := ⟨(Array.getElem?_eq_some_iff.1 h.x).1, (Array.getElem?_eq_some_iff.1 h.v).1⟩
theorem RV.below (h : RV n m K X V lv P w0 vs w) (hb : Below w.heap.size w w') : RV n m K X V lv P w0 vs w' :=
  ⟨(hb.block _ h.lts.1).trans h.x, (hb.block _ h.lts.2).trans h.v, h.len, fun j u hu => let ⟨sts, h1, h2, h3⟩ := h.rows j u hu; ⟨sts, own_below h1 hb, h2, fun t ht => (h3 t ht).below hb⟩, h.dis, h.b.trans (hb.mono h.b.size), h.bx, h.bv⟩
theorem RV.mono {K' : Nat} (h : RV n m K X V lv P w0 vs w) (hk : K ≤ K') : RV n m K' X V lv P w0 vs w :=
  ⟨h.x, h.v, h.len, fun j u hu => let ⟨sts, h1, h2, h3⟩ := h.rows j u hu; ⟨sts, h1, Nat.le_trans h2 hk, h3⟩, h.dis, h.b, h.bx, h.bv⟩
theorem stCells_snoc (sts : List StV) (t : StV) : stCells (sts ++ [t]) = stCells sts ++ [t.a, t.c] := by simp [stCells]
/-- a state more. -/
theorem RV.add (h : RV n m K X V lv P w0 vs w) {j : Nat} {u u' : Value} (hu : vs[j]? = some u) {sts : List StV} (ho : w.ownsRow w0.heap.size 84 2 u sts.length (stCells sts)) (hst : ∀ t ∈ sts, StIn w0.heap.size n m P w t)
    (hK : sts.length ≤ K) {t : StV} (ht : StIn w0.heap.size n m P w t) (hg : w.grownBy w' u.ownBlock) (ho' : w'.ownsRow w0.heap.size 84 2 u' (sts.length + 1) (stCells (sts ++ [t]))) (hat : u'.ownBlock = u.ownBlock ∨ u'.ownBlock = some w.heap.size) :
    RV n m (K + 1) X V lv P w0 (vs.set j u') (w'.setCell ⟨V, j, none⟩ u') ∧ Fr V vs w (vs.set j u') (w'.setCell ⟨V, j, none⟩ u') := by
  have hjl := (List.getElem?_eq_some_iff.1 hu).1
  have hum := List.mem_of_getElem? hu
  have hblk : ∀ k, k < w.heap.size → u.ownBlock ≠ some k → w'.heap[k]? = w.heap[k]? := fun k hk hne => hg.block k hk (fun e => hne e.symm)
  have hne : ∀ k c t' fr, w.heap[k]? = some (.cells c t' fr) → t' ≠ 84 → u.ownBlock ≠ some k := by
    intro k c t' fr hk h84 e
    obtain ⟨_, _, cs, e4⟩ := h.own84 hum e
    rw [e4] at hk
    injection hk with hk
    injection hk with _ hk
    exact h84 hk.symm
  have hX := (hblk X h.lts.1 (hne _ _ _ _ h.x (by decide))).trans h.x
  have hV := (hblk V h.lts.2 (hne _ _ _ _ h.v (by decide))).trans h.v
  have hXV : X ≠ V := by
    intro e
    have := h.x
    rw [e, h.v] at this
    injection this with this
    injection this with _ this
    cases this
  have hset : ∀ k, k ≠ V → (w'.setCell ⟨V, j, none⟩ u').heap[k]? = w'.heap[k]? := fun k hk => Below.heap_setCell _ _ _ _ hk
  have own84' : ∀ {B size q : Nat} {v : Value} {xs : List Value} {e : TypeId}, e ≠ 110 → w'.ownsRow B e size v q xs → (w'.setCell ⟨V, j, none⟩ u').ownsRow B e size v q xs := by
    intro B size q v xs e he hh
    refine own_setCell hh (fun cs hc => ?_) _
    rw [hV] at hc
    injection hc with hc
    injection hc with _ hc
    exact he hc.symm
  have keep : ∀ {B size q : Nat} {v : Value} {xs : List Value} {e : TypeId}, e ≠ 110 → e ≠ 84 → w.ownsRow B e size v q xs → (w'.setCell ⟨V, j, none⟩ u').ownsRow B e size v q xs := by
    intro B size q v xs e he he4 hh
    refine own84' he (own_grown hh hg fun g hgv e1 => ?_)
    obtain ⟨cs, hc⟩ := own_block_cells hh hgv
    exact hne _ _ _ _ hc he4 e1
  have stk : ∀ t', StIn w0.heap.size n m P w t' → StIn w0.heap.size n m P (w'.setCell ⟨V, j, none⟩ u') t' := fun t' h' => ⟨keep (by decide) (by decide) h'.a, keep (by decide) (by decide) h'.c, h'.p⟩
  have hown : ∀ q ∈ vs.set j u', ∀ k, q.ownBlock = some k → (∃ q' ∈ vs, q'.ownBlock = some k) ∨ w.heap.size ≤ k := by
    intro q hq k hk
    rcases List.mem_or_eq_of_mem_set hq with hq | rfl
    · exact .inl ⟨q, hq, hk⟩
    · rcases hat with e | e
      · exact .inl ⟨u, hum, e ▸ hk⟩
      · rw [e] at hk
        injection hk with hk
        exact .inr (by omega)
  refine ⟨⟨(hset X hXV).trans hX, ?_, by rw [List.length_set]; exact h.len, fun i q hq => ?_, fun i i' q q' k hq hq' hk hk' => ?_, ?_, h.bx, h.bv⟩, ⟨by show w'.os = _; exact hg.os, by show w'.tape = _; exact hg.tape, by show w'.output = _; exact hg.output, by simpa using hg.size, fun k hk hv hu => (hset k hv).trans (hblk k hk (hu u hum)), hown⟩⟩
  · have := set_block (i := j) hV u'
    simpa using this
  · by_cases hij : j = i
    · subst hij
      rw [List.getElem?_set_self hjl] at hq
      injection hq with hq
      subst hq
      refine ⟨sts ++ [t], ?_, by simp; omega, fun t' ht' => ?_⟩
      · have := own84' (by decide) ho'
        simpa using this
      · rcases List.mem_append.1 ht' with h' | h'
        · exact stk _ (hst _ h')
        · obtain rfl : t' = t := by simpa using h'
          exact stk _ ht
    · rw [List.getElem?_set_ne hij] at hq
      obtain ⟨sts', h1, h2, h3⟩ := h.rows i q hq
      refine ⟨sts', own84' (by decide) (own_grown h1 hg fun g hgv e1 => ?_), by omega, fun t' ht' => stk _ (h3 t' ht')⟩
      exact hij (h.dis _ _ _ _ _ hu hq e1 hgv)
  · have lt_of : ∀ (i : Nat) (q : Value), vs[i]? = some q → q.ownBlock = some k → k < w.heap.size := fun i q hq hk => (h.own84 (List.mem_of_getElem? hq) hk).2.1
    by_cases hij : j = i
    · by_cases hij' : j = i'
      · omega
      · rw [List.getElem?_set_ne hij'] at hq'
        subst hij
        rw [List.getElem?_set_self hjl] at hq
        injection hq with hq
        subst hq
        have := lt_of _ _ hq' hk'
        rcases hat with e | e
        · exact h.dis _ _ _ _ _ hu hq' (e ▸ hk) hk'
        · rw [e] at hk
          injection hk with hk
          omega
    · rw [List.getElem?_set_ne hij] at hq
      by_cases hij' : j = i'
      · subst hij'
        rw [List.getElem?_set_self hjl] at hq'
        injection hq' with hq'
        subst hq'
        have := lt_of _ _ hq hk
        rcases hat with e | e
        · exact (h.dis _ _ _ _ _ hu hq (e ▸ hk') hk).symm
        · rw [e] at hk'
          injection hk' with hk'
          omega
      · rw [List.getElem?_set_ne hij'] at hq'
        exact h.dis _ _ _ _ _ hq hq' hk hk'
  · exact (h.b.grown hg h.b.size (fun k hk => (ho.lt k hk).1)).setCell (by exact h.bv) _
end
end Go.Proofs.Ytpnegacfanbcfaa

/- The document's search of deeds: what holds on the way. -/
namespace Go.Proofs.Ytpnegacfanbcfaa
open Go.RowKit Go.Maps

/-- while it goes over the deeds: S is the box of its state. -/
structure GI (n m K X V S : Nat) (lv : Value) (P : List Bool → List Int → Prop) (w0 : World) (sa sc ov : Value) (inn : List Bool) (cells : List Int) (xs : List Nat) (vs0 : List Value) (W : World) (vs : List Value) (wr : World) : Prop where
  rv : RV n m K X V lv P w0 vs wr
  fr : Fr V vs0 W vs wr
  s : wr.heap[S]? = some (.cells #[sa, sc] 84 (0, 0))
  n84 : ∀ u ∈ vs, u.ownBlock ≠ some S
  a : wr.ownsRow w0.heap.size 4 1 sa n (bools inn)
  c : wr.ownsRow w0.heap.size 3 1 sc m (nums cells)
  o : wr.ownsRow w0.heap.size 3 1 ov xs.length (ints xs)
section
variable {n m K K' X V S : Nat} {lv : Value} {P : List Bool → List Int → Prop} {w0 W wr wr' : World} {sa sc ov : Value} {inn : List Bool} {cells : List Int} {xs : List Nat} {vs0 vs vs' : List Value}
theorem GI.ltS (h : GI n m K X V S lv P w0 sa sc ov inn cells xs vs0 W vs wr) : S < wr.heap.size := (Array.getElem?_eq_some_iff.1 h.s).1
theorem GI.step (h : GI n m K X V S lv P w0 sa sc ov inn cells xs vs0 W vs wr) (hr : RV n m K' X V lv P w0 vs' wr') (hf : Fr V vs wr vs' wr') : GI n m K' X V S lv P w0 sa sc ov inn cells xs vs0 W vs' wr' := by
  refine ⟨hr, h.fr.trans hf, (hf.block S h.ltS (fun e => ?_) h.n84).trans h.s, fun u hu hk => ?_, hf.row h.rv h.a (by decide) (by decide), hf.row h.rv h.c (by decide) (by decide), hf.row h.rv h.o (by decide) (by decide)⟩
  · have := h.s
    rw [e, h.rv.v] at this
    injection this with this
    injection this with _ this
    cases this
  · rcases hf.own u hu S hk with ⟨u', hu', hk'⟩ | h'
    · exact h.n84 u' hu' hk'
    · have := h.ltS
      omega
theorem GI.below (h : GI n m K X V S lv P w0 sa sc ov inn cells xs vs0 W vs wr) (hb : Below wr.heap.size wr wr') : GI n m K X V S lv P w0 sa sc ov inn cells xs vs0 W vs wr' := h.step (h.rv.below hb) (Fr.of_below hb)
theorem GI.mono (h : GI n m K X V S lv P w0 sa sc ov inn cells xs vs0 W vs wr) (hk : K ≤ K') : GI n m K' X V S lv P w0 sa sc ov inn cells xs vs0 W vs wr := { h with rv := h.rv.mono hk }
theorem GI.start {w : World} (hr : RV n m K X V lv P w0 vs w) (ha : w.ownsRow w0.heap.size 4 1 sa n (bools inn)) (hc : w.ownsRow w0.heap.size 3 1 sc m (nums cells)) (ho : w.ownsRow w0.heap.size 3 1 ov xs.length (ints xs)) :
    GI n m K X V w.heap.size lv P w0 sa sc ov inn cells xs vs (w.alloc (.cells #[sa, sc] 84)) vs (w.alloc (.cells #[sa, sc] 84)) := by
  refine ⟨hr.below ((Below.refl _ _).alloc (Nat.le_refl _) _), Fr.of_below (Below.refl _ _), heap_alloc_new w _, fun u hu hk => ?_, ha.alloc _, hc.alloc _, ho.alloc _⟩
  have := (hr.own84 hu hk).2.1
  omega
end
/-- is there something left to be put into the order? -/
def LeftRel (l : List Deed) (inn : List Bool) (W : World) (k : Nat) (b i : Value) (wr : World) : Prop :=
  ∃ (j : Nat) (c : Bool), j ≤ l.length ∧ i = .int .i64 (j : Int) ∧ k = l.length - j ∧ b = .bool c ∧ (c = false → ∀ j' e, j' < j → l[j']? = some e → (decide (e.end_ = 0) || inn.getD j' false) = true) ∧
    (c = true → ∃ (j' : Nat) (e : Deed), l[j']? = some e ∧ (decide (e.end_ = 0) || inn.getD j' false) = false) ∧ wr = W
theorem left_done {l : List Deed} {inn : List Bool} (h : ∀ j' e, j' < l.length → l[j']? = some e → (decide (e.end_ = 0) || inn.getD j' false) = true) : doneL l inn = true := by
  unfold doneL
  rw [List.all_eq_true]
  rintro ⟨e, i⟩ hp
  have he := List.mem_zipIdx_iff_getElem?.1 hp
  exact h i e (List.getElem?_eq_some_iff.1 he).1 he
theorem left_not {l : List Deed} {inn : List Bool} (h : ∃ (j' : Nat) (e : Deed), l[j']? = some e ∧ (decide (e.end_ = 0) || inn.getD j' false) = false) : doneL l inn = false := by
  obtain ⟨j, e, he, h0⟩ := h
  rw [Bool.eq_false_iff]
  intro h
  unfold doneL at h
  rw [List.all_eq_true] at h
  have : (decide (e.end_ = 0) || inn.getD j false) = true := h (e, j) (List.mem_zipIdx_iff_getElem?.2 he)
  rw [h0] at this
  cases this
/-- over what was in vain. -/
def VainRel (n m K X V S : Nat) (lv : Value) (P : List Bool → List Int → Prop) (w0 : World) (sa sc ov : Value) (inn : List Bool) (cells : List Int) (xs : List Nat) (vs0 : List Value) (W : World) (q : Nat) (k : Nat) (i : Value) (wr : World) : Prop :=
  ∃ j : Nat, j ≤ q ∧ i = .int .i64 (j : Int) ∧ k = q - j ∧ Below W.heap.size W wr ∧ GI n m K X V S lv P w0 sa sc ov inn cells xs vs0 W vs0 wr
/-- over the deeds. -/
def DeedRel (l : List Deed) (m K X V S : Nat) (lv : Value) (w0 : World) (sa sc ov : Value) (inn : List Bool) (cells : List Int) (xs : List Nat) (vs0 : List Value) (W : World) (k : Nat) (i : Value) (wr : World) : Prop :=
  ∃ (j : Nat) (vs : List Value), j ≤ l.length ∧ i = .int .i64 (j : Int) ∧ k = l.length - j ∧ (∀ j', j' < j → KR l inn cells j' none) ∧
    GI l.length m (K + (inn.take j).count false * callsR (inn.count false - 1)) X V S lv (fun i c => LR l i c none) w0 sa sc ov inn cells xs vs0 W vs wr
/-- what the search leaves. -/
def RGPost (l : List Deed) (m K X V : Nat) (lv : Value) (w0 : World) (inn : List Bool) (cells : List Int) (xs : List Nat) (vs : List Value) (w : World) (e : Ending) (w' : World) : Prop :=
  ∃ vs', RV l.length m (K + callsR (inn.count false)) X V lv (fun i c => LR l i c none) w0 vs' w' ∧ Fr V vs w vs' w' ∧ ∃ r b, e = .returned (.tuple #[r, .bool b]) ∧
    ((LR l inn cells none ∧ r = .slice none 0 0 ∧ b = false) ∨ ∃ t, LR l inn cells (some t) ∧ b = true ∧ w'.ownsRow w0.heap.size 3 1 r (xs.length + t.length) (ints (xs ++ t)))
theorem callsR_pos : ∀ r, 1 ≤ callsR r
  | 0 => Nat.le_refl _
  | r + 1 => by simp only [callsR]; omega
end Go.Proofs.Ytpnegacfanbcfaa
