/- The contracts of package diag and of its reference. -/
import Derived.Test.YtiieckcghjhdeaaCnt
import Derived.Test.YtiieckcghjhdeaaPlace
namespace Go.Proofs.Ytiieckcghjhdeaa
open Go.RowKit
set_option linter.unusedVariables false

def wOn (on : Int) (b : Bool) : Int := if b then moreM on else 0
def wOff (off : Int) (b : Bool) : Int := if b then 0 else moreM off
def stuckM (a b on off : Int) : Bool := decide (0 < a) && decide (a ≤ on) || decide (0 < b) && decide (b ≤ off)
theorem ret_two {a a' b b' : Int} (h1 : a = a') (h2 : b = b') : Ending.returned (.agg #[.int .i64 a, .int .i64 b]) = .returned (.agg #[.int .i64 a', .int .i64 b']) := by rw [h1, h2]
set_option maxHeartbeats 400000 in
theorem more_any (a : Int) (w : World) :
    Calls Try.prog 13 #[.int .i64 a] w fun e w' => e = .returned (.int .i64 (moreM a)) ∧ w = w' := by
  go_enter Try.func13, Try.ntmps13
  go_wp2
  all_goals
    go_ret
    exact ⟨ret_int (by unfold moreM; omega), rfl⟩
set_option maxHeartbeats 400000 in
theorem step_any (on off : Int) (b : Bool) (w : World) :
    Calls Try.prog 7 #[.agg #[.int .i64 on, .int .i64 off], .bool b] w fun e w' => e = .returned (.agg #[.int .i64 (wOn on b), .int .i64 (wOff off b)]) ∧ Below w.heap.size w w' := by
  cases b
  all_goals
    go_enter Try.func7, Try.ntmps7
    go_wp2_with (go_at_call 13; refine (more_any _ _).mono ?_; rintro e w' ⟨rfl, rfl⟩)
    go_returns
    exact ⟨rfl, by (repeat' (first | (with_reducible exact Below.refl _ _) | (with_reducible assumption) | (with_reducible refine Below.setCell ?_ ?_ _) | (with_reducible refine Below.alloc ?_ ?_ _) | (with_reducible refine Below.drew ?_) | (with_reducible refine Up.base _ ?_ ?_) | (with_reducible exact LeSize.out) | exact LeSize.out | exact Nat.le_add_right_of_le LeSize.out | exact Nat.le_add_right_of_le (Nat.le_add_right_of_le LeSize.out) | (with_reducible exact Nat.le_refl _) | (simp; done) | (simp; omega)))⟩
set_option maxHeartbeats 400000 in
theorem rstep_any (on off : Int) (b : Bool) (w : World) :
    Calls Try.prog 8 #[.agg #[.int .i64 on, .int .i64 off], .bool b] w fun e w' => e = .returned (.agg #[.int .i64 (wOn on b), .int .i64 (wOff off b)]) ∧ Below w.heap.size w w' := by
  cases b
  all_goals
    go_enter Try.func8, Try.ntmps8
    go_wp2_with (go_at_call 14; refine (rmore_any _ _).mono ?_; rintro e w' ⟨rfl, rfl⟩)
    go_returns
    exact ⟨rfl, by (repeat' (first | (with_reducible exact Below.refl _ _) | (with_reducible assumption) | (with_reducible refine Below.setCell ?_ ?_ _) | (with_reducible refine Below.alloc ?_ ?_ _) | (with_reducible refine Below.drew ?_) | (with_reducible refine Up.base _ ?_ ?_) | (with_reducible exact LeSize.out) | exact LeSize.out | exact Nat.le_add_right_of_le LeSize.out | exact Nat.le_add_right_of_le (Nat.le_add_right_of_le LeSize.out) | (with_reducible exact Nat.le_refl _) | (simp; done) | (simp; omega)))⟩
set_option maxHeartbeats 1000000 in
theorem stuck_any (a b on off : Int) (w : World) :
    Calls Try.prog 9 #[.int .i64 a, .int .i64 b, .agg #[.int .i64 on, .int .i64 off]] w fun e w' => e = .returned (.bool (stuckM a b on off)) ∧ Below w.heap.size w w' := by
  by_cases h1 : 0 < a
  all_goals by_cases h2 : a ≤ on
  all_goals by_cases h3 : 0 < b
  all_goals by_cases h4 : b ≤ off
  all_goals
    go_enter Try.func9, Try.ntmps9
    go_wp2
    go_ret
    exact ⟨ret_bool (by simp [stuckM, *]), by (repeat' (first | (with_reducible exact Below.refl _ _) | (with_reducible assumption) | (with_reducible refine Below.setCell ?_ ?_ _) | (with_reducible refine Below.alloc ?_ ?_ _) | (with_reducible refine Below.drew ?_) | (with_reducible refine Up.base _ ?_ ?_) | (with_reducible exact LeSize.out) | exact LeSize.out | exact Nat.le_add_right_of_le LeSize.out | exact Nat.le_add_right_of_le (Nat.le_add_right_of_le LeSize.out) | (with_reducible exact Nat.le_refl _) | (simp; done) | (simp; omega)))⟩
set_option maxHeartbeats 1000000 in
theorem rstuck_any (a b on off : Int) (w : World) :
    Calls Try.prog 10 #[.int .i64 a, .int .i64 b, .agg #[.int .i64 on, .int .i64 off]] w fun e w' => e = .returned (.bool (stuckM a b on off)) ∧ Below w.heap.size w w' := by
  by_cases h1 : 0 < a
  all_goals by_cases h2 : a ≤ on
  all_goals by_cases h3 : 0 < b
  all_goals by_cases h4 : b ≤ off
  all_goals
    go_enter Try.func10, Try.ntmps10
    go_wp2
    go_ret
    exact ⟨ret_bool (by simp [stuckM, *]), by (repeat' (first | (with_reducible exact Below.refl _ _) | (with_reducible assumption) | (with_reducible refine Below.setCell ?_ ?_ _) | (with_reducible refine Below.alloc ?_ ?_ _) | (with_reducible refine Below.drew ?_) | (with_reducible refine Up.base _ ?_ ?_) | (with_reducible exact LeSize.out) | exact LeSize.out | exact Nat.le_add_right_of_le LeSize.out | exact Nat.le_add_right_of_le (Nat.le_add_right_of_le LeSize.out) | (with_reducible exact Nat.le_refl _) | (simp; done) | (simp; omega)))⟩

set_option maxHeartbeats 400000 in
theorem awake_any (w : World) :
    Calls Try.prog 11 #[] w fun e w' => e = .returned (.bool true) ∧ Below w.heap.size w w' := by
  have e1 : wOn 0 true = 1 := by decide
  have e2 : wOn 1 true = 2 := by decide
  have e3 : wOff 0 true = 0 := by decide
  have e4 : stuckM 2 0 2 0 = true := by decide
  have e5 : stuckM 3 1 2 0 = false := by decide
  go_enter Try.func11, Try.ntmps11
  go_wp2_with (first
    | (go_at_call 7; refine (Up.run (step_any _ _ _ _)).mono ?_; rintro e w' ⟨rfl, u, rfl⟩)
    | (go_at_call 9; refine (Up.run (stuck_any _ _ _ _ _)).mono ?_; rintro e w' ⟨rfl, u, rfl⟩))
  go_ret
  exact ⟨rfl, by (repeat' (first | (with_reducible exact Below.refl _ _) | (with_reducible assumption) | (with_reducible refine Below.setCell ?_ ?_ _) | (with_reducible refine Below.alloc ?_ ?_ _) | (with_reducible refine Below.drew ?_) | (with_reducible refine Up.base _ ?_ ?_) | (with_reducible exact LeSize.out) | exact LeSize.out | exact Nat.le_add_right_of_le LeSize.out | exact Nat.le_add_right_of_le (Nat.le_add_right_of_le LeSize.out) | (with_reducible exact Nat.le_refl _) | (simp; done) | (simp; omega)))⟩

theorem arr2 (cs : Array Value) (h : cs.size = 2) : ∃ c0 c1, cs = #[c0, c1] := by
  obtain ⟨l⟩ := cs
  match l, h with
  | [c0, c1], _ => exact ⟨c0, c1, rfl⟩
set_option maxHeartbeats 1000000 in
theorem diagAll_walk (on off : Int) (b : Bool) (x y : Int) (w : World) (_ : InKind .i64 on) (_ : InKind .i64 off) (_ : InKind .i64 x) (_ : InKind .i64 y) :
    Calls Try.prog 3 #[.agg #[.int .i64 on, .int .i64 off], .bool b, .int .i64 x, .int .i64 y] w fun e w' => e = .returned (.bool true) ∧ Below w.heap.size w w' := by
  go_enter Try.func3, Try.ntmps3
  go_wp2
  (refine wp_region_up (by kernel_rfl) (by kernel_rfl) ?_; (repeat (go_big_quiet_step ((first | (go_at_call 7; exact Up.calls (step_any _ _ _ _)) | (go_at_call 8; exact Up.calls (rstep_any _ _ _ _)) | (go_at_call 9; exact Up.calls (stuck_any _ _ _ _ _)) | (go_at_call 10; exact Up.calls (rstuck_any _ _ _ _ _)) | (go_at_call 11; exact Up.calls (awake_any _)) | fail)))); refine wpQuiet_nil ?_; rintro _ ⟨u, rfl⟩)
  go_wp2
  go_ret
  exact ⟨rfl, by (repeat' (first | (with_reducible exact Below.refl _ _) | (with_reducible assumption) | (with_reducible refine Below.setCell ?_ ?_ _) | (with_reducible refine Below.alloc ?_ ?_ _) | (with_reducible refine Below.drew ?_) | (with_reducible refine Up.base _ ?_ ?_) | (with_reducible exact LeSize.out) | exact LeSize.out | exact Nat.le_add_right_of_le LeSize.out | exact Nat.le_add_right_of_le (Nat.le_add_right_of_le LeSize.out) | (with_reducible exact Nat.le_refl _) | (simp; done) | (simp; omega)))⟩
end Go.Proofs.Ytiieckcghjhdeaa
