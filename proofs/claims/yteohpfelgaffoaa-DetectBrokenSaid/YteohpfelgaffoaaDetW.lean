/- The contracts of package diag and of its reference. -/
import Derived.Test.YteohpfelgaffoaaCnt
import Derived.Test.YteohpfelgaffoaaPlace
namespace Go.Proofs.Yteohpfelgaffoaa
open Go.RowKit
set_option linter.unusedVariables false

def wt_wOn (on : Int) (b : Bool) : Int := if b then moreM on else 0
def wt_wOff (off : Int) (b : Bool) : Int := if b then 0 else moreM off
def wt_stuckM (a b on off : Int) : Bool := decide (0 < a) && decide (a ≤ on) || decide (0 < b) && decide (b ≤ off)
theorem wt_ret_two {a a' b b' : Int} (h1 : a = a') (h2 : b = b') : Ending.returned (.agg #[.int .i64 a, .int .i64 b]) = .returned (.agg #[.int .i64 a', .int .i64 b']) := by rw [h1, h2]
set_option maxHeartbeats 400000 in
theorem wt_more_any (a : Int) (w : World) :
    Calls Try.prog 54 #[.int .i64 a] w fun e w' => e = .returned (.int .i64 (moreM a)) ∧ w = w' := by
  go_enter Try.func54, Try.ntmps54
  go_wp2
  all_goals
    go_ret
    exact ⟨ret_int (by unfold moreM; omega), rfl⟩
set_option maxHeartbeats 400000 in
theorem wt_step_any (on off : Int) (b : Bool) (w : World) :
    Calls Try.prog 29 #[.agg #[.int .i64 on, .int .i64 off], .bool b] w fun e w' => e = .returned (.agg #[.int .i64 (wt_wOn on b), .int .i64 (wt_wOff off b)]) ∧ Below w.heap.size w w' := by
  cases b
  all_goals
    go_enter Try.func29, Try.ntmps29
    go_wp2_with (go_at_call 54; refine (wt_more_any _ _).mono ?_; rintro e w' ⟨rfl, rfl⟩)
    go_returns
    exact ⟨rfl, by (repeat' (first | (with_reducible exact Below.refl _ _) | (with_reducible assumption) | (with_reducible refine Below.setCell ?_ ?_ _) | (with_reducible refine Below.alloc ?_ ?_ _) | (with_reducible refine Below.drew ?_) | (with_reducible refine Up.base _ ?_ ?_) | (with_reducible exact LeSize.out) | exact LeSize.out | exact Nat.le_add_right_of_le LeSize.out | exact Nat.le_add_right_of_le (Nat.le_add_right_of_le LeSize.out) | (with_reducible exact Nat.le_refl _) | (simp; done) | (simp; omega)))⟩
set_option maxHeartbeats 400000 in
theorem wt_rstep_any (on off : Int) (b : Bool) (w : World) :
    Calls Try.prog 41 #[.agg #[.int .i64 on, .int .i64 off], .bool b] w fun e w' => e = .returned (.agg #[.int .i64 (wt_wOn on b), .int .i64 (wt_wOff off b)]) ∧ Below w.heap.size w w' := by
  cases b
  all_goals
    go_enter Try.func41, Try.ntmps41
    go_wp2_with (go_at_call 61; refine (rmore_any _ _).mono ?_; rintro e w' ⟨rfl, rfl⟩)
    go_returns
    exact ⟨rfl, by (repeat' (first | (with_reducible exact Below.refl _ _) | (with_reducible assumption) | (with_reducible refine Below.setCell ?_ ?_ _) | (with_reducible refine Below.alloc ?_ ?_ _) | (with_reducible refine Below.drew ?_) | (with_reducible refine Up.base _ ?_ ?_) | (with_reducible exact LeSize.out) | exact LeSize.out | exact Nat.le_add_right_of_le LeSize.out | exact Nat.le_add_right_of_le (Nat.le_add_right_of_le LeSize.out) | (with_reducible exact Nat.le_refl _) | (simp; done) | (simp; omega)))⟩
set_option maxHeartbeats 1000000 in
theorem wt_stuck_any (a b on off : Int) (w : World) :
    Calls Try.prog 36 #[.int .i64 a, .int .i64 b, .agg #[.int .i64 on, .int .i64 off]] w fun e w' => e = .returned (.bool (wt_stuckM a b on off)) ∧ Below w.heap.size w w' := by
  by_cases h1 : 0 < a
  all_goals by_cases h2 : a ≤ on
  all_goals by_cases h3 : 0 < b
  all_goals by_cases h4 : b ≤ off
  all_goals
    go_enter Try.func36, Try.ntmps36
    go_wp2
    go_ret
    exact ⟨ret_bool (by simp [wt_stuckM, *]), by (repeat' (first | (with_reducible exact Below.refl _ _) | (with_reducible assumption) | (with_reducible refine Below.setCell ?_ ?_ _) | (with_reducible refine Below.alloc ?_ ?_ _) | (with_reducible refine Below.drew ?_) | (with_reducible refine Up.base _ ?_ ?_) | (with_reducible exact LeSize.out) | exact LeSize.out | exact Nat.le_add_right_of_le LeSize.out | exact Nat.le_add_right_of_le (Nat.le_add_right_of_le LeSize.out) | (with_reducible exact Nat.le_refl _) | (simp; done) | (simp; omega)))⟩
set_option maxHeartbeats 1000000 in
theorem wt_rstuck_any (a b on off : Int) (w : World) :
    Calls Try.prog 45 #[.int .i64 a, .int .i64 b, .agg #[.int .i64 on, .int .i64 off]] w fun e w' => e = .returned (.bool (wt_stuckM a b on off)) ∧ Below w.heap.size w w' := by
  by_cases h1 : 0 < a
  all_goals by_cases h2 : a ≤ on
  all_goals by_cases h3 : 0 < b
  all_goals by_cases h4 : b ≤ off
  all_goals
    go_enter Try.func45, Try.ntmps45
    go_wp2
    go_ret
    exact ⟨ret_bool (by simp [wt_stuckM, *]), by (repeat' (first | (with_reducible exact Below.refl _ _) | (with_reducible assumption) | (with_reducible refine Below.setCell ?_ ?_ _) | (with_reducible refine Below.alloc ?_ ?_ _) | (with_reducible refine Below.drew ?_) | (with_reducible refine Up.base _ ?_ ?_) | (with_reducible exact LeSize.out) | exact LeSize.out | exact Nat.le_add_right_of_le LeSize.out | exact Nat.le_add_right_of_le (Nat.le_add_right_of_le LeSize.out) | (with_reducible exact Nat.le_refl _) | (simp; done) | (simp; omega)))⟩
end Go.Proofs.Yteohpfelgaffoaa
