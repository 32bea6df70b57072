/- The contracts of package gap and of its reference. -/
import Derived.Test.YtmapdkhcfejkaaaCnt
import Derived.Test.YtmapdkhcfejkaaaPlace
namespace Go.Proofs.Ytmapdkhcfejkaaa
open Go.RowKit
set_option linter.unusedVariables false

def cutT (n : Int) : Int := min (max n 0) 9999
theorem cutT_bd (n : Int) : 0 ≤ cutT n ∧ cutT n ≤ 9999 := by unfold cutT; omega
theorem cutM_T (n : Int) : cutM n 0 9999 = cutT n := by unfold cutM cutT; split <;> (try split) <;> omega
def lessM (n : Int) : Int := if cutT n = 0 then 0 else cutT n - 1
def leftM (gap left : Int) (here : Bool) : Int := if here then gap else lessM left
def limM (mx tp lim : Int) : Int := max (min lim tp) mx
theorem rcut_any (a : Int) (w : World) :
    Calls Try.prog 39 #[.int .i64 a, .int .i64 0, .int .i64 9999] w fun e w' => e = .returned (.int .i64 (cutT a)) ∧ w = w' := by
  have := cut_any a 0 9999 w
  rwa [cutM_T] at this
set_option maxHeartbeats 400000 in
theorem rless_any (a : Int) (w : World) :
    Calls Try.prog 77 #[.int .i64 a] w fun e w' => e = .returned (.int .i64 (lessM a)) ∧ w = w' := by
  have h := cutT_bd a
  go_enter Try.func77, Try.ntmps77
  go_wp2_with (go_at_call 39; refine (rcut_any _ _).mono ?_; rintro e w' ⟨rfl, rfl⟩)
  all_goals
    go_ret
    exact ⟨ret_int (by unfold lessM; split <;> simp_all), rfl⟩
set_option maxHeartbeats 1000000 in
theorem left_any (pon : Bool) (pmin pgap pmax ptop pstep pyel pred pwalk pblinks prec : Int) (plock prest : Bool) (n : Int) (b : Bool) (w : World) :
    Calls Try.prog 54 #[.agg #[.bool pon, .int .i64 pmin, .int .i64 pgap, .int .i64 pmax, .int .i64 ptop, .int .i64 pstep, .int .i64 pyel, .int .i64 pred, .int .i64 pwalk, .int .i64 pblinks, .int .i64 prec, .bool plock, .bool prest], .int .i64 n, .bool b] w fun e w' => e = .returned (.int .i64 (leftM pgap n b)) ∧ Below w.heap.size w w' := by
  cases b
  · by_cases h1 : 9999 < n
    all_goals by_cases h2 : 0 < n
    all_goals (try (exfalso; omega))
    all_goals
      go_enter Try.func54, Try.ntmps54
      go_wp2
      go_ret
      exact ⟨ret_int (by unfold leftM lessM cutT; simp only [Bool.false_eq_true, if_false]; split <;> omega), by (repeat' (first | (with_reducible exact Below.refl _ _) | (with_reducible assumption) | (with_reducible refine Below.setCell ?_ ?_ _) | (with_reducible refine Below.alloc ?_ ?_ _) | (with_reducible refine Below.drew ?_) | (with_reducible refine Up.base _ ?_ ?_) | (with_reducible exact LeSize.out) | exact LeSize.out | exact Nat.le_add_right_of_le LeSize.out | exact Nat.le_add_right_of_le (Nat.le_add_right_of_le LeSize.out) | (with_reducible exact Nat.le_refl _) | (simp; done) | (simp; omega)))⟩
  · go_enter Try.func54, Try.ntmps54
    go_wp2
    go_ret
    exact ⟨ret_int (by simp [leftM]), by (repeat' (first | (with_reducible exact Below.refl _ _) | (with_reducible assumption) | (with_reducible refine Below.setCell ?_ ?_ _) | (with_reducible refine Below.alloc ?_ ?_ _) | (with_reducible refine Below.drew ?_) | (with_reducible refine Up.base _ ?_ ?_) | (with_reducible exact LeSize.out) | exact LeSize.out | exact Nat.le_add_right_of_le LeSize.out | exact Nat.le_add_right_of_le (Nat.le_add_right_of_le LeSize.out) | (with_reducible exact Nat.le_refl _) | (simp; done) | (simp; omega)))⟩
set_option maxHeartbeats 1000000 in
theorem rleft_any (pon : Bool) (pmin pgap pmax ptop pstep pyel pred pwalk pblinks prec : Int) (plock prest : Bool) (n : Int) (b : Bool) (w : World) :
    Calls Try.prog 58 #[.agg #[.bool pon, .int .i64 pmin, .int .i64 pgap, .int .i64 pmax, .int .i64 ptop, .int .i64 pstep, .int .i64 pyel, .int .i64 pred, .int .i64 pwalk, .int .i64 pblinks, .int .i64 prec, .bool plock, .bool prest], .int .i64 n, .bool b] w fun e w' => e = .returned (.int .i64 (leftM pgap n b)) ∧ Below w.heap.size w w' := by
  cases b
  all_goals
    go_enter Try.func58, Try.ntmps58
    go_wp2_with (go_at_call 77; refine (rless_any _ _).mono ?_; rintro e w' ⟨rfl, rfl⟩)
    go_ret
    exact ⟨ret_int (by simp [leftM]), by (repeat' (first | (with_reducible exact Below.refl _ _) | (with_reducible assumption) | (with_reducible refine Below.setCell ?_ ?_ _) | (with_reducible refine Below.alloc ?_ ?_ _) | (with_reducible refine Below.drew ?_) | (with_reducible refine Up.base _ ?_ ?_) | (with_reducible exact LeSize.out) | exact LeSize.out | exact Nat.le_add_right_of_le LeSize.out | exact Nat.le_add_right_of_le (Nat.le_add_right_of_le LeSize.out) | (with_reducible exact Nat.le_refl _) | (simp; done) | (simp; omega)))⟩
set_option maxHeartbeats 1000000 in
theorem gbegin_any (pon : Bool) (pmin pgap pmax ptop pstep pyel pred pwalk pblinks prec : Int) (plock prest : Bool) (w : World) :
    Calls Try.prog 30 #[.agg #[.bool pon, .int .i64 pmin, .int .i64 pgap, .int .i64 pmax, .int .i64 ptop, .int .i64 pstep, .int .i64 pyel, .int .i64 pred, .int .i64 pwalk, .int .i64 pblinks, .int .i64 prec, .bool plock, .bool prest]] w fun e w' => e = .returned (.agg #[.int .i64 pmax, .int .i64 0, .int .i64 0]) ∧ Below w.heap.size w w' := by
  go_enter Try.func30, Try.ntmps30
  go_wp2
  go_returns
  exact ⟨rfl, by (repeat' (first | (with_reducible exact Below.refl _ _) | (with_reducible assumption) | (with_reducible refine Below.setCell ?_ ?_ _) | (with_reducible refine Below.alloc ?_ ?_ _) | (with_reducible refine Below.drew ?_) | (with_reducible refine Up.base _ ?_ ?_) | (with_reducible exact LeSize.out) | exact LeSize.out | exact Nat.le_add_right_of_le LeSize.out | exact Nat.le_add_right_of_le (Nat.le_add_right_of_le LeSize.out) | (with_reducible exact Nat.le_refl _) | (simp; done) | (simp; omega)))⟩
set_option maxHeartbeats 1000000 in
theorem limit_any (pon : Bool) (pmin pgap pmax ptop pstep pyel pred pwalk pblinks prec : Int) (plock prest : Bool) (lim up dn : Int) (w : World) :
    Calls Try.prog 55 #[.agg #[.bool pon, .int .i64 pmin, .int .i64 pgap, .int .i64 pmax, .int .i64 ptop, .int .i64 pstep, .int .i64 pyel, .int .i64 pred, .int .i64 pwalk, .int .i64 pblinks, .int .i64 prec, .bool plock, .bool prest], .agg #[.int .i64 lim, .int .i64 up, .int .i64 dn]] w fun e w' => e = .returned (.int .i64 (limM pmax ptop lim)) ∧ Below w.heap.size w w' := by
  go_enter Try.func55, Try.ntmps55
  go_wp2
  all_goals
    go_ret
    exact ⟨ret_int (by unfold limM; omega), by (repeat' (first | (with_reducible exact Below.refl _ _) | (with_reducible assumption) | (with_reducible refine Below.setCell ?_ ?_ _) | (with_reducible refine Below.alloc ?_ ?_ _) | (with_reducible refine Below.drew ?_) | (with_reducible refine Up.base _ ?_ ?_) | (with_reducible exact LeSize.out) | exact LeSize.out | exact Nat.le_add_right_of_le LeSize.out | exact Nat.le_add_right_of_le (Nat.le_add_right_of_le LeSize.out) | (with_reducible exact Nat.le_refl _) | (simp; done) | (simp; omega)))⟩
set_option maxHeartbeats 1000000 in
theorem rlimit_any (pon : Bool) (pmin pgap pmax ptop pstep pyel pred pwalk pblinks prec : Int) (plock prest : Bool) (lim up dn : Int) (w : World) :
    Calls Try.prog 20 #[.agg #[.bool pon, .int .i64 pmin, .int .i64 pgap, .int .i64 pmax, .int .i64 ptop, .int .i64 pstep, .int .i64 pyel, .int .i64 pred, .int .i64 pwalk, .int .i64 pblinks, .int .i64 prec, .bool plock, .bool prest], .agg #[.int .i64 lim, .int .i64 up, .int .i64 dn]] w fun e w' => e = .returned (.int .i64 (limM pmax ptop lim)) ∧ Below w.heap.size w w' := by
  go_enter Try.func20, Try.ntmps20
  go_wp2
  all_goals
    go_ret
    exact ⟨ret_int (by unfold limM; omega), by (repeat' (first | (with_reducible exact Below.refl _ _) | (with_reducible assumption) | (with_reducible refine Below.setCell ?_ ?_ _) | (with_reducible refine Below.alloc ?_ ?_ _) | (with_reducible refine Below.drew ?_) | (with_reducible refine Up.base _ ?_ ?_) | (with_reducible exact LeSize.out) | exact LeSize.out | exact Nat.le_add_right_of_le LeSize.out | exact Nat.le_add_right_of_le (Nat.le_add_right_of_le LeSize.out) | (with_reducible exact Nat.le_refl _) | (simp; done) | (simp; omega)))⟩

def plusM (a b : Int) : Int := if 0 < b ∧ 9223372036854775807 - b < a then 9223372036854775807 else if b < 0 ∧ a < -9223372036854775808 - b then -9223372036854775808 else a + b
def minusM (a b : Int) : Int := if 0 < b ∧ a < -9223372036854775808 + b then -9223372036854775808 else if b < 0 ∧ 9223372036854775807 + b < a then 9223372036854775807 else a - b
set_option maxHeartbeats 1000000 in
theorem plus_any (a b : Int) (w : World) (ha : -9223372036854775808 ≤ a ∧ a ≤ 9223372036854775807) (hb : -9223372036854775808 ≤ b ∧ b ≤ 9223372036854775807) :
    Calls Try.prog 78 #[.int .i64 a, .int .i64 b] w fun e w' => e = .returned (.int .i64 (plusM a b)) ∧ w = w' := by
  by_cases h1 : 0 < b
  · by_cases h2 : 9223372036854775807 - b < a
    all_goals
      go_enter Try.func78, Try.ntmps78
      go_wp2
      go_ret
      exact ⟨ret_int (by unfold plusM; (repeat' split) <;> omega), rfl⟩
  · by_cases h3 : b < 0
    · by_cases h4 : a < -9223372036854775808 - b
      all_goals
        go_enter Try.func78, Try.ntmps78
        go_wp2
        go_ret
        exact ⟨ret_int (by unfold plusM; (repeat' split) <;> omega), rfl⟩
    · go_enter Try.func78, Try.ntmps78
      go_wp2
      go_ret
      exact ⟨ret_int (by unfold plusM; (repeat' split) <;> omega), rfl⟩
set_option maxHeartbeats 1000000 in
theorem minus_any (a b : Int) (w : World) (ha : -9223372036854775808 ≤ a ∧ a ≤ 9223372036854775807) (hb : -9223372036854775808 ≤ b ∧ b ≤ 9223372036854775807) :
    Calls Try.prog 79 #[.int .i64 a, .int .i64 b] w fun e w' => e = .returned (.int .i64 (minusM a b)) ∧ w = w' := by
  by_cases h1 : 0 < b
  · by_cases h2 : a < -9223372036854775808 + b
    all_goals
      go_enter Try.func79, Try.ntmps79
      go_wp2
      go_ret
      exact ⟨ret_int (by unfold minusM; (repeat' split) <;> omega), rfl⟩
  · by_cases h3 : b < 0
    · by_cases h4 : 9223372036854775807 + b < a
      all_goals
        go_enter Try.func79, Try.ntmps79
        go_wp2
        go_ret
        exact ⟨ret_int (by unfold minusM; (repeat' split) <;> omega), rfl⟩
    · go_enter Try.func79, Try.ntmps79
      go_wp2
      go_ret
      exact ⟨ret_int (by unfold minusM; (repeat' split) <;> omega), rfl⟩
end Go.Proofs.Ytmapdkhcfejkaaa
