/- The contracts of package ped and of its reference. -/
import Derived.Test.YtmapdkhcfejkaaaCnt
import Derived.Test.YtmapdkhcfejkaaaPlace
namespace Go.Proofs.Ytmapdkhcfejkaaa
open Go.RowKit
set_option linter.unusedVariables false

def ftM (wa bl st tm : Int) (b : Bool) : Int × Int :=
  if st = 1 then (if wa ≤ tm then (2, 1) else (1, moreM tm))
  else if st = 2 then (if bl ≤ tm then (0, 0) else (2, moreM tm))
  else if b = true ∧ 0 < wa then (1, 1) else (0, 0)
def fcM (st tm : Int) : Int × Int := if st = 1 then (2, 1) else (st, tm)
def foM (st tm least : Int) : Bool := !(st == 1) && (!(st == 2) || decide (least ≤ tm))
theorem ret_ft {a a' b b' : Int} (h : (a, b) = (a', b')) : Ending.returned (.agg #[.int .i64 a, .int .i64 b]) = .returned (.agg #[.int .i64 a', .int .i64 b']) := by cases h; rfl
set_option maxHeartbeats 400000 in
theorem more_any (a : Int) (w : World) :
    Calls Try.prog 76 #[.int .i64 a] w fun e w' => e = .returned (.int .i64 (moreM a)) ∧ w = w' := by
  go_enter Try.func76, Try.ntmps76
  go_wp2
  all_goals
    go_ret
    exact ⟨ret_int (by unfold moreM; omega), rfl⟩
set_option maxHeartbeats 2000000 in
theorem fstep_any (pon : Bool) (pmin pgap pmax ptop pstep pyel pred pwalk pblinks prec : Int) (plock prest : Bool) (st tm : Int) (b : Bool) (w : World) :
    Calls Try.prog 52 #[.agg #[.bool pon, .int .i64 pmin, .int .i64 pgap, .int .i64 pmax, .int .i64 ptop, .int .i64 pstep, .int .i64 pyel, .int .i64 pred, .int .i64 pwalk, .int .i64 pblinks, .int .i64 prec, .bool plock, .bool prest], .agg #[.int .i64 st, .int .i64 tm], .bool b] w
      fun e w' => e = .returned (.agg #[.int .i64 (ftM pwalk pblinks st tm b).1, .int .i64 (ftM pwalk pblinks st tm b).2]) ∧ Below w.heap.size w w' := by
  by_cases h1 : st = 1
  · subst h1
    by_cases h2 : pwalk ≤ tm
    · go_enter Try.func52, Try.ntmps52
      go_wp2
      go_returns
      exact ⟨ret_ft (by unfold ftM; (repeat' split) <;> (first | rfl | omega | (simp_all; done))), by (repeat' (first | (with_reducible exact Below.refl _ _) | (with_reducible assumption) | (with_reducible refine Below.setCell ?_ ?_ _) | (with_reducible refine Below.alloc ?_ ?_ _) | (with_reducible refine Below.drew ?_) | (with_reducible refine Up.base _ ?_ ?_) | (with_reducible exact LeSize.out) | exact LeSize.out | exact Nat.le_add_right_of_le LeSize.out | exact Nat.le_add_right_of_le (Nat.le_add_right_of_le LeSize.out) | (with_reducible exact Nat.le_refl _) | (simp; done) | (simp; omega)))⟩
    · go_enter Try.func52, Try.ntmps52
      go_wp2
      (refine wp_region_up_tail 6 (by kernel_rfl) (by kernel_rfl) ?_; simp only [List.take_succ_cons, List.take_zero, List.drop_succ_cons, List.drop_zero]; (repeat (first | go_big_quiet_step ((first | (go_at_call 76; exact Up.pure (more_any _ _)) | fail)))); refine wpQuiet_nil ?_; rintro _ ⟨u, rfl⟩)
      go_wp2
      go_returns
      exact ⟨ret_ft (by unfold ftM; (repeat' split) <;> (first | rfl | omega | (simp_all; done))), by (repeat' (first | (with_reducible exact Below.refl _ _) | (with_reducible assumption) | (with_reducible refine Below.setCell ?_ ?_ _) | (with_reducible refine Below.alloc ?_ ?_ _) | (with_reducible refine Below.drew ?_) | (with_reducible refine Up.base _ ?_ ?_) | (with_reducible exact LeSize.out) | exact LeSize.out | exact Nat.le_add_right_of_le LeSize.out | exact Nat.le_add_right_of_le (Nat.le_add_right_of_le LeSize.out) | (with_reducible exact Nat.le_refl _) | (simp; done) | (simp; omega)))⟩
  by_cases h3 : st = 2
  · subst h3
    by_cases h2 : pblinks ≤ tm
    · go_enter Try.func52, Try.ntmps52
      go_wp2
      go_returns
      exact ⟨ret_ft (by unfold ftM; (repeat' split) <;> (first | rfl | omega | (simp_all; done))), by (repeat' (first | (with_reducible exact Below.refl _ _) | (with_reducible assumption) | (with_reducible refine Below.setCell ?_ ?_ _) | (with_reducible refine Below.alloc ?_ ?_ _) | (with_reducible refine Below.drew ?_) | (with_reducible refine Up.base _ ?_ ?_) | (with_reducible exact LeSize.out) | exact LeSize.out | exact Nat.le_add_right_of_le LeSize.out | exact Nat.le_add_right_of_le (Nat.le_add_right_of_le LeSize.out) | (with_reducible exact Nat.le_refl _) | (simp; done) | (simp; omega)))⟩
    · go_enter Try.func52, Try.ntmps52
      go_wp2
      (refine wp_region_up_tail 6 (by kernel_rfl) (by kernel_rfl) ?_; simp only [List.take_succ_cons, List.take_zero, List.drop_succ_cons, List.drop_zero]; (repeat (first | go_big_quiet_step ((first | (go_at_call 76; exact Up.pure (more_any _ _)) | fail)))); refine wpQuiet_nil ?_; rintro _ ⟨u, rfl⟩)
      go_wp2
      go_returns
      exact ⟨ret_ft (by unfold ftM; (repeat' split) <;> (first | rfl | omega | (simp_all; done))), by (repeat' (first | (with_reducible exact Below.refl _ _) | (with_reducible assumption) | (with_reducible refine Below.setCell ?_ ?_ _) | (with_reducible refine Below.alloc ?_ ?_ _) | (with_reducible refine Below.drew ?_) | (with_reducible refine Up.base _ ?_ ?_) | (with_reducible exact LeSize.out) | exact LeSize.out | exact Nat.le_add_right_of_le LeSize.out | exact Nat.le_add_right_of_le (Nat.le_add_right_of_le LeSize.out) | (with_reducible exact Nat.le_refl _) | (simp; done) | (simp; omega)))⟩
  have n1 : (st == 1) = false := by simp [h1]
  have n2 : (st == 2) = false := by simp [h3]
  by_cases h4 : 0 < pwalk
  all_goals cases b
  all_goals
    go_enter Try.func52, Try.ntmps52
    go_wp2
    go_returns
    exact ⟨ret_ft (by unfold ftM; (repeat' split) <;> (first | rfl | omega | (simp_all; done))), by (repeat' (first | (with_reducible exact Below.refl _ _) | (with_reducible assumption) | (with_reducible refine Below.setCell ?_ ?_ _) | (with_reducible refine Below.alloc ?_ ?_ _) | (with_reducible refine Below.drew ?_) | (with_reducible refine Up.base _ ?_ ?_) | (with_reducible exact LeSize.out) | exact LeSize.out | exact Nat.le_add_right_of_le LeSize.out | exact Nat.le_add_right_of_le (Nat.le_add_right_of_le LeSize.out) | (with_reducible exact Nat.le_refl _) | (simp; done) | (simp; omega)))⟩
set_option maxHeartbeats 2000000 in
theorem rfstep_any (pon : Bool) (pmin pgap pmax ptop pstep pyel pred pwalk pblinks prec : Int) (plock prest : Bool) (st tm : Int) (b : Bool) (w : World) :
    Calls Try.prog 38 #[.agg #[.bool pon, .int .i64 pmin, .int .i64 pgap, .int .i64 pmax, .int .i64 ptop, .int .i64 pstep, .int .i64 pyel, .int .i64 pred, .int .i64 pwalk, .int .i64 pblinks, .int .i64 prec, .bool plock, .bool prest], .agg #[.int .i64 st, .int .i64 tm], .bool b] w
      fun e w' => e = .returned (.agg #[.int .i64 (ftM pwalk pblinks st tm b).1, .int .i64 (ftM pwalk pblinks st tm b).2]) ∧ Below w.heap.size w w' := by
  by_cases h1 : st = 1
  · subst h1
    by_cases h2 : pwalk ≤ tm
    all_goals
      go_enter Try.func38, Try.ntmps38
      go_wp2_with (go_at_call 37; refine (rmore_any _ _).mono ?_; rintro e w' ⟨rfl, rfl⟩)
      go_returns
      exact ⟨ret_ft (by unfold ftM; (repeat' split) <;> (first | rfl | omega | (simp_all; done))), by (repeat' (first | (with_reducible exact Below.refl _ _) | (with_reducible assumption) | (with_reducible refine Below.setCell ?_ ?_ _) | (with_reducible refine Below.alloc ?_ ?_ _) | (with_reducible refine Below.drew ?_) | (with_reducible refine Up.base _ ?_ ?_) | (with_reducible exact LeSize.out) | exact LeSize.out | exact Nat.le_add_right_of_le LeSize.out | exact Nat.le_add_right_of_le (Nat.le_add_right_of_le LeSize.out) | (with_reducible exact Nat.le_refl _) | (simp; done) | (simp; omega)))⟩
  by_cases h3 : st = 2
  · subst h3
    by_cases h2 : pblinks ≤ tm
    all_goals
      go_enter Try.func38, Try.ntmps38
      go_wp2_with (go_at_call 37; refine (rmore_any _ _).mono ?_; rintro e w' ⟨rfl, rfl⟩)
      go_returns
      exact ⟨ret_ft (by unfold ftM; (repeat' split) <;> (first | rfl | omega | (simp_all; done))), by (repeat' (first | (with_reducible exact Below.refl _ _) | (with_reducible assumption) | (with_reducible refine Below.setCell ?_ ?_ _) | (with_reducible refine Below.alloc ?_ ?_ _) | (with_reducible refine Below.drew ?_) | (with_reducible refine Up.base _ ?_ ?_) | (with_reducible exact LeSize.out) | exact LeSize.out | exact Nat.le_add_right_of_le LeSize.out | exact Nat.le_add_right_of_le (Nat.le_add_right_of_le LeSize.out) | (with_reducible exact Nat.le_refl _) | (simp; done) | (simp; omega)))⟩
  have n1 : (st == 1) = false := by simp [h1]
  have n2 : (st == 2) = false := by simp [h3]
  by_cases h4 : 0 < pwalk
  all_goals cases b
  all_goals
    go_enter Try.func38, Try.ntmps38
    go_wp2_with (go_at_call 37; refine (rmore_any _ _).mono ?_; rintro e w' ⟨rfl, rfl⟩)
    go_returns
    exact ⟨ret_ft (by unfold ftM; (repeat' split) <;> (first | rfl | omega | (simp_all; done))), by (repeat' (first | (with_reducible exact Below.refl _ _) | (with_reducible assumption) | (with_reducible refine Below.setCell ?_ ?_ _) | (with_reducible refine Below.alloc ?_ ?_ _) | (with_reducible refine Below.drew ?_) | (with_reducible refine Up.base _ ?_ ?_) | (with_reducible exact LeSize.out) | exact LeSize.out | exact Nat.le_add_right_of_le LeSize.out | exact Nat.le_add_right_of_le (Nat.le_add_right_of_le LeSize.out) | (with_reducible exact Nat.le_refl _) | (simp; done) | (simp; omega)))⟩
set_option maxHeartbeats 400000 in
theorem fcut_any (st tm : Int) (w : World) :
    Calls Try.prog 51 #[.agg #[.int .i64 st, .int .i64 tm]] w fun e w' => e = .returned (.agg #[.int .i64 (fcM st tm).1, .int .i64 (fcM st tm).2]) ∧ Below w.heap.size w w' := by
  by_cases h1 : st = 1
  · subst h1
    go_enter Try.func51, Try.ntmps51
    go_wp2
    go_returns
    exact ⟨ret_ft (by simp [fcM]), by (repeat' (first | (with_reducible exact Below.refl _ _) | (with_reducible assumption) | (with_reducible refine Below.setCell ?_ ?_ _) | (with_reducible refine Below.alloc ?_ ?_ _) | (with_reducible refine Below.drew ?_) | (with_reducible refine Up.base _ ?_ ?_) | (with_reducible exact LeSize.out) | exact LeSize.out | exact Nat.le_add_right_of_le LeSize.out | exact Nat.le_add_right_of_le (Nat.le_add_right_of_le LeSize.out) | (with_reducible exact Nat.le_refl _) | (simp; done) | (simp; omega)))⟩
  · have n1 : (st == 1) = false := by simp [h1]
    go_enter Try.func51, Try.ntmps51
    go_wp2
    go_returns
    exact ⟨ret_ft (by simp [fcM, h1]), by (repeat' (first | (with_reducible exact Below.refl _ _) | (with_reducible assumption) | (with_reducible refine Below.setCell ?_ ?_ _) | (with_reducible refine Below.alloc ?_ ?_ _) | (with_reducible refine Below.drew ?_) | (with_reducible refine Up.base _ ?_ ?_) | (with_reducible exact LeSize.out) | exact LeSize.out | exact Nat.le_add_right_of_le LeSize.out | exact Nat.le_add_right_of_le (Nat.le_add_right_of_le LeSize.out) | (with_reducible exact Nat.le_refl _) | (simp; done) | (simp; omega)))⟩
set_option maxHeartbeats 400000 in
theorem rfcut_any (st tm : Int) (w : World) :
    Calls Try.prog 56 #[.agg #[.int .i64 st, .int .i64 tm]] w fun e w' => e = .returned (.agg #[.int .i64 (fcM st tm).1, .int .i64 (fcM st tm).2]) ∧ Below w.heap.size w w' := by
  by_cases h1 : st = 1
  · subst h1
    go_enter Try.func56, Try.ntmps56
    go_wp2
    go_returns
    exact ⟨ret_ft (by simp [fcM]), by (repeat' (first | (with_reducible exact Below.refl _ _) | (with_reducible assumption) | (with_reducible refine Below.setCell ?_ ?_ _) | (with_reducible refine Below.alloc ?_ ?_ _) | (with_reducible refine Below.drew ?_) | (with_reducible refine Up.base _ ?_ ?_) | (with_reducible exact LeSize.out) | exact LeSize.out | exact Nat.le_add_right_of_le LeSize.out | exact Nat.le_add_right_of_le (Nat.le_add_right_of_le LeSize.out) | (with_reducible exact Nat.le_refl _) | (simp; done) | (simp; omega)))⟩
  · have n1 : (st == 1) = false := by simp [h1]
    go_enter Try.func56, Try.ntmps56
    go_wp2
    go_returns
    exact ⟨ret_ft (by simp [fcM, h1]), by (repeat' (first | (with_reducible exact Below.refl _ _) | (with_reducible assumption) | (with_reducible refine Below.setCell ?_ ?_ _) | (with_reducible refine Below.alloc ?_ ?_ _) | (with_reducible refine Below.drew ?_) | (with_reducible refine Up.base _ ?_ ?_) | (with_reducible exact LeSize.out) | exact LeSize.out | exact Nat.le_add_right_of_le LeSize.out | exact Nat.le_add_right_of_le (Nat.le_add_right_of_le LeSize.out) | (with_reducible exact Nat.le_refl _) | (simp; done) | (simp; omega)))⟩
set_option maxHeartbeats 1000000 in
theorem ridle_any (st tm : Int) (w : World) :
    Calls Try.prog 57 #[.agg #[.int .i64 st, .int .i64 tm]] w fun e w' => e = .returned (.bool (!(st == 1) && !(st == 2))) ∧ Below w.heap.size w w' := by
  by_cases h1 : st = 1
  all_goals by_cases h2 : st = 2
  all_goals (try (exfalso; omega))
  all_goals
    (try have q1 : (st != 1) = true := by simp [h1])
    (try have q2 : (st != 2) = true := by simp [h2])
    (try subst h1)
    (try subst h2)
    go_enter Try.func57, Try.ntmps57
    go_wp2
    go_ret
    exact ⟨ret_bool (by simp [*]), by (repeat' (first | (with_reducible exact Below.refl _ _) | (with_reducible assumption) | (with_reducible refine Below.setCell ?_ ?_ _) | (with_reducible refine Below.alloc ?_ ?_ _) | (with_reducible refine Below.drew ?_) | (with_reducible refine Up.base _ ?_ ?_) | (with_reducible exact LeSize.out) | exact LeSize.out | exact Nat.le_add_right_of_le LeSize.out | exact Nat.le_add_right_of_le (Nat.le_add_right_of_le LeSize.out) | (with_reducible exact Nat.le_refl _) | (simp; done) | (simp; omega)))⟩
end Go.Proofs.Ytmapdkhcfejkaaa
