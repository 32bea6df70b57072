/- The contracts of package level and of its reference. The contracts of package diag and of its reference. -/
import Derived.Test.YteohpfelgaffoaaFlo
import Derived.Test.YteohpfelgaffoaaCnt
import Derived.Test.YteohpfelgaffoaaPlace
namespace Go.Proofs.Yteohpfelgaffoaa
section
open Go.RowKit
set_option linter.unusedVariables false

def lv_badM (x : Nat) : Bool := !(fge x 13920209183539462144 && fle x 4696837146684686336)
def lv_moreM (n : Int) : Int := min (max n 0) 9999 + 1
theorem lv_moreM_bd (n : Int) : 1 ≤ lv_moreM n ∧ lv_moreM n ≤ 10000 := by unfold lv_moreM; omega
def lv_levM (don doff : Nat) (on : Bool) (bad : Int) (x : Nat) : Bool × Int :=
  if lv_badM x then (on, lv_moreM bad) else if fge x don then (true, 0) else if fle x doff then (false, 0) else (on, 0)

set_option maxHeartbeats 400000 in
theorem lv_rbad_any (x : Nat) (w : World) :
    Calls Try.prog 60 #[.float .f64 x] w fun e w' => e = .returned (.bool (lv_badM x)) ∧ w = w' := by
  go_enter Try.func60, Try.ntmps60
  go_wp2
  all_goals
    go_ret
    exact ⟨ret_bool (by simp [lv_badM, *]), rfl⟩

set_option maxHeartbeats 400000 in
theorem lv_more_any (a : Int) (w : World) :
    Calls Try.prog 53 #[.int .i64 a] w fun e w' => e = .returned (.int .i64 (lv_moreM a)) ∧ w = w' := by
  go_enter Try.func53, Try.ntmps53
  go_wp2
  all_goals
    go_ret
    exact ⟨ret_int (by unfold lv_moreM; omega), rfl⟩

theorem lv_ret_lev {a a' : Bool} {b b' : Int} (h : (a, b) = (a', b')) : Ending.returned (.agg #[.bool a, .int .i64 b]) = .returned (.agg #[.bool a', .int .i64 b']) := by cases h; rfl

set_option maxHeartbeats 1000000 in
theorem lv_step_any (p : Int) (don doff dd de : Nat) (mon mof : Int) (on : Bool) (bad : Int) (x : Nat) (w : World) :
    Calls Try.prog 26 #[.agg #[.int .i64 p, .float .f64 don, .float .f64 doff, .float .f64 dd, .float .f64 de, .int .i64 mon, .int .i64 mof], .agg #[.bool on, .int .i64 bad], .float .f64 x] w
      fun e w' => e = .returned (.agg #[.bool (lv_levM don doff on bad x).1, .int .i64 (lv_levM don doff on bad x).2]) ∧ Below w.heap.size w w' := by
  go_enter Try.func26, Try.ntmps26
  go_wp2
  all_goals (try (go_returns; exact ⟨lv_ret_lev (by simp [lv_levM, lv_badM, *]), by go_grown⟩))
  · (refine wp_region_up_tail 6 (by kernel_rfl) (by kernel_rfl) ?_; simp only [List.take_succ_cons, List.take_zero, List.drop_succ_cons, List.drop_zero]; (repeat (first | go_big_quiet_step ((first | (go_at_call 53; exact Up.pure (lv_more_any _ _)) | fail)))); refine wpQuiet_nil ?_; rintro _ ⟨u, rfl⟩)
    go_wp2
    go_returns
    exact ⟨lv_ret_lev (by simp [lv_levM, lv_badM, *]), by (repeat' (first | (with_reducible exact Below.refl _ _) | (with_reducible assumption) | (with_reducible refine Below.setCell ?_ ?_ _) | (with_reducible refine Below.alloc ?_ ?_ _) | (with_reducible refine Below.drew ?_) | (with_reducible refine Up.base _ ?_ ?_) | (with_reducible exact LeSize.out) | exact LeSize.out | exact Nat.le_add_right_of_le LeSize.out | exact Nat.le_add_right_of_le (Nat.le_add_right_of_le LeSize.out) | (with_reducible exact Nat.le_refl _) | (simp; done) | (simp; omega)))⟩
  · (refine wp_region_up_tail 6 (by kernel_rfl) (by kernel_rfl) ?_; simp only [List.take_succ_cons, List.take_zero, List.drop_succ_cons, List.drop_zero]; (repeat (first | go_big_quiet_step ((first | (go_at_call 53; exact Up.pure (lv_more_any _ _)) | fail)))); refine wpQuiet_nil ?_; rintro _ ⟨u, rfl⟩)
    go_wp2
    go_returns
    exact ⟨lv_ret_lev (by simp [lv_levM, lv_badM, *]), by (repeat' (first | (with_reducible exact Below.refl _ _) | (with_reducible assumption) | (with_reducible refine Below.setCell ?_ ?_ _) | (with_reducible refine Below.alloc ?_ ?_ _) | (with_reducible refine Below.drew ?_) | (with_reducible refine Up.base _ ?_ ?_) | (with_reducible exact LeSize.out) | exact LeSize.out | exact Nat.le_add_right_of_le LeSize.out | exact Nat.le_add_right_of_le (Nat.le_add_right_of_le LeSize.out) | (with_reducible exact Nat.le_refl _) | (simp; done) | (simp; omega)))⟩

set_option maxHeartbeats 400000 in
theorem lv_cut_any (a b c : Int) (w : World) :
    Calls Try.prog 62 #[.int .i64 a, .int .i64 b, .int .i64 c] w fun e w' => e = .returned (.int .i64 (if a < b then b else if c < a then c else a)) ∧ w = w' := by
  go_enter Try.func62, Try.ntmps62
  go_wp2
  all_goals
    go_ret
    exact ⟨ret_int (by simp [*]; try omega), rfl⟩
set_option maxHeartbeats 400000 in
theorem lv_rMore_any (a : Int) (w : World) :
    Calls Try.prog 72 #[.int .i64 a] w fun e w' => e = .returned (.int .i64 (lv_moreM a)) ∧ w = w' := by
  have h := lv_moreM_bd a
  have e : (if a < 0 then 0 else if 9999 < a then 9999 else a) = lv_moreM a - 1 := by unfold lv_moreM; omega
  have H := Lib.hid e
  clear e
  go_enter Try.func72, Try.ntmps72
  go_wp2_with fail
  refine (lv_cut_any _ _ _ _).mono ?_
  rw [H.out]
  rintro e w' ⟨rfl, rfl⟩
  go_wp2
  go_ret
  exact ⟨ret_int (by omega), rfl⟩
set_option maxHeartbeats 400000 in
theorem lv_rmore_any (a : Int) (w : World) :
    Calls Try.prog 61 #[.int .i64 a] w fun e w' => e = .returned (.int .i64 (lv_moreM a)) ∧ w = w' := by
  go_enter Try.func61, Try.ntmps61
  go_wp2_with (go_at_call 72; refine (lv_rMore_any _ _).mono ?_; rintro e w' ⟨rfl, rfl⟩)
  go_ret
  exact ⟨rfl, rfl⟩

set_option maxHeartbeats 1000000 in
theorem lv_rstep_any (p : Int) (don doff dd de : Nat) (mon mof : Int) (on : Bool) (bad : Int) (x : Nat) (w : World) :
    Calls Try.prog 40 #[.agg #[.int .i64 p, .float .f64 don, .float .f64 doff, .float .f64 dd, .float .f64 de, .int .i64 mon, .int .i64 mof], .agg #[.bool on, .int .i64 bad], .float .f64 x] w
      fun e w' => e = .returned (.agg #[.bool (lv_levM don doff on bad x).1, .int .i64 (lv_levM don doff on bad x).2]) ∧ Below w.heap.size w w' := by
  go_enter Try.func40, Try.ntmps40
  go_wp2_with (go_at_call 60; refine (lv_rbad_any _ _).mono ?_; rintro e w' ⟨rfl, rfl⟩)
  all_goals (try (go_returns; exact ⟨lv_ret_lev (by simp [lv_levM, *]), by go_grown⟩))
  · (refine wp_region_up_tail 6 (by kernel_rfl) (by kernel_rfl) ?_; simp only [List.take_succ_cons, List.take_zero, List.drop_succ_cons, List.drop_zero]; (repeat (first | go_big_quiet_step ((first | (go_at_call 61; exact Up.pure (lv_rmore_any _ _)) | fail)))); refine wpQuiet_nil ?_; rintro _ ⟨u, rfl⟩)
    go_wp2
    go_returns
    exact ⟨lv_ret_lev (by simp [lv_levM, *]), by (repeat' (first | (with_reducible exact Below.refl _ _) | (with_reducible assumption) | (with_reducible refine Below.setCell ?_ ?_ _) | (with_reducible refine Below.alloc ?_ ?_ _) | (with_reducible refine Below.drew ?_) | (with_reducible refine Up.base _ ?_ ?_) | (with_reducible exact LeSize.out) | exact LeSize.out | exact Nat.le_add_right_of_le LeSize.out | exact Nat.le_add_right_of_le (Nat.le_add_right_of_le LeSize.out) | (with_reducible exact Nat.le_refl _) | (simp; done) | (simp; omega)))⟩
set_option maxHeartbeats 400000 in
theorem lv_failed_any (on : Bool) (bad : Int) (w : World) :
    Calls Try.prog 35 #[.agg #[.bool on, .int .i64 bad]] w fun e w' => e = .returned (.bool (decide (3 ≤ bad))) ∧ Below w.heap.size w w' := by
  go_enter Try.func35, Try.ntmps35
  go_wp2
  go_ret
  exact ⟨rfl, by go_grown⟩
set_option maxHeartbeats 400000 in
theorem lv_rfailed_any (on : Bool) (bad : Int) (w : World) :
    Calls Try.prog 44 #[.agg #[.bool on, .int .i64 bad]] w fun e w' => e = .returned (.bool (decide (3 ≤ bad))) ∧ Below w.heap.size w w' := by
  go_enter Try.func44, Try.ntmps44
  go_wp2
  go_ret
  exact ⟨rfl, by go_grown⟩
def lv_seenM (on : Bool) (bad : Int) : Bool := on || decide (3 ≤ bad)
set_option maxHeartbeats 400000 in
theorem lv_seen_any (on : Bool) (bad : Int) (w : World) :
    Calls Try.prog 28 #[.agg #[.bool on, .int .i64 bad]] w fun e w' => e = .returned (.bool (lv_seenM on bad)) ∧ Below w.heap.size w w' := by
  cases on
  · go_enter Try.func28, Try.ntmps28
    go_wp2_with (go_at_call 35; refine (Up.run (lv_failed_any _ _ _)).mono ?_; rintro e w' ⟨rfl, u, rfl⟩)
    go_ret
    exact ⟨ret_bool (by simp [lv_seenM]), by (repeat' (first | (with_reducible exact Below.refl _ _) | (with_reducible assumption) | (with_reducible refine Below.setCell ?_ ?_ _) | (with_reducible refine Below.alloc ?_ ?_ _) | (with_reducible refine Below.drew ?_) | (with_reducible refine Up.base _ ?_ ?_) | (with_reducible exact LeSize.out) | exact LeSize.out | exact Nat.le_add_right_of_le LeSize.out | exact Nat.le_add_right_of_le (Nat.le_add_right_of_le LeSize.out) | (with_reducible exact Nat.le_refl _) | (simp; done) | (simp; omega)))⟩
  · go_enter Try.func28, Try.ntmps28
    go_wp2_with (go_at_call 35; refine (Up.run (lv_failed_any _ _ _)).mono ?_; rintro e w' ⟨rfl, u, rfl⟩)
    go_ret
    exact ⟨ret_bool (by simp [lv_seenM]), by go_grown⟩
set_option maxHeartbeats 400000 in
theorem lv_rseen_any (on : Bool) (bad : Int) (w : World) :
    Calls Try.prog 42 #[.agg #[.bool on, .int .i64 bad]] w fun e w' => e = .returned (.bool (lv_seenM on bad)) ∧ Below w.heap.size w w' := by
  cases on
  · go_enter Try.func42, Try.ntmps42
    go_wp2_with (go_at_call 44; refine (Up.run (lv_rfailed_any _ _ _)).mono ?_; rintro e w' ⟨rfl, u, rfl⟩)
    go_ret
    exact ⟨ret_bool (by simp [lv_seenM]), by (repeat' (first | (with_reducible exact Below.refl _ _) | (with_reducible assumption) | (with_reducible refine Below.setCell ?_ ?_ _) | (with_reducible refine Below.alloc ?_ ?_ _) | (with_reducible refine Below.drew ?_) | (with_reducible refine Up.base _ ?_ ?_) | (with_reducible exact LeSize.out) | exact LeSize.out | exact Nat.le_add_right_of_le LeSize.out | exact Nat.le_add_right_of_le (Nat.le_add_right_of_le LeSize.out) | (with_reducible exact Nat.le_refl _) | (simp; done) | (simp; omega)))⟩
  · go_enter Try.func42, Try.ntmps42
    go_wp2_with (go_at_call 44; refine (Up.run (lv_rfailed_any _ _ _)).mono ?_; rintro e w' ⟨rfl, u, rfl⟩)
    go_ret
    exact ⟨ret_bool (by simp [lv_seenM]), by go_grown⟩
end
section
open Go.RowKit
set_option linter.unusedVariables false

def wt_wOn (on : Int) (b : Bool) : Int := if b then moreM on else 0
def wt_wOff (off : Int) (b : Bool) : Int := if b then 0 else moreM off
def wt_stuckM (a b on off : Int) : Bool := decide (0 < a) && decide (a ≤ on) || decide (0 < b) && decide (b ≤ off)
theorem wt_ret_two {a a' b b' : Int} (h1 : a = a') (h2 : b = b') : Ending.returned (.agg #[.int .i64 a, .int .i64 b]) = .returned (.agg #[.int .i64 a', .int .i64 b']) := by rw [h1, h2]
set_option maxHeartbeats 400000 in
theorem wt_more_any (a : Int) (w : World) :
    Calls Try.prog 54 #[.int .i64 a] w fun e w' => e = .returned (.int .i64 (moreM a)) ∧ w = w' := by
  go_enter Try.func54, Try.ntmps54
  go_wp2
  all_goals
    go_ret
    exact ⟨ret_int (by unfold moreM; omega), rfl⟩
set_option maxHeartbeats 400000 in
theorem wt_step_any (on off : Int) (b : Bool) (w : World) :
    Calls Try.prog 29 #[.agg #[.int .i64 on, .int .i64 off], .bool b] w fun e w' => e = .returned (.agg #[.int .i64 (wt_wOn on b), .int .i64 (wt_wOff off b)]) ∧ Below w.heap.size w w' := by
  cases b
  all_goals
    go_enter Try.func29, Try.ntmps29
    go_wp2_with (go_at_call 54; refine (wt_more_any _ _).mono ?_; rintro e w' ⟨rfl, rfl⟩)
    go_returns
    exact ⟨rfl, by (repeat' (first | (with_reducible exact Below.refl _ _) | (with_reducible assumption) | (with_reducible refine Below.setCell ?_ ?_ _) | (with_reducible refine Below.alloc ?_ ?_ _) | (with_reducible refine Below.drew ?_) | (with_reducible refine Up.base _ ?_ ?_) | (with_reducible exact LeSize.out) | exact LeSize.out | exact Nat.le_add_right_of_le LeSize.out | exact Nat.le_add_right_of_le (Nat.le_add_right_of_le LeSize.out) | (with_reducible exact Nat.le_refl _) | (simp; done) | (simp; omega)))⟩
set_option maxHeartbeats 400000 in
theorem wt_rstep_any (on off : Int) (b : Bool) (w : World) :
    Calls Try.prog 41 #[.agg #[.int .i64 on, .int .i64 off], .bool b] w fun e w' => e = .returned (.agg #[.int .i64 (wt_wOn on b), .int .i64 (wt_wOff off b)]) ∧ Below w.heap.size w w' := by
  cases b
  all_goals
    go_enter Try.func41, Try.ntmps41
    go_wp2_with (go_at_call 61; refine (rmore_any _ _).mono ?_; rintro e w' ⟨rfl, rfl⟩)
    go_returns
    exact ⟨rfl, by (repeat' (first | (with_reducible exact Below.refl _ _) | (with_reducible assumption) | (with_reducible refine Below.setCell ?_ ?_ _) | (with_reducible refine Below.alloc ?_ ?_ _) | (with_reducible refine Below.drew ?_) | (with_reducible refine Up.base _ ?_ ?_) | (with_reducible exact LeSize.out) | exact LeSize.out | exact Nat.le_add_right_of_le LeSize.out | exact Nat.le_add_right_of_le (Nat.le_add_right_of_le LeSize.out) | (with_reducible exact Nat.le_refl _) | (simp; done) | (simp; omega)))⟩
set_option maxHeartbeats 1000000 in
theorem wt_stuck_any (a b on off : Int) (w : World) :
    Calls Try.prog 36 #[.int .i64 a, .int .i64 b, .agg #[.int .i64 on, .int .i64 off]] w fun e w' => e = .returned (.bool (wt_stuckM a b on off)) ∧ Below w.heap.size w w' := by
  by_cases h1 : 0 < a
  all_goals by_cases h2 : a ≤ on
  all_goals by_cases h3 : 0 < b
  all_goals by_cases h4 : b ≤ off
  all_goals
    go_enter Try.func36, Try.ntmps36
    go_wp2
    go_ret
    exact ⟨ret_bool (by simp [wt_stuckM, *]), by (repeat' (first | (with_reducible exact Below.refl _ _) | (with_reducible assumption) | (with_reducible refine Below.setCell ?_ ?_ _) | (with_reducible refine Below.alloc ?_ ?_ _) | (with_reducible refine Below.drew ?_) | (with_reducible refine Up.base _ ?_ ?_) | (with_reducible exact LeSize.out) | exact LeSize.out | exact Nat.le_add_right_of_le LeSize.out | exact Nat.le_add_right_of_le (Nat.le_add_right_of_le LeSize.out) | (with_reducible exact Nat.le_refl _) | (simp; done) | (simp; omega)))⟩
set_option maxHeartbeats 1000000 in
theorem wt_rstuck_any (a b on off : Int) (w : World) :
    Calls Try.prog 45 #[.int .i64 a, .int .i64 b, .agg #[.int .i64 on, .int .i64 off]] w fun e w' => e = .returned (.bool (wt_stuckM a b on off)) ∧ Below w.heap.size w w' := by
  by_cases h1 : 0 < a
  all_goals by_cases h2 : a ≤ on
  all_goals by_cases h3 : 0 < b
  all_goals by_cases h4 : b ≤ off
  all_goals
    go_enter Try.func45, Try.ntmps45
    go_wp2
    go_ret
    exact ⟨ret_bool (by simp [wt_stuckM, *]), by (repeat' (first | (with_reducible exact Below.refl _ _) | (with_reducible assumption) | (with_reducible refine Below.setCell ?_ ?_ _) | (with_reducible refine Below.alloc ?_ ?_ _) | (with_reducible refine Below.drew ?_) | (with_reducible refine Up.base _ ?_ ?_) | (with_reducible exact LeSize.out) | exact LeSize.out | exact Nat.le_add_right_of_le LeSize.out | exact Nat.le_add_right_of_le (Nat.le_add_right_of_le LeSize.out) | (with_reducible exact Nat.le_refl _) | (simp; done) | (simp; omega)))⟩
end
end Go.Proofs.Yteohpfelgaffoaa
