/- The contracts of package level and of its reference. -/
import Derived.Test.YtmfhcmnipkokmaaFlo
namespace Go.Proofs.Ytmfhcmnipkokmaa
open Go.RowKit
set_option linter.unusedVariables false

def badM (x : Nat) : Bool := !(fge x 13920209183539462144 && fle x 4696837146684686336)
def moreM (n : Int) : Int := min (max n 0) 9999 + 1
theorem moreM_bd (n : Int) : 1 ≤ moreM n ∧ moreM n ≤ 10000 := by unfold moreM; omega
def levM (don doff : Nat) (on : Bool) (bad : Int) (x : Nat) : Bool × Int :=
  if badM x then (on, moreM bad) else if fge x don then (true, 0) else if fle x doff then (false, 0) else (on, 0)

set_option maxHeartbeats 400000 in
theorem rbad_any (x : Nat) (w : World) :
    Calls Try.prog 17 #[.float .f64 x] w fun e w' => e = .returned (.bool (badM x)) ∧ w = w' := by
  go_enter Try.func17, Try.ntmps17
  go_wp2
  all_goals
    go_ret
    exact ⟨ret_bool (by simp [badM, *]), rfl⟩

set_option maxHeartbeats 400000 in
theorem more_any (a : Int) (w : World) :
    Calls Try.prog 16 #[.int .i64 a] w fun e w' => e = .returned (.int .i64 (moreM a)) ∧ w = w' := by
  go_enter Try.func16, Try.ntmps16
  go_wp2
  all_goals
    go_ret
    exact ⟨ret_int (by unfold moreM; omega), rfl⟩

theorem ret_lev {a a' : Bool} {b b' : Int} (h : (a, b) = (a', b')) : Ending.returned (.agg #[.bool a, .int .i64 b]) = .returned (.agg #[.bool a', .int .i64 b']) := by cases h; rfl

set_option maxHeartbeats 1000000 in
theorem step_any (p : Int) (don doff dd de : Nat) (mon mof : Int) (on : Bool) (bad : Int) (x : Nat) (w : World) :
    Calls Try.prog 7 #[.agg #[.int .i64 p, .float .f64 don, .float .f64 doff, .float .f64 dd, .float .f64 de, .int .i64 mon, .int .i64 mof], .agg #[.bool on, .int .i64 bad], .float .f64 x] w
      fun e w' => e = .returned (.agg #[.bool (levM don doff on bad x).1, .int .i64 (levM don doff on bad x).2]) ∧ Below w.heap.size w w' := by
  go_enter Try.func7, Try.ntmps7
  go_wp2
  all_goals (try (go_returns; exact ⟨ret_lev (by simp [levM, badM, *]), by go_grown⟩))
  · (refine wp_region_up_tail 6 (by kernel_rfl) (by kernel_rfl) ?_; simp only [List.take_succ_cons, List.take_zero, List.drop_succ_cons, List.drop_zero]; (repeat (go_big_quiet_step ((first | (go_at_call 16; exact Up.pure (more_any _ _)) | fail)))); refine wpQuiet_nil ?_; rintro _ ⟨u, rfl⟩)
    go_wp2
    go_returns
    exact ⟨ret_lev (by simp [levM, badM, *]), by (repeat' (first | (with_reducible exact Below.refl _ _) | (with_reducible assumption) | (with_reducible refine Below.setCell ?_ ?_ _) | (with_reducible refine Below.alloc ?_ ?_ _) | (with_reducible refine Below.drew ?_) | (with_reducible refine Up.base _ ?_ ?_) | (with_reducible exact LeSize.out) | exact LeSize.out | exact Nat.le_add_right_of_le LeSize.out | exact Nat.le_add_right_of_le (Nat.le_add_right_of_le LeSize.out) | (with_reducible exact Nat.le_refl _) | (simp; done) | (simp; omega)))⟩
  · (refine wp_region_up_tail 6 (by kernel_rfl) (by kernel_rfl) ?_; simp only [List.take_succ_cons, List.take_zero, List.drop_succ_cons, List.drop_zero]; (repeat (go_big_quiet_step ((first | (go_at_call 16; exact Up.pure (more_any _ _)) | fail)))); refine wpQuiet_nil ?_; rintro _ ⟨u, rfl⟩)
    go_wp2
    go_returns
    exact ⟨ret_lev (by simp [levM, badM, *]), by (repeat' (first | (with_reducible exact Below.refl _ _) | (with_reducible assumption) | (with_reducible refine Below.setCell ?_ ?_ _) | (with_reducible refine Below.alloc ?_ ?_ _) | (with_reducible refine Below.drew ?_) | (with_reducible refine Up.base _ ?_ ?_) | (with_reducible exact LeSize.out) | exact LeSize.out | exact Nat.le_add_right_of_le LeSize.out | exact Nat.le_add_right_of_le (Nat.le_add_right_of_le LeSize.out) | (with_reducible exact Nat.le_refl _) | (simp; done) | (simp; omega)))⟩

set_option maxHeartbeats 400000 in
theorem cut_any (a b c : Int) (w : World) :
    Calls Try.prog 20 #[.int .i64 a, .int .i64 b, .int .i64 c] w fun e w' => e = .returned (.int .i64 (if a < b then b else if c < a then c else a)) ∧ w = w' := by
  go_enter Try.func20, Try.ntmps20
  go_wp2
  all_goals
    go_ret
    exact ⟨ret_int (by simp [*]; try omega), rfl⟩
set_option maxHeartbeats 400000 in
theorem rMore_any (a : Int) (w : World) :
    Calls Try.prog 19 #[.int .i64 a] w fun e w' => e = .returned (.int .i64 (moreM a)) ∧ w = w' := by
  have h := moreM_bd a
  have e : (if a < 0 then 0 else if 9999 < a then 9999 else a) = moreM a - 1 := by unfold moreM; omega
  have H := Lib.hid e
  clear e
  go_enter Try.func19, Try.ntmps19
  go_wp2_with fail
  refine (cut_any _ _ _ _).mono ?_
  rw [H.out]
  rintro e w' ⟨rfl, rfl⟩
  go_wp2
  go_ret
  exact ⟨ret_int (by omega), rfl⟩
set_option maxHeartbeats 400000 in
theorem rmore_any (a : Int) (w : World) :
    Calls Try.prog 18 #[.int .i64 a] w fun e w' => e = .returned (.int .i64 (moreM a)) ∧ w = w' := by
  go_enter Try.func18, Try.ntmps18
  go_wp2_with (go_at_call 19; refine (rMore_any _ _).mono ?_; rintro e w' ⟨rfl, rfl⟩)
  go_ret
  exact ⟨rfl, rfl⟩

set_option maxHeartbeats 1000000 in
theorem rstep_any (p : Int) (don doff dd de : Nat) (mon mof : Int) (on : Bool) (bad : Int) (x : Nat) (w : World) :
    Calls Try.prog 8 #[.agg #[.int .i64 p, .float .f64 don, .float .f64 doff, .float .f64 dd, .float .f64 de, .int .i64 mon, .int .i64 mof], .agg #[.bool on, .int .i64 bad], .float .f64 x] w
      fun e w' => e = .returned (.agg #[.bool (levM don doff on bad x).1, .int .i64 (levM don doff on bad x).2]) ∧ Below w.heap.size w w' := by
  go_enter Try.func8, Try.ntmps8
  go_wp2_with (go_at_call 17; refine (rbad_any _ _).mono ?_; rintro e w' ⟨rfl, rfl⟩)
  all_goals (try (go_returns; exact ⟨ret_lev (by simp [levM, *]), by go_grown⟩))
  · (refine wp_region_up_tail 6 (by kernel_rfl) (by kernel_rfl) ?_; simp only [List.take_succ_cons, List.take_zero, List.drop_succ_cons, List.drop_zero]; (repeat (go_big_quiet_step ((first | (go_at_call 18; exact Up.pure (rmore_any _ _)) | fail)))); refine wpQuiet_nil ?_; rintro _ ⟨u, rfl⟩)
    go_wp2
    go_returns
    exact ⟨ret_lev (by simp [levM, *]), by (repeat' (first | (with_reducible exact Below.refl _ _) | (with_reducible assumption) | (with_reducible refine Below.setCell ?_ ?_ _) | (with_reducible refine Below.alloc ?_ ?_ _) | (with_reducible refine Below.drew ?_) | (with_reducible refine Up.base _ ?_ ?_) | (with_reducible exact LeSize.out) | exact LeSize.out | exact Nat.le_add_right_of_le LeSize.out | exact Nat.le_add_right_of_le (Nat.le_add_right_of_le LeSize.out) | (with_reducible exact Nat.le_refl _) | (simp; done) | (simp; omega)))⟩
set_option maxHeartbeats 400000 in
theorem failed_any (on : Bool) (bad : Int) (w : World) :
    Calls Try.prog 9 #[.agg #[.bool on, .int .i64 bad]] w fun e w' => e = .returned (.bool (decide (3 ≤ bad))) ∧ Below w.heap.size w w' := by
  go_enter Try.func9, Try.ntmps9
  go_wp2
  go_ret
  exact ⟨rfl, by go_grown⟩
set_option maxHeartbeats 400000 in
theorem rfailed_any (on : Bool) (bad : Int) (w : World) :
    Calls Try.prog 10 #[.agg #[.bool on, .int .i64 bad]] w fun e w' => e = .returned (.bool (decide (3 ≤ bad))) ∧ Below w.heap.size w w' := by
  go_enter Try.func10, Try.ntmps10
  go_wp2
  go_ret
  exact ⟨rfl, by go_grown⟩
def seenM (on : Bool) (bad : Int) : Bool := on || decide (3 ≤ bad)
set_option maxHeartbeats 400000 in
theorem seen_any (on : Bool) (bad : Int) (w : World) :
    Calls Try.prog 11 #[.agg #[.bool on, .int .i64 bad]] w fun e w' => e = .returned (.bool (seenM on bad)) ∧ Below w.heap.size w w' := by
  cases on
  · go_enter Try.func11, Try.ntmps11
    go_wp2_with (go_at_call 9; refine (Up.run (failed_any _ _ _)).mono ?_; rintro e w' ⟨rfl, u, rfl⟩)
    go_ret
    exact ⟨ret_bool (by simp [seenM]), by (repeat' (first | (with_reducible exact Below.refl _ _) | (with_reducible assumption) | (with_reducible refine Below.setCell ?_ ?_ _) | (with_reducible refine Below.alloc ?_ ?_ _) | (with_reducible refine Below.drew ?_) | (with_reducible refine Up.base _ ?_ ?_) | (with_reducible exact LeSize.out) | exact LeSize.out | exact Nat.le_add_right_of_le LeSize.out | exact Nat.le_add_right_of_le (Nat.le_add_right_of_le LeSize.out) | (with_reducible exact Nat.le_refl _) | (simp; done) | (simp; omega)))⟩
  · go_enter Try.func11, Try.ntmps11
    go_wp2_with (go_at_call 9; refine (Up.run (failed_any _ _ _)).mono ?_; rintro e w' ⟨rfl, u, rfl⟩)
    go_ret
    exact ⟨ret_bool (by simp [seenM]), by go_grown⟩
set_option maxHeartbeats 400000 in
theorem rseen_any (on : Bool) (bad : Int) (w : World) :
    Calls Try.prog 12 #[.agg #[.bool on, .int .i64 bad]] w fun e w' => e = .returned (.bool (seenM on bad)) ∧ Below w.heap.size w w' := by
  cases on
  · go_enter Try.func12, Try.ntmps12
    go_wp2_with (go_at_call 10; refine (Up.run (rfailed_any _ _ _)).mono ?_; rintro e w' ⟨rfl, u, rfl⟩)
    go_ret
    exact ⟨ret_bool (by simp [seenM]), by (repeat' (first | (with_reducible exact Below.refl _ _) | (with_reducible assumption) | (with_reducible refine Below.setCell ?_ ?_ _) | (with_reducible refine Below.alloc ?_ ?_ _) | (with_reducible refine Below.drew ?_) | (with_reducible refine Up.base _ ?_ ?_) | (with_reducible exact LeSize.out) | exact LeSize.out | exact Nat.le_add_right_of_le LeSize.out | exact Nat.le_add_right_of_le (Nat.le_add_right_of_le LeSize.out) | (with_reducible exact Nat.le_refl _) | (simp; done) | (simp; omega)))⟩
  · go_enter Try.func12, Try.ntmps12
    go_wp2_with (go_at_call 10; refine (Up.run (rfailed_any _ _ _)).mono ?_; rintro e w' ⟨rfl, u, rfl⟩)
    go_ret
    exact ⟨ret_bool (by simp [seenM]), by go_grown⟩
end Go.Proofs.Ytmfhcmnipkokmaa
