/- The contracts of package delay and of its reference. -/
import Derived.Test.YteohpfelgaffoaaCnt
import Derived.Test.YteohpfelgaffoaaPlace
namespace Go.Proofs.Yteohpfelgaffoaa
open Go.RowKit
set_option linter.unusedVariables false

def tm_cutT (n : Int) : Int := min (max n 0) 9999
theorem tm_cutT_bd (n : Int) : 0 ≤ tm_cutT n ∧ tm_cutT n ≤ 9999 := by unfold tm_cutT; omega
theorem tm_cutM_T (n : Int) : cutM n 0 9999 = tm_cutT n := by unfold cutM tm_cutT; split <;> (try split) <;> omega
theorem tm_moreM_T (n : Int) : moreM n = tm_cutT n + 1 := rfl
def tm_tH (i : Bool) (held : Int) : Int := if i then tm_cutT held + 1 else 0
def tm_tOut (d held tail : Int) (out i : Bool) : Bool := decide (tm_cutT d < tm_tH i held) || (out && decide (0 < tm_cutT tail))
def tm_tTail (d e held tail : Int) (out i : Bool) : Int := if tm_cutT d < tm_tH i held then tm_cutT e else if out = true ∧ 0 < tm_cutT tail then tm_cutT tail - 1 else 0
theorem tm_ret_tim {a a' b b' : Int} {c c' : Bool} (h1 : a = a') (h2 : b = b') (h3 : c = c') : Ending.returned (.agg #[.int .i64 a, .int .i64 b, .bool c]) = .returned (.agg #[.int .i64 a', .int .i64 b', .bool c']) := by rw [h1, h2, h3]
set_option maxHeartbeats 400000 in
theorem tm_dcut_any (a : Int) (w : World) :
    Calls Try.prog 55 #[.int .i64 a] w fun e w' => e = .returned (.int .i64 (tm_cutT a)) ∧ w = w' := by
  go_enter Try.func55, Try.ntmps55
  go_wp2
  all_goals
    go_ret
    exact ⟨ret_int (by unfold tm_cutT; omega), rfl⟩
theorem tm_rcut_any (a : Int) (w : World) :
    Calls Try.prog 62 #[.int .i64 a, .int .i64 0, .int .i64 9999] w fun e w' => e = .returned (.int .i64 (tm_cutT a)) ∧ w = w' := by
  have := cut_any a 0 9999 w
  rwa [tm_cutM_T] at this

set_option maxHeartbeats 2000000 in
theorem tm_step_any (d e held tail : Int) (out i : Bool) (w : World) :
    Calls Try.prog 30 #[.int .i64 d, .int .i64 e, .agg #[.int .i64 held, .int .i64 tail, .bool out], .bool i] w
      fun en w' => en = .returned (.agg #[.int .i64 (tm_tH i held), .int .i64 (tm_tTail d e held tail out i), .bool (tm_tOut d held tail out i)]) ∧ Below w.heap.size w w' := by
  have hD := tm_cutT_bd d
  have hE := tm_cutT_bd e
  have hH := tm_cutT_bd held
  have hT := tm_cutT_bd tail
  cases i
  · by_cases h2 : 0 < tm_cutT tail
    all_goals cases out
    all_goals
      go_enter Try.func30, Try.ntmps30
      go_wp2_with (go_at_call 55; refine (tm_dcut_any _ _).mono ?_; rintro e w' ⟨rfl, rfl⟩)
    all_goals first
      | (go_returns
         exact ⟨tm_ret_tim (by simp [tm_tH]) (by (try simp [tm_tTail, tm_tH]); (repeat' split) <;> (intros; omega)) (by rw [Bool.eq_iff_iff]; simp [tm_tOut, tm_tH]; try omega), by (repeat' (first | (with_reducible exact Below.refl _ _) | (with_reducible assumption) | (with_reducible refine Below.setCell ?_ ?_ _) | (with_reducible refine Below.alloc ?_ ?_ _) | (with_reducible refine Below.drew ?_) | (with_reducible refine Up.base _ ?_ ?_) | (with_reducible exact LeSize.out) | exact LeSize.out | exact Nat.le_add_right_of_le LeSize.out | exact Nat.le_add_right_of_le (Nat.le_add_right_of_le LeSize.out) | (with_reducible exact Nat.le_refl _) | (simp; done) | (simp; omega)))⟩)
      | ((refine wp_region_up (by kernel_rfl) (by kernel_rfl) ?_; (repeat (first | go_big_quiet_step ((first | (go_at_call 55; exact Up.pure (tm_dcut_any _ _)) | fail)))); refine wpQuiet_nil ?_; rintro _ ⟨u, rfl⟩)
         go_wp2_with (go_at_call 55; refine (tm_dcut_any _ _).mono ?_; rintro e w' ⟨rfl, rfl⟩)
         go_returns
         exact ⟨tm_ret_tim (by simp [tm_tH]) (by (try simp [tm_tTail, tm_tH]); (repeat' split) <;> (intros; omega)) (by rw [Bool.eq_iff_iff]; simp [tm_tOut, tm_tH]; try omega), by (repeat' (first | (with_reducible exact Below.refl _ _) | (with_reducible assumption) | (with_reducible refine Below.setCell ?_ ?_ _) | (with_reducible refine Below.alloc ?_ ?_ _) | (with_reducible refine Below.drew ?_) | (with_reducible refine Up.base _ ?_ ?_) | (with_reducible exact LeSize.out) | exact LeSize.out | exact Nat.le_add_right_of_le LeSize.out | exact Nat.le_add_right_of_le (Nat.le_add_right_of_le LeSize.out) | (with_reducible exact Nat.le_refl _) | (simp; done) | (simp; omega)))⟩)
  · by_cases h1 : tm_cutT d < tm_cutT held + 1
    all_goals by_cases h2 : 0 < tm_cutT tail
    all_goals cases out
    all_goals
      go_enter Try.func30, Try.ntmps30
      go_wp2_with (go_at_call 55; refine (tm_dcut_any _ _).mono ?_; rintro e w' ⟨rfl, rfl⟩)
      (refine wp_region_up (by kernel_rfl) (by kernel_rfl) ?_; (repeat (first | go_big_quiet_step ((first | (go_at_call 55; exact Up.pure (tm_dcut_any _ _)) | fail)))); refine wpQuiet_nil ?_; rintro _ ⟨u, rfl⟩)
      go_wp2_with (go_at_call 55; refine (tm_dcut_any _ _).mono ?_; rintro e w' ⟨rfl, rfl⟩)
      go_returns
      exact ⟨tm_ret_tim (by simp [tm_tH]) (by (try simp [tm_tTail, tm_tH]); (repeat' split) <;> (intros; omega)) (by rw [Bool.eq_iff_iff]; simp [tm_tOut, tm_tH]; try omega), by (repeat' (first | (with_reducible exact Below.refl _ _) | (with_reducible assumption) | (with_reducible refine Below.setCell ?_ ?_ _) | (with_reducible refine Below.alloc ?_ ?_ _) | (with_reducible refine Below.drew ?_) | (with_reducible refine Up.base _ ?_ ?_) | (with_reducible exact LeSize.out) | exact LeSize.out | exact Nat.le_add_right_of_le LeSize.out | exact Nat.le_add_right_of_le (Nat.le_add_right_of_le LeSize.out) | (with_reducible exact Nat.le_refl _) | (simp; done) | (simp; omega)))⟩

set_option maxHeartbeats 2000000 in
theorem tm_rstep_any (d e held tail : Int) (out i : Bool) (w : World) :
    Calls Try.prog 43 #[.int .i64 d, .int .i64 e, .agg #[.int .i64 held, .int .i64 tail, .bool out], .bool i] w
      fun en w' => en = .returned (.agg #[.int .i64 (tm_tH i held), .int .i64 (tm_tTail d e held tail out i), .bool (tm_tOut d held tail out i)]) ∧ Below w.heap.size w w' := by
  have hD := tm_cutT_bd d
  have hE := tm_cutT_bd e
  have hH := tm_cutT_bd held
  have hT := tm_cutT_bd tail
  have hm := tm_moreM_T held
  cases i
  · by_cases h2 : 0 < tm_cutT tail
    all_goals cases out
    all_goals
      go_enter Try.func43, Try.ntmps43
      go_wp2_with (first
    | (go_at_call 61; refine (rmore_any _ _).mono ?_; rintro e w' ⟨rfl, rfl⟩)
    | (go_at_call 62; refine (tm_rcut_any _ _).mono ?_; rintro e w' ⟨rfl, rfl⟩))
      go_returns
      exact ⟨tm_ret_tim (by simp [tm_tH]) (by (try simp [tm_tTail, tm_tH]); (repeat' split) <;> (intros; omega)) (by rw [Bool.eq_iff_iff]; simp [tm_tOut, tm_tH]; try omega), by (repeat' (first | (with_reducible exact Below.refl _ _) | (with_reducible assumption) | (with_reducible refine Below.setCell ?_ ?_ _) | (with_reducible refine Below.alloc ?_ ?_ _) | (with_reducible refine Below.drew ?_) | (with_reducible refine Up.base _ ?_ ?_) | (with_reducible exact LeSize.out) | exact LeSize.out | exact Nat.le_add_right_of_le LeSize.out | exact Nat.le_add_right_of_le (Nat.le_add_right_of_le LeSize.out) | (with_reducible exact Nat.le_refl _) | (simp; done) | (simp; omega)))⟩
  · by_cases h1 : tm_cutT d < tm_cutT held + 1
    all_goals by_cases h2 : 0 < tm_cutT tail
    all_goals cases out
    all_goals
      go_enter Try.func43, Try.ntmps43
      go_wp2_with (first
    | (go_at_call 61; refine (rmore_any _ _).mono ?_; rintro e w' ⟨rfl, rfl⟩)
    | (go_at_call 62; refine (tm_rcut_any _ _).mono ?_; rintro e w' ⟨rfl, rfl⟩))
      go_returns
      exact ⟨tm_ret_tim (by simp [tm_tH]) (by (try simp [tm_tTail, tm_tH]); (repeat' split) <;> (intros; omega)) (by rw [Bool.eq_iff_iff]; simp [tm_tOut, tm_tH]; try omega), by (repeat' (first | (with_reducible exact Below.refl _ _) | (with_reducible assumption) | (with_reducible refine Below.setCell ?_ ?_ _) | (with_reducible refine Below.alloc ?_ ?_ _) | (with_reducible refine Below.drew ?_) | (with_reducible refine Up.base _ ?_ ?_) | (with_reducible exact LeSize.out) | exact LeSize.out | exact Nat.le_add_right_of_le LeSize.out | exact Nat.le_add_right_of_le (Nat.le_add_right_of_le LeSize.out) | (with_reducible exact Nat.le_refl _) | (simp; done) | (simp; omega)))⟩

theorem tm_field_tim2 (a b c : Value) (w : World) : (Instr.field 46 (.agg #[a, b, c]) 2).run Try.prog w = .ok c w := by kernel_rfl
attribute [go_sem] tm_field_tim2
end Go.Proofs.Yteohpfelgaffoaa
