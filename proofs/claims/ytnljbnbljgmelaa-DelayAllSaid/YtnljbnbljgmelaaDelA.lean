/- The contracts of package delay and of its reference. -/
import Derived.Test.YtnljbnbljgmelaaCnt
import Derived.Test.YtnljbnbljgmelaaPlace
namespace Go.Proofs.Ytnljbnbljgmelaa
open Go.RowKit
set_option linter.unusedVariables false

def cutT (n : Int) : Int := min (max n 0) 9999
theorem cutT_bd (n : Int) : 0 ≤ cutT n ∧ cutT n ≤ 9999 := by unfold cutT; omega
theorem cutM_T (n : Int) : cutM n 0 9999 = cutT n := by unfold cutM cutT; split <;> (try split) <;> omega
theorem moreM_T (n : Int) : moreM n = cutT n + 1 := rfl
def tH (i : Bool) (held : Int) : Int := if i then cutT held + 1 else 0
def tOut (d held tail : Int) (out i : Bool) : Bool := decide (cutT d < tH i held) || (out && decide (0 < cutT tail))
def tTail (d e held tail : Int) (out i : Bool) : Int := if cutT d < tH i held then cutT e else if out = true ∧ 0 < cutT tail then cutT tail - 1 else 0
theorem ret_tim {a a' b b' : Int} {c c' : Bool} (h1 : a = a') (h2 : b = b') (h3 : c = c') : Ending.returned (.agg #[.int .i64 a, .int .i64 b, .bool c]) = .returned (.agg #[.int .i64 a', .int .i64 b', .bool c']) := by rw [h1, h2, h3]
set_option maxHeartbeats 400000 in
theorem dcut_any (a : Int) (w : World) :
    Calls Try.prog 11 #[.int .i64 a] w fun e w' => e = .returned (.int .i64 (cutT a)) ∧ w = w' := by
  go_enter Try.func11, Try.ntmps11
  go_wp2
  all_goals
    go_ret
    exact ⟨ret_int (by unfold cutT; omega), rfl⟩
theorem rcut_any (a : Int) (w : World) :
    Calls Try.prog 13 #[.int .i64 a, .int .i64 0, .int .i64 9999] w fun e w' => e = .returned (.int .i64 (cutT a)) ∧ w = w' := by
  have := cut_any a 0 9999 w
  rwa [cutM_T] at this

set_option maxHeartbeats 2000000 in
theorem step_any (d e held tail : Int) (out i : Bool) (w : World) :
    Calls Try.prog 7 #[.int .i64 d, .int .i64 e, .agg #[.int .i64 held, .int .i64 tail, .bool out], .bool i] w
      fun en w' => en = .returned (.agg #[.int .i64 (tH i held), .int .i64 (tTail d e held tail out i), .bool (tOut d held tail out i)]) ∧ Below w.heap.size w w' := by
  have hD := cutT_bd d
  have hE := cutT_bd e
  have hH := cutT_bd held
  have hT := cutT_bd tail
  cases i
  · by_cases h2 : 0 < cutT tail
    all_goals cases out
    all_goals
      go_enter Try.func7, Try.ntmps7
      go_wp2_with (go_at_call 11; refine (dcut_any _ _).mono ?_; rintro e w' ⟨rfl, rfl⟩)
    all_goals first
      | (go_returns
         exact ⟨ret_tim (by simp [tH]) (by (try simp [tTail, tH]); (repeat' split) <;> (intros; omega)) (by rw [Bool.eq_iff_iff]; simp [tOut, tH]; try omega), by (repeat' (first | (with_reducible exact Below.refl _ _) | (with_reducible assumption) | (with_reducible refine Below.setCell ?_ ?_ _) | (with_reducible refine Below.alloc ?_ ?_ _) | (with_reducible refine Below.drew ?_) | (with_reducible refine Up.base _ ?_ ?_) | (with_reducible exact LeSize.out) | exact LeSize.out | exact Nat.le_add_right_of_le LeSize.out | exact Nat.le_add_right_of_le (Nat.le_add_right_of_le LeSize.out) | (with_reducible exact Nat.le_refl _) | (simp; done) | (simp; omega)))⟩)
      | ((refine wp_region_up (by kernel_rfl) (by kernel_rfl) ?_; (repeat (go_big_quiet_step ((first | (go_at_call 11; exact Up.pure (dcut_any _ _)) | fail)))); refine wpQuiet_nil ?_; rintro _ ⟨u, rfl⟩)
         go_wp2_with (go_at_call 11; refine (dcut_any _ _).mono ?_; rintro e w' ⟨rfl, rfl⟩)
         go_returns
         exact ⟨ret_tim (by simp [tH]) (by (try simp [tTail, tH]); (repeat' split) <;> (intros; omega)) (by rw [Bool.eq_iff_iff]; simp [tOut, tH]; try omega), by (repeat' (first | (with_reducible exact Below.refl _ _) | (with_reducible assumption) | (with_reducible refine Below.setCell ?_ ?_ _) | (with_reducible refine Below.alloc ?_ ?_ _) | (with_reducible refine Below.drew ?_) | (with_reducible refine Up.base _ ?_ ?_) | (with_reducible exact LeSize.out) | exact LeSize.out | exact Nat.le_add_right_of_le LeSize.out | exact Nat.le_add_right_of_le (Nat.le_add_right_of_le LeSize.out) | (with_reducible exact Nat.le_refl _) | (simp; done) | (simp; omega)))⟩)
  · by_cases h1 : cutT d < cutT held + 1
    all_goals by_cases h2 : 0 < cutT tail
    all_goals cases out
    all_goals
      go_enter Try.func7, Try.ntmps7
      go_wp2_with (go_at_call 11; refine (dcut_any _ _).mono ?_; rintro e w' ⟨rfl, rfl⟩)
      (refine wp_region_up (by kernel_rfl) (by kernel_rfl) ?_; (repeat (go_big_quiet_step ((first | (go_at_call 11; exact Up.pure (dcut_any _ _)) | fail)))); refine wpQuiet_nil ?_; rintro _ ⟨u, rfl⟩)
      go_wp2_with (go_at_call 11; refine (dcut_any _ _).mono ?_; rintro e w' ⟨rfl, rfl⟩)
      go_returns
      exact ⟨ret_tim (by simp [tH]) (by (try simp [tTail, tH]); (repeat' split) <;> (intros; omega)) (by rw [Bool.eq_iff_iff]; simp [tOut, tH]; try omega), by (repeat' (first | (with_reducible exact Below.refl _ _) | (with_reducible assumption) | (with_reducible refine Below.setCell ?_ ?_ _) | (with_reducible refine Below.alloc ?_ ?_ _) | (with_reducible refine Below.drew ?_) | (with_reducible refine Up.base _ ?_ ?_) | (with_reducible exact LeSize.out) | exact LeSize.out | exact Nat.le_add_right_of_le LeSize.out | exact Nat.le_add_right_of_le (Nat.le_add_right_of_le LeSize.out) | (with_reducible exact Nat.le_refl _) | (simp; done) | (simp; omega)))⟩

set_option maxHeartbeats 2000000 in
theorem rstep_any (d e held tail : Int) (out i : Bool) (w : World) :
    Calls Try.prog 8 #[.int .i64 d, .int .i64 e, .agg #[.int .i64 held, .int .i64 tail, .bool out], .bool i] w
      fun en w' => en = .returned (.agg #[.int .i64 (tH i held), .int .i64 (tTail d e held tail out i), .bool (tOut d held tail out i)]) ∧ Below w.heap.size w w' := by
  have hD := cutT_bd d
  have hE := cutT_bd e
  have hH := cutT_bd held
  have hT := cutT_bd tail
  have hm := moreM_T held
  cases i
  · by_cases h2 : 0 < cutT tail
    all_goals cases out
    all_goals
      go_enter Try.func8, Try.ntmps8
      go_wp2_with (first
    | (go_at_call 12; refine (rmore_any _ _).mono ?_; rintro e w' ⟨rfl, rfl⟩)
    | (go_at_call 13; refine (rcut_any _ _).mono ?_; rintro e w' ⟨rfl, rfl⟩))
      go_returns
      exact ⟨ret_tim (by simp [tH]) (by (try simp [tTail, tH]); (repeat' split) <;> (intros; omega)) (by rw [Bool.eq_iff_iff]; simp [tOut, tH]; try omega), by (repeat' (first | (with_reducible exact Below.refl _ _) | (with_reducible assumption) | (with_reducible refine Below.setCell ?_ ?_ _) | (with_reducible refine Below.alloc ?_ ?_ _) | (with_reducible refine Below.drew ?_) | (with_reducible refine Up.base _ ?_ ?_) | (with_reducible exact LeSize.out) | exact LeSize.out | exact Nat.le_add_right_of_le LeSize.out | exact Nat.le_add_right_of_le (Nat.le_add_right_of_le LeSize.out) | (with_reducible exact Nat.le_refl _) | (simp; done) | (simp; omega)))⟩
  · by_cases h1 : cutT d < cutT held + 1
    all_goals by_cases h2 : 0 < cutT tail
    all_goals cases out
    all_goals
      go_enter Try.func8, Try.ntmps8
      go_wp2_with (first
    | (go_at_call 12; refine (rmore_any _ _).mono ?_; rintro e w' ⟨rfl, rfl⟩)
    | (go_at_call 13; refine (rcut_any _ _).mono ?_; rintro e w' ⟨rfl, rfl⟩))
      go_returns
      exact ⟨ret_tim (by simp [tH]) (by (try simp [tTail, tH]); (repeat' split) <;> (intros; omega)) (by rw [Bool.eq_iff_iff]; simp [tOut, tH]; try omega), by (repeat' (first | (with_reducible exact Below.refl _ _) | (with_reducible assumption) | (with_reducible refine Below.setCell ?_ ?_ _) | (with_reducible refine Below.alloc ?_ ?_ _) | (with_reducible refine Below.drew ?_) | (with_reducible refine Up.base _ ?_ ?_) | (with_reducible exact LeSize.out) | exact LeSize.out | exact Nat.le_add_right_of_le LeSize.out | exact Nat.le_add_right_of_le (Nat.le_add_right_of_le LeSize.out) | (with_reducible exact Nat.le_refl _) | (simp; done) | (simp; omega)))⟩

theorem field_tim2 (a b c : Value) (w : World) : (Instr.field 23 (.agg #[a, b, c]) 2).run Try.prog w = .ok c w := by kernel_rfl
attribute [go_sem] field_tim2
set_option maxHeartbeats 1000000 in
theorem awake_any (w : World) :
    Calls Try.prog 9 #[] w fun e w' => e = .returned (.bool true) ∧ Below w.heap.size w w' := by
  have a1 : tH true 0 = 1 := by decide
  have a2 : tTail 0 2 0 0 false true = 2 := by decide
  have a3 : tOut 0 0 0 false true = true := by decide
  have b1 : ∀ n, tH false n = 0 := fun _ => rfl
  have b2 : tTail 0 2 1 2 true false = 1 := by decide
  have b3 : tOut 0 1 2 true false = true := by decide
  have c2 : tTail 0 2 0 1 true false = 0 := by decide
  have c3 : tOut 0 0 1 true false = true := by decide
  have d3 : tOut 0 0 0 true false = false := by decide
  go_enter Try.func9, Try.ntmps9
  go_wp2_with (go_at_call 7; refine (Up.run (step_any _ _ _ _ _ _ _)).mono ?_; rintro e w' ⟨rfl, u, rfl⟩)
  go_ret
  exact ⟨rfl, by (repeat' (first | (with_reducible exact Below.refl _ _) | (with_reducible assumption) | (with_reducible refine Below.setCell ?_ ?_ _) | (with_reducible refine Below.alloc ?_ ?_ _) | (with_reducible refine Below.drew ?_) | (with_reducible refine Up.base _ ?_ ?_) | (with_reducible exact LeSize.out) | exact LeSize.out | exact Nat.le_add_right_of_le LeSize.out | exact Nat.le_add_right_of_le (Nat.le_add_right_of_le LeSize.out) | (with_reducible exact Nat.le_refl _) | (simp; done) | (simp; omega)))⟩

theorem arr3 (cs : Array Value) (h : cs.size = 3) : ∃ c0 c1 c2, cs = #[c0, c1, c2] := by
  obtain ⟨l⟩ := cs
  match l, h with
  | [c0, c1, c2], _ => exact ⟨c0, c1, c2, rfl⟩
set_option maxHeartbeats 1000000 in
theorem delayAll_walk (d e held tail : Int) (out i : Bool) (w : World) (_ : InKind .i64 d) (_ : InKind .i64 e) (_ : InKind .i64 held) (_ : InKind .i64 tail) :
    Calls Try.prog 3 #[.int .i64 d, .int .i64 e, .agg #[.int .i64 held, .int .i64 tail, .bool out], .bool i] w fun e w' => e = .returned (.bool true) ∧ Below w.heap.size w w' := by
  go_enter Try.func3, Try.ntmps3
  go_wp2
  (refine wp_region_up (by kernel_rfl) (by kernel_rfl) ?_; (repeat (go_big_quiet_step ((first | (go_at_call 7; exact Up.calls (step_any _ _ _ _ _ _ _)) | (go_at_call 8; exact Up.calls (rstep_any _ _ _ _ _ _ _)) | (go_at_call 9; exact Up.calls (awake_any _)) | fail)))); refine wpQuiet_nil ?_; rintro _ ⟨u, rfl⟩)
  go_wp2
  go_ret
  exact ⟨rfl, by (repeat' (first | (with_reducible exact Below.refl _ _) | (with_reducible assumption) | (with_reducible refine Below.setCell ?_ ?_ _) | (with_reducible refine Below.alloc ?_ ?_ _) | (with_reducible refine Below.drew ?_) | (with_reducible refine Up.base _ ?_ ?_) | (with_reducible exact LeSize.out) | exact LeSize.out | exact Nat.le_add_right_of_le LeSize.out | exact Nat.le_add_right_of_le (Nat.le_add_right_of_le LeSize.out) | (with_reducible exact Nat.le_refl _) | (simp; done) | (simp; omega)))⟩
end Go.Proofs.Ytnljbnbljgmelaa
