/- The contracts of package sat's reference, and of 'awake'. -/
import Derived.Test.YtjjlcjafadigkaaSat
import Derived.Test.YtjjlcjafadigkaaSatP
import Derived.Deep.QuietTactic
import Derived.BigQuiet
namespace Go.Proofs.Ytjjlcjafadigkaa
open Go.RowKit
set_option linter.unusedVariables false

set_option maxHeartbeats 400000 in
theorem radd_any (a b : Int) (w : World) :
    Calls Try.prog 16 #[.int .i64 a, .int .i64 b] w fun e w' => e = .returned (.int .i64 (addM a b)) ∧ w = w' := by
  have ha := capM_bd a
  have hb := capM_bd b
  go_enter Try.func16, Try.ntmps16
  go_wp2_with (go_at_call 14; refine (rcap_any _ _).mono ?_; rintro e w' ⟨rfl, rfl⟩)
  go_ret
  exact ⟨rfl, rfl⟩

set_option maxHeartbeats 400000 in
theorem rsub_any (a b : Int) (w : World) :
    Calls Try.prog 18 #[.int .i64 a, .int .i64 b] w fun e w' => e = .returned (.int .i64 (subM a b)) ∧ w = w' := by
  have ha := capM_bd a
  have hb := capM_bd b
  go_enter Try.func18, Try.ntmps18
  go_wp2_with (go_at_call 14; refine (rcap_any _ _).mono ?_; rintro e w' ⟨rfl, rfl⟩)
  go_ret
  exact ⟨rfl, rfl⟩

set_option maxHeartbeats 400000 in
theorem rmul_any (a b : Int) (w : World) :
    Calls Try.prog 19 #[.int .i64 a, .int .i64 b] w fun e w' => e = .returned (.int .i64 (mulM a b)) ∧ w = w' := by
  have hm := mul_bd (capM_bd a) (capM_bd b)
  go_enter Try.func19, Try.ntmps19
  go_wp2_with (go_at_call 14; refine (rcap_any _ _).mono ?_; rintro e w' ⟨rfl, rfl⟩)
  go_ret
  exact ⟨rfl, rfl⟩

set_option maxHeartbeats 400000 in
theorem awake_any (w : World) :
    Calls Try.prog 8 #[] w fun e w' => e = .returned (.bool true) ∧ Below w.heap.size w w' := by
  have h1 : addM 2147483647 1 = 2147483647 := by decide +kernel
  have h2 : subM 3 5 = 0 := by decide +kernel
  have h3 : mulM 6 7 = 42 := by decide +kernel
  have h4 : sumM [1, 2, 3] = 6 := by decide +kernel
  go_enter Try.func8, Try.ntmps8
  go_wp2_with (first
    | (go_at_call 11; refine (add_any _ _ _).mono ?_; rintro e w' ⟨rfl, rfl⟩)
    | (go_at_call 17; refine (sub_any _ _ _).mono ?_; rintro e w' ⟨rfl, rfl⟩)
    | (go_at_call 12; refine (mul_any _ _ _).mono ?_; rintro e w' ⟨rfl, rfl⟩))
  refine (sum_any _ _ [1, 2, 3] _ (by simp) (Or.inr ⟨_, _, rfl, by simp, ?_⟩)).mono ?_
  · intro i hi
    match i, hi with
    | 0, _ => simp
    | 1, _ => simp
    | 2, _ => simp
  rintro e w' ⟨rfl, rfl⟩
  go_wp2
  go_ret
  exact ⟨rfl, (Below.refl _ _).alloc (Nat.le_refl _) _⟩
end Go.Proofs.Ytjjlcjafadigkaa
