/- The contracts of the references' counts of ticks: Cut, More, more. -/
import Derived.Test.YtbnbakienajhmaaOpen
namespace Go.Proofs.Ytbnbakienajhmaa
open Go.RowKit
set_option linter.unusedVariables false

def moreM (n : Int) : Int := min (max n 0) 9999 + 1
theorem moreM_bd (n : Int) : 1 ≤ moreM n ∧ moreM n ≤ 10000 := by unfold moreM; omega
def cutM (n a b : Int) : Int := if n < a then a else if b < n then b else n
set_option maxHeartbeats 400000 in
theorem cut_any (n a b : Int) (w : World) :
    Calls Try.prog 78 #[.int .i64 n, .int .i64 a, .int .i64 b] w fun e w' => e = .returned (.int .i64 (cutM n a b)) ∧ w = w' := by
  go_enter Try.func78, Try.ntmps78
  go_wp2
  all_goals
    go_ret
    exact ⟨ret_int (by simp [cutM, *]; try omega), rfl⟩
set_option maxHeartbeats 400000 in
theorem rMore_any (a : Int) (w : World) :
    Calls Try.prog 82 #[.int .i64 a] w fun e w' => e = .returned (.int .i64 (moreM a)) ∧ w = w' := by
  have h : 0 ≤ cutM a 0 9999 ∧ cutM a 0 9999 ≤ 9999 := by unfold cutM; split <;> (try split) <;> omega
  go_enter Try.func82, Try.ntmps82
  go_wp2_with (go_at_call 78; refine (cut_any _ _ _ _).mono ?_; rintro e w' ⟨rfl, rfl⟩)
  go_ret
  exact ⟨ret_int (by unfold moreM cutM; split <;> (try split) <;> omega), rfl⟩
set_option maxHeartbeats 400000 in
theorem rmore_any (a : Int) (w : World) :
    Calls Try.prog 68 #[.int .i64 a] w fun e w' => e = .returned (.int .i64 (moreM a)) ∧ w = w' := by
  go_enter Try.func68, Try.ntmps68
  go_wp2_with (go_at_call 82; refine (rMore_any _ _).mono ?_; rintro e w' ⟨rfl, rfl⟩)
  go_ret
  exact ⟨rfl, rfl⟩
end Go.Proofs.Ytbnbakienajhmaa
