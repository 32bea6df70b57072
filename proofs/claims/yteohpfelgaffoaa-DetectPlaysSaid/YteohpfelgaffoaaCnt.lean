/- The contracts of the references' counts of ticks: Cut, More, more. -/
import Derived.Test.YteohpfelgaffoaaOpen
namespace Go.Proofs.Yteohpfelgaffoaa
open Go.RowKit
set_option linter.unusedVariables false

def moreM (n : Int) : Int := min (max n 0) 9999 + 1
theorem moreM_bd (n : Int) : 1 ≤ moreM n ∧ moreM n ≤ 10000 := by unfold moreM; omega
def cutM (n a b : Int) : Int := if n < a then a else if b < n then b else n
set_option maxHeartbeats 400000 in
theorem cut_any (n a b : Int) (w : World) :
    Calls Try.prog 62 #[.int .i64 n, .int .i64 a, .int .i64 b] w fun e w' => e = .returned (.int .i64 (cutM n a b)) ∧ w = w' := by
  go_enter Try.func62, Try.ntmps62
  go_wp2
  all_goals
    go_ret
    exact ⟨ret_int (by simp [cutM, *]; try omega), rfl⟩
set_option maxHeartbeats 400000 in
theorem rMore_any (a : Int) (w : World) :
    Calls Try.prog 72 #[.int .i64 a] w fun e w' => e = .returned (.int .i64 (moreM a)) ∧ w = w' := by
  have h : 0 ≤ cutM a 0 9999 ∧ cutM a 0 9999 ≤ 9999 := by unfold cutM; split <;> (try split) <;> omega
  go_enter Try.func72, Try.ntmps72
  go_wp2_with (go_at_call 62; refine (cut_any _ _ _ _).mono ?_; rintro e w' ⟨rfl, rfl⟩)
  go_ret
  exact ⟨ret_int (by unfold moreM cutM; split <;> (try split) <;> omega), rfl⟩
set_option maxHeartbeats 400000 in
theorem rmore_any (a : Int) (w : World) :
    Calls Try.prog 61 #[.int .i64 a] w fun e w' => e = .returned (.int .i64 (moreM a)) ∧ w = w' := by
  go_enter Try.func61, Try.ntmps61
  go_wp2_with (go_at_call 72; refine (rMore_any _ _).mono ?_; rintro e w' ⟨rfl, rfl⟩)
  go_ret
  exact ⟨rfl, rfl⟩
end Go.Proofs.Yteohpfelgaffoaa
