/- The contracts of the references' counts of ticks: Cut, More, more. -/
import Derived.Test.YtpmnhieehkjnmaaOpen
namespace Go.Proofs.Ytpmnhieehkjnmaa
open Go.RowKit
set_option linter.unusedVariables false

def moreM (n : Int) : Int := min (max n 0) 9999 + 1
theorem moreM_bd (n : Int) : 1 ≤ moreM n ∧ moreM n ≤ 10000 := by unfold moreM; omega
def cutM (n a b : Int) : Int := if n < a then a else if b < n then b else n
set_option maxHeartbeats 400000 in
theorem cut_any (n a b : Int) (w : World) :
    Calls Try.prog 18 #[.int .i64 n, .int .i64 a, .int .i64 b] w fun e w' => e = .returned (.int .i64 (cutM n a b)) ∧ w = w' := by
  go_enter Try.func18, Try.ntmps18
  go_wp2
  all_goals
    go_ret
    exact ⟨ret_int (by simp [cutM, *]; try omega), rfl⟩
end Go.Proofs.Ytpmnhieehkjnmaa
