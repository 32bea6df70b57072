/- The contract of Fits. -/
import Derived.Test.YtmapdkhcfejkaaaMayZ
namespace Go.Proofs.Ytmapdkhcfejkaaa
open Go.RowKit
set_option linter.unusedVariables false

def TabZero : Array Value := TabZ false 0 0 0 0 0 0 0 0 0 0 false false
theorem zeroTab (w : World) : (zeroValue 32).run Try.prog w = .ok (.agg TabZero) w := zero_of (by kernel_rfl) w
theorem tabSet (pon : Bool) (pmin pgap pmax ptop pstep pyel pred pwalk pblinks prec : Int) (plock prest : Bool) : (((((((((((((TabZero.setIfInBounds 0 (.bool pon)).setIfInBounds 1 (.int .i64 pmin)).setIfInBounds 2 (.int .i64 pgap)).setIfInBounds 3 (.int .i64 pmax)).setIfInBounds 4 (.int .i64 ptop)).setIfInBounds 5 (.int .i64 pstep)).setIfInBounds 6 (.int .i64 pyel)).setIfInBounds 7 (.int .i64 pred)).setIfInBounds 8 (.int .i64 pwalk)).setIfInBounds 9 (.int .i64 pblinks)).setIfInBounds 10 (.int .i64 prec)).setIfInBounds 11 (.bool plock)).setIfInBounds 12 (.bool prest)) = TabZ pon pmin pgap pmax ptop pstep pyel pred pwalk pblinks prec plock prest := by kernel_rfl
set_option maxHeartbeats 4000000 in
set_option maxRecDepth 100000 in
theorem fits_any (pon : Bool) (pmin pgap pmax ptop pstep pyel pred pwalk pblinks prec : Int) (plock prest : Bool) (w : World) :
    Calls Try.prog 21 #[.agg #[.bool pon, .int .i64 pmin, .int .i64 pgap, .int .i64 pmax, .int .i64 ptop, .int .i64 pstep, .int .i64 pyel, .int .i64 pred, .int .i64 pwalk, .int .i64 pblinks, .int .i64 prec, .bool plock, .bool prest]] w fun e w' => e = .returned (.bool (phaseM pmin pgap pmax ptop pstep pyel pred pwalk pblinks prec)) ∧ Below w.heap.size w w' := by
  have z := zeroTab
  have hz : TabZero.size = 131 := rfl
  go_enter Try.func21, Try.ntmps21
  go_wp2_with (refine wpList_load_whole 32 _ rfl rfl rfl Try.underlying32 rfl (by simp only [Array.size_setIfInBounds, hz]; kernel_rfl) ?_; go_simp)
  rw [tabSet]
  go_wp2_with (go_at_call 40; (with_reducible refine (Up.run (mayZ_any _ _ _ _ _ _ _ _ _ _ _ _ _ _)).mono ?_); rintro e w' ⟨rfl, u, rfl⟩)
  go_ret
  exact ⟨rfl, by (repeat' (first | (with_reducible exact Below.refl _ _) | (with_reducible assumption) | (with_reducible refine Below.setCell ?_ ?_ _) | (with_reducible refine Below.alloc ?_ ?_ _) | (with_reducible refine Below.drew ?_) | (with_reducible refine Up.base _ ?_ ?_) | (with_reducible exact LeSize.out) | exact LeSize.out | exact Nat.le_add_right_of_le LeSize.out | exact Nat.le_add_right_of_le (Nat.le_add_right_of_le LeSize.out) | (with_reducible exact Nat.le_refl _) | (simp; done) | (simp; omega)))⟩
end Go.Proofs.Ytmapdkhcfejkaaa
