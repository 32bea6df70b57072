/- The contract of the reference's Grow. -/
import Derived.Test.YtmapdkhcfejkaaaGapB
import Derived.Test.YtmapdkhcfejkaaaFitsZ
namespace Go.Proofs.Ytmapdkhcfejkaaa
open Go.RowKit
set_option linter.unusedVariables false

theorem phaseM_bd {pmin pgap pmax ptop pstep pyel pred pwalk pblinks prec : Int} (h : phaseM pmin pgap pmax ptop pstep pyel pred pwalk pblinks prec = true) :
    (0 ≤ pmin ∧ pmin ≤ 9999) ∧ (0 ≤ pgap ∧ pgap ≤ 9999) ∧ (0 ≤ pmax ∧ pmax ≤ 9999) ∧ (0 ≤ ptop ∧ ptop ≤ 9999) ∧ (0 ≤ pstep ∧ pstep ≤ 9999) ∧ (0 ≤ pyel ∧ pyel ≤ 9999) ∧ (0 ≤ pred ∧ pred ≤ 9999) ∧ (0 ≤ pwalk ∧ pwalk ≤ 9999) ∧ (0 ≤ pblinks ∧ pblinks ≤ 9999) ∧ (0 ≤ prec ∧ prec ≤ 3) := by
  simpa [phaseM, uptoM, and_assoc] using h
theorem cut01 (n : Int) : cutM n 0 1 = bit01 n := by unfold cutM bit01; split <;> (try split) <;> omega
theorem rcut01_any (a : Int) (w : World) :
    Calls Try.prog 39 #[.int .i64 a, .int .i64 0, .int .i64 1] w fun e w' => e = .returned (.int .i64 (bit01 a)) ∧ w = w' := by
  have := cut_any a 0 1 w
  rwa [cut01] at this
theorem limM_limM (mx tp lim : Int) : limM mx tp (limM mx tp lim) = limM mx tp lim := by unfold limM; omega
theorem limM_le {mx tp lim : Int} (hmx : 0 ≤ mx ∧ mx ≤ 9999) (htp : 0 ≤ tp ∧ tp ≤ 9999) : 0 ≤ limM mx tp lim ∧ limM mx tp lim ≤ 9999 := by unfold limM; omega
set_option maxHeartbeats 4000000 in
theorem rgrow_any (pon : Bool) (pmin pgap pmax ptop pstep pyel pred pwalk pblinks prec : Int) (plock prest : Bool) (lim up dn : Int) (m : Bool) (w : World) (hmx : 0 ≤ pmax ∧ pmax ≤ 9999) (htp : 0 ≤ ptop ∧ ptop ≤ 9999) (hst : 0 ≤ pstep ∧ pstep ≤ 9999) :
    Calls Try.prog 19 #[.agg #[.bool pon, .int .i64 pmin, .int .i64 pgap, .int .i64 pmax, .int .i64 ptop, .int .i64 pstep, .int .i64 pyel, .int .i64 pred, .int .i64 pwalk, .int .i64 pblinks, .int .i64 prec, .bool plock, .bool prest], .agg #[.int .i64 lim, .int .i64 up, .int .i64 dn], .bool m] w
      fun e w' => e = .returned (.agg #[.int .i64 (grLim pmax ptop pstep lim up dn m), .int .i64 (grUp up m), .int .i64 (grDn dn m)]) ∧ Below w.heap.size w w' := by
  have hl := limM_le (lim := lim) hmx htp
  have HP : Hid (plusM (limM pmax ptop lim) pstep = limM pmax ptop lim + pstep) := Lib.hid (by unfold plusM; (repeat' split) <;> omega)
  have HM : Hid (minusM (limM pmax ptop lim) pstep = limM pmax ptop lim - pstep) := Lib.hid (by unfold minusM; (repeat' split) <;> omega)
  rcases bit01_or up with u1 | u1
  all_goals rcases bit01_or dn with d1 | d1
  all_goals
    have U1 := Lib.hid u1
    have D1 := Lib.hid d1
    cases m
  all_goals
    go_enter Try.func19, Try.ntmps19
    go_wp2_with (first
    | (go_at_call 20; refine (Up.run (rlimit_any _ _ _ _ _ _ _ _ _ _ _ _ _ _ _ _ _)).mono ?_; rintro e w' ⟨rfl, u, rfl⟩)
    | (go_at_call 39; refine (rcut01_any _ _).mono ?_; rintro e w' ⟨rfl, rfl⟩))
    go_returns
    exact ⟨ret_tr (by simp [grLim, U1.out, D1.out, HP.out, HM.out, limM_limM]) (by simp [grUp, U1.out]) (by simp [grDn, D1.out]), by (repeat' (first | (with_reducible exact Below.refl _ _) | (with_reducible assumption) | (with_reducible refine Below.setCell ?_ ?_ _) | (with_reducible refine Below.alloc ?_ ?_ _) | (with_reducible refine Below.drew ?_) | (with_reducible refine Up.base _ ?_ ?_) | (with_reducible exact LeSize.out) | exact LeSize.out | exact Nat.le_add_right_of_le LeSize.out | exact Nat.le_add_right_of_le (Nat.le_add_right_of_le LeSize.out) | (with_reducible exact Nat.le_refl _) | (simp; done) | (simp; omega)))⟩

end Go.Proofs.Ytmapdkhcfejkaaa
