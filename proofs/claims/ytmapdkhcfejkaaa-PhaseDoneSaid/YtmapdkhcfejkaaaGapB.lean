/- The contract of gap.Grow, and 'awake'. -/
import Derived.Test.YtmapdkhcfejkaaaGapA
import Derived.Test.YtmapdkhcfejkaaaOdd
namespace Go.Proofs.Ytmapdkhcfejkaaa
open Go.RowKit
set_option linter.unusedVariables false

def bit01 (n : Int) : Int := min (max n 0) 1
theorem bit01_or (n : Int) : bit01 n = 0 ∨ bit01 n = 1 := by unfold bit01; omega
def grLim (mx tp st lim up dn : Int) (m : Bool) : Int :=
  limM mx tp (if m then (if bit01 up = 1 then plusM (limM mx tp lim) st else limM mx tp lim) else (if bit01 dn = 1 then minusM (limM mx tp lim) st else limM mx tp lim))
def grUp (up : Int) (m : Bool) : Int := if m then (if bit01 up = 1 then 0 else 1) else 0
def grDn (dn : Int) (m : Bool) : Int := if m then 0 else (if bit01 dn = 1 then 0 else 1)
theorem limM_in {mx tp lim : Int} (h1 : InKind .i64 mx) (h2 : InKind .i64 tp) (h3 : InKind .i64 lim) : -9223372036854775808 ≤ limM mx tp lim ∧ limM mx tp lim ≤ 9223372036854775807 := by
  have g1 : -9223372036854775808 ≤ mx ∧ mx ≤ 9223372036854775807 := h1
  have g2 : -9223372036854775808 ≤ tp ∧ tp ≤ 9223372036854775807 := h2
  have g3 : -9223372036854775808 ≤ lim ∧ lim ≤ 9223372036854775807 := h3
  unfold limM; omega
theorem ret_tr {a a' b b' c c' : Int} (h1 : a = a') (h2 : b = b') (h3 : c = c') : Ending.returned (.agg #[.int .i64 a, .int .i64 b, .int .i64 c]) = .returned (.agg #[.int .i64 a', .int .i64 b', .int .i64 c']) := by rw [h1, h2, h3]
set_option maxHeartbeats 4000000 in
set_option maxRecDepth 100000 in
theorem grow_any (pon : Bool) (pmin pgap pmax ptop pstep pyel pred pwalk pblinks prec : Int) (plock prest : Bool) (lim up dn : Int) (m : Bool) (w : World) (h1 : InKind .i64 pmax) (h2 : InKind .i64 ptop) (h3 : InKind .i64 lim) (h4 : InKind .i64 pstep) :
    Calls Try.prog 60 #[.agg #[.bool pon, .int .i64 pmin, .int .i64 pgap, .int .i64 pmax, .int .i64 ptop, .int .i64 pstep, .int .i64 pyel, .int .i64 pred, .int .i64 pwalk, .int .i64 pblinks, .int .i64 prec, .bool plock, .bool prest], .agg #[.int .i64 lim, .int .i64 up, .int .i64 dn], .bool m] w
      fun e w' => e = .returned (.agg #[.int .i64 (grLim pmax ptop pstep lim up dn m), .int .i64 (grUp up m), .int .i64 (grDn dn m)]) ∧ Below w.heap.size w w' := by
  have hl := limM_in h1 h2 h3
  have hs : -9223372036854775808 ≤ pstep ∧ pstep ≤ 9223372036854775807 := h4
  clear h1 h2 h3 h4
  obtain ⟨m1, e1⟩ : ∃ m1, (if up < 0 then (0 : Int) else up) = m1 := ⟨_, rfl⟩
  obtain ⟨m2, e3⟩ : ∃ m2, (if dn < 0 then (0 : Int) else dn) = m2 := ⟨_, rfl⟩
  have b1 : bit01 up = if 1 < m1 then 1 else m1 := by rw [← e1]; unfold bit01; split <;> split <;> omega
  have b2 : bit01 dn = if 1 < m2 then 1 else m2 := by rw [← e3]; unfold bit01; split <;> split <;> omega
  have B1 := Lib.hid b1
  have B2 := Lib.hid b2
  rcases bit01_or up with u1 | u1
  all_goals rcases bit01_or dn with d1 | d1
  all_goals
    rw [u1] at b1
    rw [d1] at b2
    have c1 := b1.symm
    have c2 := b2.symm
    have U1 := Lib.hid u1
    have D1 := Lib.hid d1
    clear b1 b2 u1 d1
    cases m
  all_goals
    go_enter Try.func60, Try.ntmps60
    go_wp2
    (refine wp_region_up_alloc 15 14 (by kernel_rfl) (by kernel_rfl) rfl rfl (fun A w => by simp only [go_sem]; rfl) ?_; intro X; simp only [List.take_succ_cons, List.take_zero, List.drop_succ_cons, List.drop_zero, List.eraseIdx_cons_succ, List.eraseIdx_cons_zero]; (repeat (first | go_big_quiet_step ((first | (go_at_call 55; exact Up.calls (limit_any _ _ _ _ _ _ _ _ _ _ _ _ _ _ _ _ _)) | fail)))); refine wpQuiet_nil ?_; clear X; rintro q u hq hO; (try simp at hq); have lO := laid_le hO; have hO0 := laid_cell hO 0 rfl; have hOf0 := laid_open hO 0; have hOj0 := HasCell.of hO0; have hO1 := laid_cell hO 1 rfl; have hOf1 := laid_open hO 1; have hOj1 := HasCell.of hO1; have hO2 := laid_cell hO 2 rfl; have hOf2 := laid_open hO 2; have hOj2 := HasCell.of hO2; clear hO; go_simp)
    go_wp2_with (first
    | (go_at_call 78; refine (plus_any _ _ _ (by assumption) (by assumption)).mono ?_; rintro e w' ⟨rfl, rfl⟩)
    | (go_at_call 79; refine (minus_any _ _ _ (by assumption) (by assumption)).mono ?_; rintro e w' ⟨rfl, rfl⟩)
    | (go_at_call 55; refine (Up.run (limit_any _ _ _ _ _ _ _ _ _ _ _ _ _ _ _ _ _)).mono ?_; rintro e w' ⟨rfl, u, rfl⟩))
    go_returns
    exact ⟨ret_tr (by simp [grLim, U1.out, D1.out]) (by simp [grUp, U1.out] <;> omega) (by simp [grDn, D1.out] <;> omega), by (repeat' (first | (with_reducible exact Below.refl _ _) | (with_reducible assumption) | (with_reducible refine Below.setCell ?_ ?_ _) | (with_reducible refine Below.alloc ?_ ?_ _) | (with_reducible refine Below.drew ?_) | (with_reducible refine Up.base _ ?_ ?_) | (with_reducible exact LeSize.out) | exact LeSize.out | exact Nat.le_add_right_of_le LeSize.out | exact Nat.le_add_right_of_le (Nat.le_add_right_of_le LeSize.out) | (with_reducible exact Nat.le_refl _) | (simp; done) | (simp; omega)))⟩
end Go.Proofs.Ytmapdkhcfejkaaa
