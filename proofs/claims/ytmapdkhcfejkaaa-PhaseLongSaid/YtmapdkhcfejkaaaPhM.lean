/- 'awake' of package phase's laws; cues by numbers; the phases of a table by numbers. -/
import Derived.Test.YtmapdkhcfejkaaaPhZ
import Derived.Test.YtmapdkhcfejkaaaTabR
namespace Go.Proofs.Ytmapdkhcfejkaaa
open Go.RowKit
set_option linter.unusedVariables false

theorem pbeginA_any (w : World) : Calls Try.prog 12 #[.agg #[.bool true, .int .i64 1, .int .i64 0, .int .i64 1, .int .i64 1, .int .i64 0, .int .i64 10, .int .i64 2, .int .i64 0, .int .i64 0, .int .i64 0, .bool false, .bool false]] w fun e w' => e = .returned (.agg #[.int .i64 0, .int .i64 9999, .int .i64 0, .int .i64 0, .int .i64 0, .int .i64 0, .int .i64 0, .bool false, .bool false, .int .i64 1, .int .i64 0, .int .i64 0]) ∧ Below w.heap.size w w' := pbegin_any ⟨true, 1, 0, 1, 1, 0, 10, 2, 0, 0, 0, false, false⟩ w
theorem pstepA1_any (w : World) : Calls Try.prog 17 #[.agg #[.bool true, .int .i64 1, .int .i64 0, .int .i64 1, .int .i64 1, .int .i64 0, .int .i64 10, .int .i64 2, .int .i64 0, .int .i64 0, .int .i64 0, .bool false, .bool false], .agg #[.int .i64 0, .int .i64 9999, .int .i64 0, .int .i64 0, .int .i64 0, .int .i64 0, .int .i64 0, .bool false, .bool false, .int .i64 1, .int .i64 0, .int .i64 0], .agg #[.bool true, .bool false, .bool false, .bool false, .bool false, .bool false, .bool false, .bool false]] w fun e w' => e = .returned (.agg #[.int .i64 1, .int .i64 1, .int .i64 0, .int .i64 0, .int .i64 0, .int .i64 0, .int .i64 0, .bool false, .bool false, .int .i64 1, .int .i64 0, .int .i64 0]) ∧ Below w.heap.size w w' :=
  pstep_any ⟨true, 1, 0, 1, 1, 0, 10, 2, 0, 0, 0, false, false⟩ ⟨0, 9999, 0, 0, 0, 0, 0, false, false, 1, 0, 0⟩ ⟨true, false, false, false, false, false, false, false⟩ w (by simp [InKind]) (by simp [InKind]) (by simp [InKind]) (by simp [InKind])
theorem pstepA2_any (w : World) : Calls Try.prog 17 #[.agg #[.bool true, .int .i64 1, .int .i64 0, .int .i64 1, .int .i64 1, .int .i64 0, .int .i64 10, .int .i64 2, .int .i64 0, .int .i64 0, .int .i64 0, .bool false, .bool false], .agg #[.int .i64 1, .int .i64 1, .int .i64 0, .int .i64 0, .int .i64 0, .int .i64 0, .int .i64 0, .bool false, .bool false, .int .i64 1, .int .i64 0, .int .i64 0], .agg #[.bool false, .bool true, .bool false, .bool false, .bool false, .bool false, .bool false, .bool false]] w fun e w' => e = .returned (.agg #[.int .i64 2, .int .i64 1, .int .i64 0, .int .i64 0, .int .i64 0, .int .i64 0, .int .i64 0, .bool false, .bool false, .int .i64 1, .int .i64 0, .int .i64 0]) ∧ Below w.heap.size w w' :=
  pstep_any ⟨true, 1, 0, 1, 1, 0, 10, 2, 0, 0, 0, false, false⟩ ⟨1, 1, 0, 0, 0, 0, 0, false, false, 1, 0, 0⟩ ⟨false, true, false, false, false, false, false, false⟩ w (by simp [InKind]) (by simp [InKind]) (by simp [InKind]) (by simp [InKind])
theorem pheldA_any (w : World) : Calls Try.prog 15 #[.agg #[.bool true, .int .i64 1, .int .i64 0, .int .i64 1, .int .i64 1, .int .i64 0, .int .i64 10, .int .i64 2, .int .i64 0, .int .i64 0, .int .i64 0, .bool false, .bool false], .agg #[.int .i64 1, .int .i64 1, .int .i64 0, .int .i64 0, .int .i64 0, .int .i64 0, .int .i64 0, .bool false, .bool false, .int .i64 1, .int .i64 0, .int .i64 0], .agg #[.bool false, .bool false, .bool false, .bool false, .bool true, .bool true, .bool false, .bool false]] w fun e w' => e = .returned (.bool true) ∧ Below w.heap.size w w' := by
  have := pheld_any ⟨true, 1, 0, 1, 1, 0, 10, 2, 0, 0, 0, false, false⟩ ⟨1, 1, 0, 0, 0, 0, 0, false, false, 1, 0, 0⟩ ⟨false, false, false, false, true, true, false, false⟩ w
  rwa [show heldM ⟨true, 1, 0, 1, 1, 0, 10, 2, 0, 0, 0, false, false⟩ ⟨1, 1, 0, 0, 0, 0, 0, false, false, 1, 0, 0⟩ ⟨false, false, false, false, true, true, false, false⟩ = true by decide] at this
set_option maxHeartbeats 4000000 in
set_option maxRecDepth 100000 in
theorem awake18_any (w : World) :
    Calls Try.prog 11 #[] w fun e w' => e = .returned (.bool true) ∧ Below w.heap.size w w' := by
  go_enter Try.func11, Try.ntmps11
  go_wp2
  (refine wp_region_up_alloc 6 5 (by kernel_rfl) (by kernel_rfl) rfl rfl (fun A w => by simp only [go_sem]; rfl) ?_; intro X; simp only [List.take_succ_cons, List.take_zero, List.drop_succ_cons, List.drop_zero, List.eraseIdx_cons_succ, List.eraseIdx_cons_zero]; (repeat (first | go_big_quiet_step ((first | (go_at_call 12; exact Up.calls (pbeginA_any _)) | (go_at_call 17; (first | with_reducible exact Up.calls (pstepA1_any _) | with_reducible exact Up.calls (pstepA2_any _))) | fail)))); refine wpQuiet_nil ?_; clear X; rintro q u hq hO; (try simp at hq); have lO := laid_le hO; have hO0 := laid_cell hO 0 rfl; have hOf0 := laid_open hO 0; have hOj0 := HasCell.of hO0; have hO1 := laid_cell hO 1 rfl; have hOf1 := laid_open hO 1; have hOj1 := HasCell.of hO1; have hO2 := laid_cell hO 2 rfl; have hOf2 := laid_open hO 2; have hOj2 := HasCell.of hO2; have hO3 := laid_cell hO 3 rfl; have hOf3 := laid_open hO 3; have hOj3 := HasCell.of hO3; have hO4 := laid_cell hO 4 rfl; have hOf4 := laid_open hO 4; have hOj4 := HasCell.of hO4; have hO5 := laid_cell hO 5 rfl; have hOf5 := laid_open hO 5; have hOj5 := HasCell.of hO5; have hO6 := laid_cell hO 6 rfl; have hOf6 := laid_open hO 6; have hOj6 := HasCell.of hO6; have hO7 := laid_cell hO 7 rfl; have hOf7 := laid_open hO 7; have hOj7 := HasCell.of hO7; have hO8 := laid_cell hO 8 rfl; have hOf8 := laid_open hO 8; have hOj8 := HasCell.of hO8; have hO9 := laid_cell hO 9 rfl; have hOf9 := laid_open hO 9; have hOj9 := HasCell.of hO9; have hO10 := laid_cell hO 10 rfl; have hOf10 := laid_open hO 10; have hOj10 := HasCell.of hO10; have hO11 := laid_cell hO 11 rfl; have hOf11 := laid_open hO 11; have hOj11 := HasCell.of hO11; clear hO; go_simp)
  go_wp2_with (first | (go_at_call 17; (first | with_reducible refine (Up.run (pstepA1_any _)).mono ?_ | with_reducible refine (Up.run (pstepA2_any _)).mono ?_); rintro e w' ⟨rfl, u, rfl⟩) | (go_at_call 15; refine (Up.run (pheldA_any _)).mono ?_; rintro e w' ⟨rfl, u, rfl⟩))
  go_ret
  exact ⟨rfl, by (repeat' (first | (with_reducible exact Below.refl _ _) | (with_reducible assumption) | (with_reducible refine Below.setCell ?_ ?_ _) | (with_reducible refine Below.alloc ?_ ?_ _) | (with_reducible refine Below.drew ?_) | (with_reducible refine Up.base _ ?_ ?_) | (with_reducible exact LeSize.out) | exact LeSize.out | exact Nat.le_add_right_of_le LeSize.out | exact Nat.le_add_right_of_le (Nat.le_add_right_of_le LeSize.out) | (with_reducible exact Nat.le_refl _) | (simp; done) | (simp; omega)))⟩

/-! ### Cues -/
theorem Up.runE {P : Program} {f : FuncId} {args : Array Value} {W : World} {p : Value → Prop}
    (h : Calls P f args W fun e w' => ∃ v, e = .returned v ∧ p v ∧ Below W.heap.size W w') : Calls P f args W fun e w' => ∃ v, e = .returned v ∧ p v ∧ ∃ u : Up W, w' = u.w :=
  h.mono fun _ w' ⟨v, he, hp, hb⟩ => ⟨v, he, hp, ⟨w', hb⟩, rfl⟩
attribute [local go_sem] IsBlk.cell IsBlk.frozen
def bitX (x : Int) (i : Nat) : Bool := bits .and .i64 (x / 2 ^ i) 1 == 1
def cuX (x : Int) : Cu := ⟨x / 1024 % 4 == 0, x / 4096 % 16 == 0, bitX x 0, bitX x 1, bitX x 2 || bitX x 3, bitX x 4, bitX x 5 && bitX x 6, x / 128 % 8 == 0⟩
/-- The cue of a number. -/
def cuM (v : Int) : Cu := cuX (v % 1099511627776)
set_option maxHeartbeats 8000000 in
set_option maxRecDepth 100000 in
theorem cue_any (v : Int) (w : World) :
    Calls Try.prog 14 #[.int .i64 v] w fun e w' => e = .returned (CuA (cuM v)) ∧ Below w.heap.size w w' := by
  have hb := Int.emod_nonneg v (show (1099511627776 : Int) ≠ 0 by omega)
  have hb2 := Int.emod_lt_of_pos v (show (0 : Int) < 1099511627776 by omega)
  unfold cuM
  obtain ⟨R, hR⟩ : ∃ R, CuA (cuX (v % 1099511627776)) = R := ⟨_, rfl⟩
  rw [hR]
  have HR := Lib.hid hR
  clear hR
  go_enter Try.func14, Try.ntmps14
  go_wp2_with (first | (go_at_call 10; refine (place_big _ _ _ (by omega) (by omega)).mono ?_; rintro e w' ⟨rfl, rfl⟩))
  generalize v % 1099511627776 = x at *
  go_loopw [5] (fun i wr => ∃ k : Nat, k ≤ 6 ∧ i = .int .i64 k ∧ wr = (w.alloc (.cells #[.bool false, .bool false, .bool false, .bool false, .bool false, .bool false, .bool false, .bool false] 44)).alloc (.cells #[.bool (decide (0 < k) && bitX x 0), .bool (decide (1 < k) && bitX x 1), .bool (decide (2 < k) && bitX x 2), .bool (decide (3 < k) && bitX x 3), .bool (decide (4 < k) && bitX x 4), .bool (decide (5 < k) && bitX x 5)] 71)) (fun i _ => 6 - (intOf i).toNat)
  case atStart => exact ⟨0, Nat.zero_le _, rfl, rfl⟩
  case round =>
    obtain ⟨k, hk, rfl, rfl⟩ := hrel
    by_cases hlt : k < 6
    · rcases (show k = 0 ∨ k = 1 ∨ k = 2 ∨ k = 3 ∨ k = 4 ∨ k = 5 by omega) with rfl | rfl | rfl | rfl | rfl | rfl
      all_goals
        go_wp2
        go_roundw
        case rel => first | exact ⟨1, by omega, rfl, by simp [bitX]⟩ | exact ⟨2, by omega, rfl, by simp [bitX]⟩ | exact ⟨3, by omega, rfl, by simp [bitX]⟩ | exact ⟨4, by omega, rfl, by simp [bitX]⟩ | exact ⟨5, by omega, rfl, by simp [bitX]⟩ | exact ⟨6, by omega, rfl, by simp [bitX]⟩
        case measure => simp [intOf]
    · obtain rfl : k = 6 := by omega
      simp only [show decide (0 < 6) = true from rfl, show decide (1 < 6) = true from rfl, show decide (2 < 6) = true from rfl, show decide (3 < 6) = true from rfl, show decide (4 < 6) = true from rfl, show decide (5 < 6) = true from rfl, Bool.true_and]
      have HX : Hid (CuA ⟨x / 1024 % 4 == 0, x / 4096 % 16 == 0, bitX x 0, bitX x 1, bitX x 2 || bitX x 3, bitX x 4, bitX x 5 && bitX x 6, x / 128 % 8 == 0⟩ = R) := Lib.hid HR.out
      generalize h2 : bitX x 2 = b2 at *
      generalize h5 : bitX x 5 = b5 at *
      clear h2 h5 HR
      cases b2 <;> cases b5
      all_goals
        go_wp2
        go_returns
        exact ⟨by rw [← HX.out]; simp [CuA, bitX], by (repeat' (first | (with_reducible exact Below.refl _ _) | (with_reducible assumption) | (with_reducible refine Below.setCell ?_ ?_ _) | (with_reducible refine Below.alloc ?_ ?_ _) | (with_reducible refine Below.drew ?_) | (with_reducible refine Up.base _ ?_ ?_) | (with_reducible exact LeSize.out) | exact LeSize.out | exact Nat.le_add_right_of_le LeSize.out | exact Nat.le_add_right_of_le (Nat.le_add_right_of_le LeSize.out) | (with_reducible exact Nat.le_refl _) | (simp; done) | (simp; omega)))⟩
end Go.Proofs.Ytmapdkhcfejkaaa
