/- The law DiagRows: the walk, and the given statement. -/
import Derived.Test.YtiieckcghjhdeaaDiaA
namespace Go.Proofs.Ytiieckcghjhdeaa
open Go.ChangeShapes Go.WideShapes Go.ChangeAt Go.RowKit
set_option linter.unusedVariables false

/-- The watch of DiagRows in memory. -/
def RowsSt (w wr : World) (on off : Int) : Prop :=
  Below w.heap.size w wr ∧ LeSize (w.heap.size + 1) wr ∧ wr.frozen? ⟨w.heap.size, 0, none⟩ = false ∧ wr.frozen? ⟨w.heap.size, 1, none⟩ = false ∧ (wr.cell? ⟨w.heap.size, 0, none⟩ = some (.int .i64 on) ∧ wr.cell? ⟨w.heap.size, 1, none⟩ = some (.int .i64 off))
/-- How the watch and the count stand after k ticks. -/
def RowsRel (zs : List Bool) (k c : Nat) (on off : Int) : Prop :=
  c ≤ k ∧ (k = 0 → c = 0 ∧ on = 0 ∧ off = 0) ∧ (∀ j, k = j + 1 → 1 ≤ c ∧ (zs.getD j false = true → on = c ∧ off = 0) ∧ (zs.getD j false = false → on = 0 ∧ off = c))
theorem moreM_nat {c : Nat} (h : c ≤ 9999) : moreM c = c + 1 := by unfold moreM; omega
theorem rowsRel_same {zs : List Bool} {k c : Nat} {b : Bool} (hk : c ≤ k) (hb : zs.getD k false = b) (on off : Int) (h1 : b = true → on = (c : Int) + 1 ∧ off = 0) (h2 : b = false → on = 0 ∧ off = (c : Int) + 1) :
    RowsRel zs (k + 1) (c + 1) on off := by
  refine ⟨by omega, by omega, fun j hj => ⟨by omega, fun h => ?_, fun h => ?_⟩⟩
  · have : j = k := by omega
    subst this
    have := h1 (by rw [← hb, h])
    omega
  · have : j = k := by omega
    subst this
    have := h2 (by rw [← hb, h])
    omega

set_option maxHeartbeats 4000000 in
set_option maxRecDepth 100000 in
theorem diagRows_walk (a : Option Addr) (cap : Nat) (zs : List Bool) (x y : Int) (w : World) (hl : zs.length ≤ cap ∧ cap ≤ 9223372036854775807) (hh : Hdr w a cap) (hi : Bools w a zs) (_ : InKind .i64 x) (_ : InKind .i64 y) :
    Calls Try.prog 4 #[.slice a zs.length cap, .int .i64 x, .int .i64 y] w fun e w' => e = .returned (.bool true) ∧ Below w.heap.size w w' := by
  have HI := Lib.hid hi
  clear hi hh
  by_cases h200 : (200 : Int) < zs.length
  · go_enter Try.func4, Try.ntmps4
    go_wp2_with (go_at_call 11; refine (Up.run (awake_any _)).mono ?_; rintro e w' ⟨rfl, u, rfl⟩)
    go_ret
    exact ⟨rfl, by (repeat' (first | (with_reducible exact Below.refl _ _) | (with_reducible assumption) | (with_reducible refine Below.setCell ?_ ?_ _) | (with_reducible refine Below.alloc ?_ ?_ _) | (with_reducible refine Below.drew ?_) | (with_reducible refine Up.base _ ?_ ?_) | (with_reducible exact LeSize.out) | exact LeSize.out | exact Nat.le_add_right_of_le LeSize.out | exact Nat.le_add_right_of_le (Nat.le_add_right_of_le LeSize.out) | (with_reducible exact Nat.le_refl _) | (simp; done) | (simp; omega)))⟩
  go_enter Try.func4, Try.ntmps4
  go_wp2_with (go_at_call 12; refine (place_any _ _ _ (by omega) (by omega)).mono ?_; rintro e w' ⟨rfl, rfl⟩)
  have hA0 : 0 ≤ x % 9 := Int.emod_nonneg _ (by decide)
  have hA1 : x % 9 < 9 := Int.emod_lt_of_pos _ (by decide)
  have hB0 : 0 ≤ y % 9 := Int.emod_nonneg _ (by decide)
  have hB1 : y % 9 < 9 := Int.emod_lt_of_pos _ (by decide)
  generalize x % 9 = A at *
  generalize y % 9 = B at *
  go_loopw [10, 11] (fun n i wr => ∃ (k c : Nat) (on off : Int), k ≤ zs.length ∧ i = .int .i64 k ∧ n = .int .i64 c ∧ RowsRel zs k c on off ∧ RowsSt w wr on off) (fun _ i _ => zs.length - (intOf i).toNat)
  case atStart =>
    refine ⟨0, 0, 0, 0, Nat.zero_le _, rfl, rfl, ⟨Nat.le_refl _, fun _ => ⟨rfl, rfl, rfl⟩, fun j hj => by omega⟩, ?_⟩
    unfold RowsSt
    refine ⟨by (repeat' (first | (with_reducible exact Below.refl _ _) | (with_reducible assumption) | (with_reducible refine Below.setCell ?_ ?_ _) | (with_reducible refine Below.alloc ?_ ?_ _) | (with_reducible refine Below.drew ?_) | (with_reducible refine Up.base _ ?_ ?_) | (with_reducible exact LeSize.out) | exact LeSize.out | exact Nat.le_add_right_of_le LeSize.out | exact Nat.le_add_right_of_le (Nat.le_add_right_of_le LeSize.out) | (with_reducible exact Nat.le_refl _) | (simp; done) | (simp; omega))), inferInstance, ?_⟩
    simp [go_sem]
  case round =>
    obtain ⟨k, c, on, off, hk, rfl, rfl, ⟨hck, hr0, hr1⟩, hst⟩ := hrel
    obtain ⟨hb, i1, f1, f2, ⟨d0, d1⟩⟩ := hst
    have i0 : LeSize w.heap.size wr := ⟨hb.size⟩
    by_cases hlt : k < zs.length
    · obtain ⟨b, of, rfl, hbs, hc⟩ := HI.out.cell (by omega)
      have hcell : wr.cell? ⟨b, of + k, none⟩ = some (.bool (zs.getD k false)) := by rw [hb.cell (p := ⟨b, of + k, none⟩) (by simpa using hbs)]; exact hc k hlt
      have hprev : ∀ j, j < zs.length → wr.cell? ⟨b, of + j, none⟩ = some (.bool (zs.getD j false)) := fun j hj => by rw [hb.cell (p := ⟨b, of + j, none⟩) (by simpa using hbs)]; exact hc j hj
      have ib : LeSize (b + 1) wr := ⟨Nat.le_trans hbs hb.size⟩
      have ib1 : LeSize b w := ⟨Nat.le_of_lt hbs⟩
      have ib2 : LeSize (b + 1) w := ⟨hbs⟩
      clear hc
      cases k with
      | zero =>
        obtain ⟨rfl, rfl, rfl⟩ := hr0 rfl
        clear hr0 hr1 hprev
        simp only [Nat.add_zero] at hcell
        cases hz : zs.getD 0 false
        · rw [hz] at hcell
          have HZ := Lib.hid hz
          clear hz
          have m1 : wOn 0 false = 0 := rfl
          have m2 : wOff 0 false = 1 := by decide
          by_cases h0 : 0 < B
          all_goals by_cases h1 : B ≤ 1
          all_goals (try (exfalso; omega))
          all_goals
            have ms : stuckM A B (0) (1) = (decide (0 < B) && decide (B ≤ 1)) := by unfold stuckM; rw [Bool.eq_iff_iff]; simp; omega
            simp only [h0, h1, decide_true, decide_false, Bool.and_true, Bool.and_false, Bool.true_and] at ms
            go_wp2
            (refine wp_region_up_tail 6 (by kernel_rfl) (by kernel_rfl) ?_; simp only [List.take_succ_cons, List.take_zero, List.drop_succ_cons, List.drop_zero]; (repeat (go_big_quiet_step ((first | (go_at_call 7; exact Up.calls (step_any _ _ _ _)) | fail)))); refine wpQuiet_nil ?_; rintro _ ⟨u, rfl⟩)
            go_wp2
            (refine wp_region_up (by kernel_rfl) (by kernel_rfl) ?_; (repeat (go_big_quiet_step ((first | fail)))); refine wpQuiet_nil ?_; rintro _ ⟨u, rfl⟩)
            go_wp2_with (go_at_call 9; refine (Up.run (stuck_any _ _ _ _ _)).mono ?_; rintro e w' ⟨rfl, u, rfl⟩)
            go_roundw
            case rel =>
              refine ⟨_, _, 0, 1, by omega, (by first | go_num | rfl | simp), (by first | go_num | rfl | simp), rowsRel_same (c := 0) (by omega) HZ.out _ _ (by intro h; first | (cases h; done) | simp) (by intro h; first | (cases h; done) | simp), ?_⟩
              · unfold RowsSt
                refine ⟨by (repeat' (first | (with_reducible exact Below.refl _ _) | (with_reducible assumption) | (with_reducible refine Below.setCell ?_ ?_ _) | (with_reducible refine Below.alloc ?_ ?_ _) | (with_reducible refine Below.drew ?_) | (with_reducible refine Up.base _ ?_ ?_) | (with_reducible exact LeSize.out) | exact LeSize.out | exact Nat.le_add_right_of_le LeSize.out | exact Nat.le_add_right_of_le (Nat.le_add_right_of_le LeSize.out) | (with_reducible exact Nat.le_refl _) | (simp; done) | (simp; omega))), inferInstance, ?_⟩
                simp [go_sem, d0, d1, f1, f2]
            case measure => simp [intOf]; omega
        · rw [hz] at hcell
          have HZ := Lib.hid hz
          clear hz
          have m1 : wOn 0 true = 1 := by decide
          have m2 : wOff 0 true = 0 := rfl
          by_cases h0 : 0 < A
          all_goals by_cases h1 : A ≤ 1
          all_goals (try (exfalso; omega))
          all_goals
            have ms : stuckM A B (1) (0) = (decide (0 < A) && decide (A ≤ 1)) := by unfold stuckM; rw [Bool.eq_iff_iff]; simp; omega
            simp only [h0, h1, decide_true, decide_false, Bool.and_true, Bool.and_false, Bool.true_and] at ms
            go_wp2
            (refine wp_region_up_tail 6 (by kernel_rfl) (by kernel_rfl) ?_; simp only [List.take_succ_cons, List.take_zero, List.drop_succ_cons, List.drop_zero]; (repeat (go_big_quiet_step ((first | (go_at_call 7; exact Up.calls (step_any _ _ _ _)) | fail)))); refine wpQuiet_nil ?_; rintro _ ⟨u, rfl⟩)
            go_wp2
            (refine wp_region_up (by kernel_rfl) (by kernel_rfl) ?_; (repeat (go_big_quiet_step ((first | fail)))); refine wpQuiet_nil ?_; rintro _ ⟨u, rfl⟩)
            go_wp2_with (go_at_call 9; refine (Up.run (stuck_any _ _ _ _ _)).mono ?_; rintro e w' ⟨rfl, u, rfl⟩)
            go_roundw
            case rel =>
              refine ⟨_, _, 1, 0, by omega, (by first | go_num | rfl | simp), (by first | go_num | rfl | simp), rowsRel_same (c := 0) (by omega) HZ.out _ _ (by intro h; first | (cases h; done) | simp) (by intro h; first | (cases h; done) | simp), ?_⟩
              · unfold RowsSt
                refine ⟨by (repeat' (first | (with_reducible exact Below.refl _ _) | (with_reducible assumption) | (with_reducible refine Below.setCell ?_ ?_ _) | (with_reducible refine Below.alloc ?_ ?_ _) | (with_reducible refine Below.drew ?_) | (with_reducible refine Up.base _ ?_ ?_) | (with_reducible exact LeSize.out) | exact LeSize.out | exact Nat.le_add_right_of_le LeSize.out | exact Nat.le_add_right_of_le (Nat.le_add_right_of_le LeSize.out) | (with_reducible exact Nat.le_refl _) | (simp; done) | (simp; omega))), inferInstance, ?_⟩
                simp [go_sem, d0, d1, f1, f2]
            case measure => simp [intOf]; omega
      | succ j =>
        obtain ⟨hc1, hr2, hr3⟩ := hr1 j rfl
        have hp := hprev j (by omega)
        clear hr0 hr1 hprev
        cases hzp : zs.getD j false
        · obtain ⟨rfl, rfl⟩ := hr3 hzp
          clear hr2 hr3
          rw [hzp] at hp
          clear hzp
          cases hz : zs.getD (j + 1) false
          · rw [hz] at hcell
            have HZ := Lib.hid hz
            clear hz
            have m1 : wOn 0 false = 0 := rfl
            have m2 : wOff c false = (c : Int) + 1 := moreM_nat (by omega)
            by_cases h0 : 0 < B
            all_goals by_cases h1 : B ≤ (c : Int) + 1
            all_goals (try (exfalso; omega))
            all_goals
              have ms : stuckM A B (0) ((c : Int) + 1) = (decide (0 < B) && decide (B ≤ (c : Int) + 1)) := by unfold stuckM; rw [Bool.eq_iff_iff]; simp; omega
              simp only [h0, h1, decide_true, decide_false, Bool.and_true, Bool.and_false, Bool.true_and] at ms
              go_wp2
              (refine wp_region_up_tail 6 (by kernel_rfl) (by kernel_rfl) ?_; simp only [List.take_succ_cons, List.take_zero, List.drop_succ_cons, List.drop_zero]; (repeat (go_big_quiet_step ((first | (go_at_call 7; exact Up.calls (step_any _ _ _ _)) | fail)))); refine wpQuiet_nil ?_; rintro _ ⟨u, rfl⟩)
              go_wp2
              (refine wp_region_up (by kernel_rfl) (by kernel_rfl) ?_; (repeat (go_big_quiet_step ((first | fail)))); refine wpQuiet_nil ?_; rintro _ ⟨u, rfl⟩)
              go_wp2_with (go_at_call 9; refine (Up.run (stuck_any _ _ _ _ _)).mono ?_; rintro e w' ⟨rfl, u, rfl⟩)
              go_roundw
              case rel =>
                refine ⟨_, _, 0, (c : Int) + 1, by omega, (by first | go_num | rfl | simp), (by first | go_num | rfl | simp), rowsRel_same (c := c) (by omega) HZ.out _ _ (by intro h; first | (cases h; done) | simp) (by intro h; first | (cases h; done) | simp), ?_⟩
                · unfold RowsSt
                  refine ⟨by (repeat' (first | (with_reducible exact Below.refl _ _) | (with_reducible assumption) | (with_reducible refine Below.setCell ?_ ?_ _) | (with_reducible refine Below.alloc ?_ ?_ _) | (with_reducible refine Below.drew ?_) | (with_reducible refine Up.base _ ?_ ?_) | (with_reducible exact LeSize.out) | exact LeSize.out | exact Nat.le_add_right_of_le LeSize.out | exact Nat.le_add_right_of_le (Nat.le_add_right_of_le LeSize.out) | (with_reducible exact Nat.le_refl _) | (simp; done) | (simp; omega))), inferInstance, ?_⟩
                  simp [go_sem, d0, d1, f1, f2]
              case measure => simp [intOf]; omega
          · rw [hz] at hcell
            have HZ := Lib.hid hz
            clear hz
            have m1 : wOn 0 true = 1 := by decide
            have m2 : wOff c true = 0 := rfl
            by_cases h0 : 0 < A
            all_goals by_cases h1 : A ≤ 1
            all_goals (try (exfalso; omega))
            all_goals
              have ms : stuckM A B (1) (0) = (decide (0 < A) && decide (A ≤ 1)) := by unfold stuckM; rw [Bool.eq_iff_iff]; simp; omega
              simp only [h0, h1, decide_true, decide_false, Bool.and_true, Bool.and_false, Bool.true_and] at ms
              go_wp2
              (refine wp_region_up_tail 6 (by kernel_rfl) (by kernel_rfl) ?_; simp only [List.take_succ_cons, List.take_zero, List.drop_succ_cons, List.drop_zero]; (repeat (go_big_quiet_step ((first | (go_at_call 7; exact Up.calls (step_any _ _ _ _)) | fail)))); refine wpQuiet_nil ?_; rintro _ ⟨u, rfl⟩)
              go_wp2
              (refine wp_region_up (by kernel_rfl) (by kernel_rfl) ?_; (repeat (go_big_quiet_step ((first | fail)))); refine wpQuiet_nil ?_; rintro _ ⟨u, rfl⟩)
              go_wp2_with (go_at_call 9; refine (Up.run (stuck_any _ _ _ _ _)).mono ?_; rintro e w' ⟨rfl, u, rfl⟩)
              go_roundw
              case rel =>
                refine ⟨_, _, 1, 0, by omega, (by first | go_num | rfl | simp), (by first | go_num | rfl | simp), rowsRel_same (c := 0) (by omega) HZ.out _ _ (by intro h; first | (cases h; done) | simp) (by intro h; first | (cases h; done) | simp), ?_⟩
                · unfold RowsSt
                  refine ⟨by (repeat' (first | (with_reducible exact Below.refl _ _) | (with_reducible assumption) | (with_reducible refine Below.setCell ?_ ?_ _) | (with_reducible refine Below.alloc ?_ ?_ _) | (with_reducible refine Below.drew ?_) | (with_reducible refine Up.base _ ?_ ?_) | (with_reducible exact LeSize.out) | exact LeSize.out | exact Nat.le_add_right_of_le LeSize.out | exact Nat.le_add_right_of_le (Nat.le_add_right_of_le LeSize.out) | (with_reducible exact Nat.le_refl _) | (simp; done) | (simp; omega))), inferInstance, ?_⟩
                  simp [go_sem, d0, d1, f1, f2]
              case measure => simp [intOf]; omega
        · obtain ⟨rfl, rfl⟩ := hr2 hzp
          clear hr2 hr3
          rw [hzp] at hp
          clear hzp
          cases hz : zs.getD (j + 1) false
          · rw [hz] at hcell
            have HZ := Lib.hid hz
            clear hz
            have m1 : wOn c false = 0 := rfl
            have m2 : wOff 0 false = 1 := by decide
            by_cases h0 : 0 < B
            all_goals by_cases h1 : B ≤ 1
            all_goals (try (exfalso; omega))
            all_goals
              have ms : stuckM A B (0) (1) = (decide (0 < B) && decide (B ≤ 1)) := by unfold stuckM; rw [Bool.eq_iff_iff]; simp; omega
              simp only [h0, h1, decide_true, decide_false, Bool.and_true, Bool.and_false, Bool.true_and] at ms
              go_wp2
              (refine wp_region_up_tail 6 (by kernel_rfl) (by kernel_rfl) ?_; simp only [List.take_succ_cons, List.take_zero, List.drop_succ_cons, List.drop_zero]; (repeat (go_big_quiet_step ((first | (go_at_call 7; exact Up.calls (step_any _ _ _ _)) | fail)))); refine wpQuiet_nil ?_; rintro _ ⟨u, rfl⟩)
              go_wp2
              (refine wp_region_up (by kernel_rfl) (by kernel_rfl) ?_; (repeat (go_big_quiet_step ((first | fail)))); refine wpQuiet_nil ?_; rintro _ ⟨u, rfl⟩)
              go_wp2_with (go_at_call 9; refine (Up.run (stuck_any _ _ _ _ _)).mono ?_; rintro e w' ⟨rfl, u, rfl⟩)
              go_roundw
              case rel =>
                refine ⟨_, _, 0, 1, by omega, (by first | go_num | rfl | simp), (by first | go_num | rfl | simp), rowsRel_same (c := 0) (by omega) HZ.out _ _ (by intro h; first | (cases h; done) | simp) (by intro h; first | (cases h; done) | simp), ?_⟩
                · unfold RowsSt
                  refine ⟨by (repeat' (first | (with_reducible exact Below.refl _ _) | (with_reducible assumption) | (with_reducible refine Below.setCell ?_ ?_ _) | (with_reducible refine Below.alloc ?_ ?_ _) | (with_reducible refine Below.drew ?_) | (with_reducible refine Up.base _ ?_ ?_) | (with_reducible exact LeSize.out) | exact LeSize.out | exact Nat.le_add_right_of_le LeSize.out | exact Nat.le_add_right_of_le (Nat.le_add_right_of_le LeSize.out) | (with_reducible exact Nat.le_refl _) | (simp; done) | (simp; omega))), inferInstance, ?_⟩
                  simp [go_sem, d0, d1, f1, f2]
              case measure => simp [intOf]; omega
          · rw [hz] at hcell
            have HZ := Lib.hid hz
            clear hz
            have m1 : wOn c true = (c : Int) + 1 := moreM_nat (by omega)
            have m2 : wOff 0 true = 0 := rfl
            by_cases h0 : 0 < A
            all_goals by_cases h1 : A ≤ (c : Int) + 1
            all_goals (try (exfalso; omega))
            all_goals
              have ms : stuckM A B ((c : Int) + 1) (0) = (decide (0 < A) && decide (A ≤ (c : Int) + 1)) := by unfold stuckM; rw [Bool.eq_iff_iff]; simp; omega
              simp only [h0, h1, decide_true, decide_false, Bool.and_true, Bool.and_false, Bool.true_and] at ms
              go_wp2
              (refine wp_region_up_tail 6 (by kernel_rfl) (by kernel_rfl) ?_; simp only [List.take_succ_cons, List.take_zero, List.drop_succ_cons, List.drop_zero]; (repeat (go_big_quiet_step ((first | (go_at_call 7; exact Up.calls (step_any _ _ _ _)) | fail)))); refine wpQuiet_nil ?_; rintro _ ⟨u, rfl⟩)
              go_wp2
              (refine wp_region_up (by kernel_rfl) (by kernel_rfl) ?_; (repeat (go_big_quiet_step ((first | fail)))); refine wpQuiet_nil ?_; rintro _ ⟨u, rfl⟩)
              go_wp2_with (go_at_call 9; refine (Up.run (stuck_any _ _ _ _ _)).mono ?_; rintro e w' ⟨rfl, u, rfl⟩)
              go_roundw
              case rel =>
                refine ⟨_, _, (c : Int) + 1, 0, by omega, (by first | go_num | rfl | simp), (by first | go_num | rfl | simp), rowsRel_same (c := c) (by omega) HZ.out _ _ (by intro h; first | (cases h; done) | simp) (by intro h; first | (cases h; done) | simp), ?_⟩
                · unfold RowsSt
                  refine ⟨by (repeat' (first | (with_reducible exact Below.refl _ _) | (with_reducible assumption) | (with_reducible refine Below.setCell ?_ ?_ _) | (with_reducible refine Below.alloc ?_ ?_ _) | (with_reducible refine Below.drew ?_) | (with_reducible refine Up.base _ ?_ ?_) | (with_reducible exact LeSize.out) | exact LeSize.out | exact Nat.le_add_right_of_le LeSize.out | exact Nat.le_add_right_of_le (Nat.le_add_right_of_le LeSize.out) | (with_reducible exact Nat.le_refl _) | (simp; done) | (simp; omega))), inferInstance, ?_⟩
                  simp [go_sem, d0, d1, f1, f2]
              case measure => simp [intOf]; omega
    · go_wp2_with (go_at_call 11; refine (Up.run (awake_any _)).mono ?_; rintro e w' ⟨rfl, u, rfl⟩)
      go_ret
      exact ⟨rfl, by (repeat' (first | (with_reducible exact Below.refl _ _) | (with_reducible assumption) | (with_reducible refine Below.setCell ?_ ?_ _) | (with_reducible refine Below.alloc ?_ ?_ _) | (with_reducible refine Below.drew ?_) | (with_reducible refine Up.base _ ?_ ?_) | (with_reducible exact LeSize.out) | exact LeSize.out | exact Nat.le_add_right_of_le LeSize.out | exact Nat.le_add_right_of_le (Nat.le_add_right_of_le LeSize.out) | (with_reducible exact Nat.le_refl _) | (simp; done) | (simp; omega)))⟩

set_option maxRecDepth 100000 in
theorem DiagRows_lifted (os : Os) (started : os.Started) (H : Type) (enc : TypeId × Value → H) :
    ReturnsInHanded {} Try.checked os 4 .any (Rows.diagRowsSpec.pre6 enc Try.prog Try.f4 Rows.diagRowsRow.domain false) (Rows.diagRowsSpec.post enc Try.prog Try.f4 false true false false) := by
  refine returnsInHanded_of_change (C := Try.checked) own started (by kernel_rfl) Try.func4
    (ChangeSpec.witness6 (enc := enc) (C := Try.checked) false ⟨#[], #[.slice none 0 0, .int .i64 0, .int .i64 0], []⟩ 8 (by kernel_rfl) (by kernel_rfl) (by kernel_rfl) (by kernel_rfl)) ?_
  intro W base args ds gs before hval0 hW hcnd _
  have hval : ∀ (j : Nat) t v, Try.f4.params[j]? = some t → args[j]? = some v → Value.okWide Try.prog W .any base t v := hval0
  have hW' := hW
  obtain ⟨p, q, hA0, hV, rfl, hfz, hnd⟩ := hW
  have hA : DataW.TrodAll enc Try.prog W 0 (fun _ => true) true Try.f4.params.toList args.toList ds p := hA0
  rw [Try.params4] at hA hval
  obtain ⟨v0, vs0, d0, ds0, p0, q0, hargs, rfl, rfl, h0, r0⟩ := trodAll_cons hA
  obtain ⟨v1, vs1, d1, ds1, p1, q1, rfl, rfl, rfl, h1, r1⟩ := trodAll_cons r0
  obtain ⟨v2, vs2, d2, ds2, p2, q2, rfl, rfl, rfl, h2, r2⟩ := trodAll_cons r1
  obtain ⟨rfl, rfl, rfl⟩ := trodAll_nil r2
  obtain rfl : args = #[v0, v1, v2] := by cases args; simp_all
  obtain ⟨rfl, rfl⟩ := trodVars_none hV
  have k0 := h0
  have lt0 : ∀ x ∈ p0, x.block < W.heap.size := by obtain ⟨m, hm⟩ := k0; exact DataW.trod_lt m _ _ _ hm
  have k1 := h1
  have lt1 : ∀ x ∈ p1, x.block < W.heap.size := by obtain ⟨m, hm⟩ := k1; exact DataW.trod_lt m _ _ _ hm
  have k2 := h2
  have lt2 : ∀ x ∈ p2, x.block < W.heap.size := by obtain ⟨m, hm⟩ := k2; exact DataW.trod_lt m _ _ _ hm
  obtain ⟨a0, cap0, z0, rfl, hl0, hm0, hh0, hr0⟩ := open_bools1 Try.underlying28 Try.underlying4 (by kernel_rfl) (hval 0 28 v0 rfl rfl) k0
  obtain ⟨a1, rfl, w1⟩ := open_int1 Try.underlying3 (hval 1 3 v1 rfl rfl)
  obtain ⟨a2, rfl, w2⟩ := open_int1 Try.underlying3 (hval 2 3 v2 rfl rfl)
  clear hA0 hval0
  refine (diagRows_walk a0 cap0 z0 a1 a2 W ⟨hl0, hm0⟩ hh0 hr0 w1 w2).mono fun e W' ⟨he, bel⟩ => ?_
  subst he
  exact ⟨_, rfl, _, _, _, [], _, [], hW', trodAll_mk1 (shut_bool Try.underlying4 _), (trodAll_cons_mk (Below.trod laidOut (by kernel_rfl) (of_decide_eq_true (by kernel_rfl)) k0 bel lt0) (trodAll_cons_mk (Below.trod laidOut (by kernel_rfl) (of_decide_eq_true (by kernel_rfl)) k1 bel lt1) (trodAll_cons_mk (Below.trod laidOut (by kernel_rfl) (of_decide_eq_true (by kernel_rfl)) k2 bel lt2) trodAll_mk0))), rfl, bel.frame _, fun h => by cases h⟩

theorem DiagRows_over : Rows.diagRowsRow.holds Try.pinned (OpenSpec.ofChange Rows.diagRowsSpec) :=
  OpenClaim.holds_of_wide 4 Try.f4 rfl rfl rfl rfl rfl rfl rfl ⟨rfl, rfl, rfl, rfl, rfl⟩ rfl rfl rfl rfl rfl (by kernel_rfl) Try.func4 (by kernel_rfl)
    (of_decide_eq_true (by kernel_rfl)) (by unfold Func.isWrapper; first | (rw [if_pos (by decide +kernel)]; kernel_rfl) | (rw [if_neg (by decide +kernel)]; exact ⟨rfl, rfl⟩))
    (fun os started H enc _ => DiagRows_lifted os started H enc)

/-- The given statement. -/
theorem DiagRows_holds : Rows.DiagRowsSaid := DiagRows_over
#print axioms DiagRows_holds
end Go.Proofs.Ytiieckcghjhdeaa
