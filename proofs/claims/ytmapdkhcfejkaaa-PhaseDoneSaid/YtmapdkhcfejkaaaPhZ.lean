/- The contracts of the reference's Step, Kept and Begin. -/
import Derived.Test.YtmapdkhcfejkaaaPhY
namespace Go.Proofs.Ytmapdkhcfejkaaa
open Go.RowKit
set_option linter.unusedVariables false

theorem rgr_eq (p : Phs) (r : Rn) (k : Cu) (h : r.c = 1) : rgrR p r k = dueR p (goR p r k) k (dueM p (goR p r k) k) := by
  have e : gorR p r k = goR p r k := by unfold gorR goR; rw [h]
  unfold rgrR
  rw [e]
  have e2 : (goR p r k).e = r.e := rfl
  generalize dueM p (goR p r k) k = due
  unfold rdueR dueR
  cases due <;> cases k.ho <;> simp [e2] <;> rw [← e2]
set_option maxHeartbeats 4000000 in
set_option maxRecDepth 100000 in
theorem rstep_any (p : Phs) (r : Rn) (k : Cu) (w : World) (h1 : 0 ≤ p.max ∧ p.max ≤ 9999) (h2 : 0 ≤ p.top ∧ p.top ≤ 9999) (h3 : 0 ≤ p.step ∧ p.step ≤ 9999) :
    Calls Try.prog 18 #[PhA p, .agg (RnA r), CuA k] w
      fun e w' => e = .returned (.agg #[.int .i64 (stepM p r k).c, .int .i64 (stepM p r k).t, .int .i64 (stepM p r k).fs, .int .i64 (stepM p r k).ft, .int .i64 (stepM p r k).l, .int .i64 (stepM p r k).p, .int .i64 (stepM p r k).e, .bool (stepM p r k).d, .bool (stepM p r k).m, .int .i64 (stepM p r k).tl, .int .i64 (stepM p r k).tu, .int .i64 (stepM p r k).td]) ∧ Below w.heap.size w w' := by
  by_cases c1 : r.c = 1
  · rw [show stepM p r k = grnR p r k by simp [stepM, c1]]
    cases hen : k.en
    · rw [show grnR p r k = rgrR p r k by rw [rgr_eq p r k c1]; simp [grnR, hen]]
      have HG : ∀ w, Calls Try.prog 32 #[PhA p, .agg (RnA r), CuA k] w fun e w' => e = .returned (.tuple #[.agg #[.int .i64 (rgrR p r k).c, .int .i64 (rgrR p r k).t, .int .i64 (rgrR p r k).fs, .int .i64 (rgrR p r k).ft, .int .i64 (rgrR p r k).l, .int .i64 (rgrR p r k).p, .int .i64 (rgrR p r k).e, .bool (rgrR p r k).d, .bool (rgrR p r k).m, .int .i64 (rgrR p r k).tl, .int .i64 (rgrR p r k).tu, .int .i64 (rgrR p r k).td], .bool (dueM p (goR p r k) k)]) ∧ Below w.heap.size w w' := fun w => rgreen_any p r k w
      generalize rgrR p r k = o at *
      unfold PhA RnA CuA at *
      rw [c1, hen] at HG
      rw [c1]
      have HG := Lib.hid HG
      go_enter Try.func18, Try.ntmps18
      go_wp2_with (go_at_call 32; refine (Up.run (HG.out _)).mono ?_; rintro e w' ⟨rfl, u, rfl⟩)
      go_returns
      exact ⟨rfl, by (repeat' (first | (with_reducible exact Below.refl _ _) | (with_reducible assumption) | (with_reducible refine Below.setCell ?_ ?_ _) | (with_reducible refine Below.alloc ?_ ?_ _) | (with_reducible refine Below.drew ?_) | (with_reducible refine Up.base _ ?_ ?_) | (with_reducible exact LeSize.out) | exact LeSize.out | exact Nat.le_add_right_of_le LeSize.out | exact Nat.le_add_right_of_le (Nat.le_add_right_of_le LeSize.out) | (with_reducible exact Nat.le_refl _) | (simp; done) | (simp; omega)))⟩
    · rw [show grnR p r k = endR p r by simp [grnR, hen]]
      cases hd : r.d
      · rw [show endR p r = asM r 2 1 by simp [endR, hd]]
        unfold PhA RnA CuA
        rw [c1, hen, hd]
        go_enter Try.func18, Try.ntmps18
        go_wp2
        go_returns
        exact ⟨rfl, by (repeat' (first | (with_reducible exact Below.refl _ _) | (with_reducible assumption) | (with_reducible refine Below.setCell ?_ ?_ _) | (with_reducible refine Below.alloc ?_ ?_ _) | (with_reducible refine Below.drew ?_) | (with_reducible refine Up.base _ ?_ ?_) | (with_reducible exact LeSize.out) | exact LeSize.out | exact Nat.le_add_right_of_le LeSize.out | exact Nat.le_add_right_of_le (Nat.le_add_right_of_le LeSize.out) | (with_reducible exact Nat.le_refl _) | (simp; done) | (simp; omega)))⟩
      · rw [show endR p r = ⟨2, 1, 0, 0, 0, 0, 0, false, false, grLim p.max p.top p.step r.tl r.tu r.td r.m, grUp r.tu r.m, grDn r.td r.m⟩ by simp [endR, hd]]
        unfold PhA RnA CuA
        rw [c1, hen, hd]
        go_enter Try.func18, Try.ntmps18
        go_wp2_with (go_at_call 19; refine (Up.run (rgrow_any _ _ _ _ _ _ _ _ _ _ _ _ _ _ _ _ _ _ (by assumption) (by assumption) (by assumption))).mono ?_; rintro e w' ⟨rfl, u, rfl⟩)
        go_returns
        exact ⟨rfl, by (repeat' (first | (with_reducible exact Below.refl _ _) | (with_reducible assumption) | (with_reducible refine Below.setCell ?_ ?_ _) | (with_reducible refine Below.alloc ?_ ?_ _) | (with_reducible refine Below.drew ?_) | (with_reducible refine Up.base _ ?_ ?_) | (with_reducible exact LeSize.out) | exact LeSize.out | exact Nat.le_add_right_of_le LeSize.out | exact Nat.le_add_right_of_le (Nat.le_add_right_of_le LeSize.out) | (with_reducible exact Nat.le_refl _) | (simp; done) | (simp; omega)))⟩
  by_cases c2 : r.c = 2
  · by_cases h : r.t < p.yel
    · rw [show stepM p r k = asM r 2 (moreM r.t) by simp [stepM, c2, yelM, h]]
      unfold PhA RnA CuA
      rw [c2]
      go_enter Try.func18, Try.ntmps18
      go_wp2
      (refine wp_region_up_tail 6 (by kernel_rfl) (by kernel_rfl) ?_; simp only [List.take_succ_cons, List.take_zero, List.drop_succ_cons, List.drop_zero]; (repeat (first | go_big_quiet_step ((first | (go_at_call 37; exact Up.pure (rmore_any _ _)) | fail)))); refine wpQuiet_nil ?_; rintro _ ⟨u, rfl⟩)
      go_wp2
      go_returns
      exact ⟨rfl, by (repeat' (first | (with_reducible exact Below.refl _ _) | (with_reducible assumption) | (with_reducible refine Below.setCell ?_ ?_ _) | (with_reducible refine Below.alloc ?_ ?_ _) | (with_reducible refine Below.drew ?_) | (with_reducible refine Up.base _ ?_ ?_) | (with_reducible exact LeSize.out) | exact LeSize.out | exact Nat.le_add_right_of_le LeSize.out | exact Nat.le_add_right_of_le (Nat.le_add_right_of_le LeSize.out) | (with_reducible exact Nat.le_refl _) | (simp; done) | (simp; omega)))⟩
    · by_cases h0 : 0 < p.red
      · rw [show stepM p r k = asM r 3 1 by simp [stepM, c2, yelM, h, h0]]
        unfold PhA RnA CuA
        rw [c2]
        go_enter Try.func18, Try.ntmps18
        go_wp2
        go_returns
        exact ⟨rfl, by (repeat' (first | (with_reducible exact Below.refl _ _) | (with_reducible assumption) | (with_reducible refine Below.setCell ?_ ?_ _) | (with_reducible refine Below.alloc ?_ ?_ _) | (with_reducible refine Below.drew ?_) | (with_reducible refine Up.base _ ?_ ?_) | (with_reducible exact LeSize.out) | exact LeSize.out | exact Nat.le_add_right_of_le LeSize.out | exact Nat.le_add_right_of_le (Nat.le_add_right_of_le LeSize.out) | (with_reducible exact Nat.le_refl _) | (simp; done) | (simp; omega)))⟩
      · rw [show stepM p r k = asM r 0 1 by simp [stepM, c2, yelM, h, h0]]
        unfold PhA RnA CuA
        rw [c2]
        go_enter Try.func18, Try.ntmps18
        go_wp2
        go_returns
        exact ⟨rfl, by (repeat' (first | (with_reducible exact Below.refl _ _) | (with_reducible assumption) | (with_reducible refine Below.setCell ?_ ?_ _) | (with_reducible refine Below.alloc ?_ ?_ _) | (with_reducible refine Below.drew ?_) | (with_reducible refine Up.base _ ?_ ?_) | (with_reducible exact LeSize.out) | exact LeSize.out | exact Nat.le_add_right_of_le LeSize.out | exact Nat.le_add_right_of_le (Nat.le_add_right_of_le LeSize.out) | (with_reducible exact Nat.le_refl _) | (simp; done) | (simp; omega)))⟩
  by_cases c3 : r.c = 3
  · by_cases h : r.t < p.red
    · rw [show stepM p r k = asM r 3 (moreM r.t) by simp [stepM, c3, clrM, h]]
      unfold PhA RnA CuA
      rw [c3]
      go_enter Try.func18, Try.ntmps18
      go_wp2
      (refine wp_region_up_tail 6 (by kernel_rfl) (by kernel_rfl) ?_; simp only [List.take_succ_cons, List.take_zero, List.drop_succ_cons, List.drop_zero]; (repeat (first | go_big_quiet_step ((first | (go_at_call 37; exact Up.pure (rmore_any _ _)) | fail)))); refine wpQuiet_nil ?_; rintro _ ⟨u, rfl⟩)
      go_wp2
      go_returns
      exact ⟨rfl, by (repeat' (first | (with_reducible exact Below.refl _ _) | (with_reducible assumption) | (with_reducible refine Below.setCell ?_ ?_ _) | (with_reducible refine Below.alloc ?_ ?_ _) | (with_reducible refine Below.drew ?_) | (with_reducible refine Up.base _ ?_ ?_) | (with_reducible exact LeSize.out) | exact LeSize.out | exact Nat.le_add_right_of_le LeSize.out | exact Nat.le_add_right_of_le (Nat.le_add_right_of_le LeSize.out) | (with_reducible exact Nat.le_refl _) | (simp; done) | (simp; omega)))⟩
    · rw [show stepM p r k = asM r 0 1 by simp [stepM, c3, clrM, h]]
      unfold PhA RnA CuA
      rw [c3]
      go_enter Try.func18, Try.ntmps18
      go_wp2
      go_returns
      exact ⟨rfl, by (repeat' (first | (with_reducible exact Below.refl _ _) | (with_reducible assumption) | (with_reducible refine Below.setCell ?_ ?_ _) | (with_reducible refine Below.alloc ?_ ?_ _) | (with_reducible refine Below.drew ?_) | (with_reducible refine Up.base _ ?_ ?_) | (with_reducible exact LeSize.out) | exact LeSize.out | exact Nat.le_add_right_of_le LeSize.out | exact Nat.le_add_right_of_le (Nat.le_add_right_of_le LeSize.out) | (with_reducible exact Nat.le_refl _) | (simp; done) | (simp; omega)))⟩
  have n1 : (r.c == 1) = false := by simp [c1]
  have n2 : (r.c == 2) = false := by simp [c2]
  have n3 : (r.c == 3) = false := by simp [c3]
  cases hst : k.st
  · rw [show stepM p r k = asM r 0 (moreM r.t) by simp [stepM, c1, c2, c3, redM, hst]]
    unfold PhA RnA CuA
    rw [hst]
    clear c1 c2 c3
    go_enter Try.func18, Try.ntmps18
    go_wp2
    (refine wp_region_up_tail 6 (by kernel_rfl) (by kernel_rfl) ?_; simp only [List.take_succ_cons, List.take_zero, List.drop_succ_cons, List.drop_zero]; (repeat (first | go_big_quiet_step ((first | (go_at_call 37; exact Up.pure (rmore_any _ _)) | fail)))); refine wpQuiet_nil ?_; rintro _ ⟨u, rfl⟩)
    go_wp2
    go_returns
    exact ⟨rfl, by (repeat' (first | (with_reducible exact Below.refl _ _) | (with_reducible assumption) | (with_reducible refine Below.setCell ?_ ?_ _) | (with_reducible refine Below.alloc ?_ ?_ _) | (with_reducible refine Below.drew ?_) | (with_reducible refine Up.base _ ?_ ?_) | (with_reducible exact LeSize.out) | exact LeSize.out | exact Nat.le_add_right_of_le LeSize.out | exact Nat.le_add_right_of_le (Nat.le_add_right_of_le LeSize.out) | (with_reducible exact Nat.le_refl _) | (simp; done) | (simp; omega)))⟩
  · rw [show stepM p r k = ⟨1, 1, (ftM p.walk p.blinks 0 0 k.pu).1, (ftM p.walk p.blinks 0 0 k.pu).2, p.gap, 0, 0, false, false, r.tl, r.tu, r.td⟩ by simp [stepM, c1, c2, c3, redM, hst]]
    unfold PhA RnA CuA
    rw [hst]
    clear c1 c2 c3
    go_enter Try.func18, Try.ntmps18
    go_wp2
    (refine wp_region_up_tail 10 (by kernel_rfl) (by kernel_rfl) ?_; simp only [List.take_succ_cons, List.take_zero, List.drop_succ_cons, List.drop_zero]; (repeat (first | go_big_quiet_step ((first | (go_at_call 38; exact Up.calls (rfstep_any _ _ _ _ _ _ _ _ _ _ _ _ _ _ _ _ _)) | fail)))); refine wpQuiet_nil ?_; rintro _ ⟨u, rfl⟩)
    go_wp2
    go_returns
    exact ⟨rfl, by (repeat' (first | (with_reducible exact Below.refl _ _) | (with_reducible assumption) | (with_reducible refine Below.setCell ?_ ?_ _) | (with_reducible refine Below.alloc ?_ ?_ _) | (with_reducible refine Below.drew ?_) | (with_reducible refine Up.base _ ?_ ?_) | (with_reducible exact LeSize.out) | exact LeSize.out | exact Nat.le_add_right_of_le LeSize.out | exact Nat.le_add_right_of_le (Nat.le_add_right_of_le LeSize.out) | (with_reducible exact Nat.le_refl _) | (simp; done) | (simp; omega)))⟩
set_option maxHeartbeats 4000000 in
set_option maxRecDepth 100000 in
theorem rkept_any (p : Phs) (r : Rn) (k : Cu) (w : World) :
    Calls Try.prog 16 #[PhA p, .agg (RnA r), CuA k] w fun e w' => e = .returned (.bool (heldM p r k)) ∧ Below w.heap.size w w' := by
  cases n1 : (r.c == 1)
  · have n1' : (r.c != 1) = true := by simpa using n1
    unfold PhA RnA CuA
    go_enter Try.func16, Try.ntmps16
    go_wp2
    go_ret
    exact ⟨ret_bool (by simp [heldM, n1]), by (repeat' (first | (with_reducible exact Below.refl _ _) | (with_reducible assumption) | (with_reducible refine Below.setCell ?_ ?_ _) | (with_reducible refine Below.alloc ?_ ?_ _) | (with_reducible refine Below.drew ?_) | (with_reducible refine Up.base _ ?_ ?_) | (with_reducible exact LeSize.out) | exact LeSize.out | exact Nat.le_add_right_of_le LeSize.out | exact Nat.le_add_right_of_le (Nat.le_add_right_of_le LeSize.out) | (with_reducible exact Nat.le_refl _) | (simp; done) | (simp; omega)))⟩
  · have c1 : r.c = 1 := by simpa using n1
    cases hen : k.en
    · have HG : ∀ w, Calls Try.prog 32 #[PhA p, .agg (RnA r), CuA k] w fun e w' => e = .returned (.tuple #[.agg #[.int .i64 (rgrR p r k).c, .int .i64 (rgrR p r k).t, .int .i64 (rgrR p r k).fs, .int .i64 (rgrR p r k).ft, .int .i64 (rgrR p r k).l, .int .i64 (rgrR p r k).p, .int .i64 (rgrR p r k).e, .bool (rgrR p r k).d, .bool (rgrR p r k).m, .int .i64 (rgrR p r k).tl, .int .i64 (rgrR p r k).tu, .int .i64 (rgrR p r k).td], .bool (dueM p (goR p r k) k)]) ∧ Below w.heap.size w w' := fun w => rgreen_any p r k w
      have HK := Lib.hid (show heldM p r k = (dueM p (goR p r k) k && k.ho) by simp [heldM, n1, hen]; cases k.ho <;> simp)
      generalize rgrR p r k = o at *
      generalize dueM p (goR p r k) k = due at *
      unfold PhA RnA CuA at *
      rw [c1, hen] at HG
      rw [c1]
      have HG := Lib.hid HG
      cases due
      all_goals
        go_enter Try.func16, Try.ntmps16
        go_wp2_with (go_at_call 32; refine (Up.run (HG.out _)).mono ?_; rintro e w' ⟨rfl, u, rfl⟩)
        go_ret
        exact ⟨by rw [HK.out]; rfl, by (repeat' (first | (with_reducible exact Below.refl _ _) | (with_reducible assumption) | (with_reducible refine Below.setCell ?_ ?_ _) | (with_reducible refine Below.alloc ?_ ?_ _) | (with_reducible refine Below.drew ?_) | (with_reducible refine Up.base _ ?_ ?_) | (with_reducible exact LeSize.out) | exact LeSize.out | exact Nat.le_add_right_of_le LeSize.out | exact Nat.le_add_right_of_le (Nat.le_add_right_of_le LeSize.out) | (with_reducible exact Nat.le_refl _) | (simp; done) | (simp; omega)))⟩
    · unfold PhA RnA CuA
      rw [c1, hen]
      go_enter Try.func16, Try.ntmps16
      go_wp2
      go_ret
      exact ⟨ret_bool (by simp [heldM, hen]), by (repeat' (first | (with_reducible exact Below.refl _ _) | (with_reducible assumption) | (with_reducible refine Below.setCell ?_ ?_ _) | (with_reducible refine Below.alloc ?_ ?_ _) | (with_reducible refine Below.drew ?_) | (with_reducible refine Up.base _ ?_ ?_) | (with_reducible exact LeSize.out) | exact LeSize.out | exact Nat.le_add_right_of_le LeSize.out | exact Nat.le_add_right_of_le (Nat.le_add_right_of_le LeSize.out) | (with_reducible exact Nat.le_refl _) | (simp; done) | (simp; omega)))⟩
set_option maxHeartbeats 4000000 in
theorem rbegin_any (p : Phs) (w : World) :
    Calls Try.prog 13 #[PhA p] w fun e w' => e = .returned (.agg #[.int .i64 (beginM p).c, .int .i64 (beginM p).t, .int .i64 (beginM p).fs, .int .i64 (beginM p).ft, .int .i64 (beginM p).l, .int .i64 (beginM p).p, .int .i64 (beginM p).e, .bool (beginM p).d, .bool (beginM p).m, .int .i64 (beginM p).tl, .int .i64 (beginM p).tu, .int .i64 (beginM p).td]) ∧ Below w.heap.size w w' := by
  unfold PhA
  go_enter Try.func13, Try.ntmps13
  go_wp2
  go_returns
  exact ⟨rfl, by (repeat' (first | (with_reducible exact Below.refl _ _) | (with_reducible assumption) | (with_reducible refine Below.setCell ?_ ?_ _) | (with_reducible refine Below.alloc ?_ ?_ _) | (with_reducible refine Below.drew ?_) | (with_reducible refine Up.base _ ?_ ?_) | (with_reducible exact LeSize.out) | exact LeSize.out | exact Nat.le_add_right_of_le LeSize.out | exact Nat.le_add_right_of_le (Nat.le_add_right_of_le LeSize.out) | (with_reducible exact Nat.le_refl _) | (simp; done) | (simp; omega)))⟩
end Go.Proofs.Ytmapdkhcfejkaaa
