/- The contracts of Show and Moving; 'awake' of lamp's laws; the law LampTexts. -/
import Derived.Test.YtkfilolomjhdeaaLampB
namespace Go.Proofs.Ytkfilolomjhdeaa
open Go.ChangeShapes Go.WideShapes Go.ChangeAt Go.RowKit
set_option linter.unusedVariables false

def showM (c f : Int) : Int := if c = 1 then (if f = 1 then 12 else if f = 2 then 20 else 4) else if c = 2 then 2 else 1
set_option maxHeartbeats 2000000 in
theorem show_any (c t fs ft l p e : Int) (d m : Bool) (tl tu td : Int) (w : World) :
    Calls Try.prog 13 #[.agg #[.int .i64 c, .int .i64 t, .int .i64 fs, .int .i64 ft, .int .i64 l, .int .i64 p, .int .i64 e, .bool d, .bool m, .int .i64 tl, .int .i64 tu, .int .i64 td]] w
      fun e w' => e = .returned (.int .i64 (showM c fs)) ∧ Below w.heap.size w w' := by
  rcases (show c = 1 ∨ c = 2 ∨ (c ≠ 1 ∧ c ≠ 2) by omega) with rfl | rfl | ⟨n1, n2⟩
  · rcases (show fs = 1 ∨ fs = 2 ∨ (fs ≠ 1 ∧ fs ≠ 2) by omega) with rfl | rfl | ⟨m1, m2⟩
    · go_enter Try.func13, Try.ntmps13
      go_wp2
      go_ret
      exact ⟨rfl, by (repeat' (first | (with_reducible exact Below.refl _ _) | (with_reducible assumption) | (with_reducible refine Below.setCell ?_ ?_ _) | (with_reducible refine Below.alloc ?_ ?_ _) | (with_reducible refine Below.drew ?_) | (with_reducible refine Up.base _ ?_ ?_) | (with_reducible exact LeSize.out) | exact LeSize.out | exact Nat.le_add_right_of_le LeSize.out | exact Nat.le_add_right_of_le (Nat.le_add_right_of_le LeSize.out) | (with_reducible exact Nat.le_refl _) | (simp; done) | (simp; omega)))⟩
    · go_enter Try.func13, Try.ntmps13
      go_wp2
      go_ret
      exact ⟨rfl, by (repeat' (first | (with_reducible exact Below.refl _ _) | (with_reducible assumption) | (with_reducible refine Below.setCell ?_ ?_ _) | (with_reducible refine Below.alloc ?_ ?_ _) | (with_reducible refine Below.drew ?_) | (with_reducible refine Up.base _ ?_ ?_) | (with_reducible exact LeSize.out) | exact LeSize.out | exact Nat.le_add_right_of_le LeSize.out | exact Nat.le_add_right_of_le (Nat.le_add_right_of_le LeSize.out) | (with_reducible exact Nat.le_refl _) | (simp; done) | (simp; omega)))⟩
    · have b1 : (fs == 1) = false := beq_eq_false_iff_ne.2 m1
      have b2 : (fs == 2) = false := beq_eq_false_iff_ne.2 m2
      go_enter Try.func13, Try.ntmps13
      go_wp2
      go_ret
      exact ⟨ret_int (by simp [showM, m1, m2]), by (repeat' (first | (with_reducible exact Below.refl _ _) | (with_reducible assumption) | (with_reducible refine Below.setCell ?_ ?_ _) | (with_reducible refine Below.alloc ?_ ?_ _) | (with_reducible refine Below.drew ?_) | (with_reducible refine Up.base _ ?_ ?_) | (with_reducible exact LeSize.out) | exact LeSize.out | exact Nat.le_add_right_of_le LeSize.out | exact Nat.le_add_right_of_le (Nat.le_add_right_of_le LeSize.out) | (with_reducible exact Nat.le_refl _) | (simp; done) | (simp; omega)))⟩
  · go_enter Try.func13, Try.ntmps13
    go_wp2
    go_ret
    exact ⟨rfl, by (repeat' (first | (with_reducible exact Below.refl _ _) | (with_reducible assumption) | (with_reducible refine Below.setCell ?_ ?_ _) | (with_reducible refine Below.alloc ?_ ?_ _) | (with_reducible refine Below.drew ?_) | (with_reducible refine Up.base _ ?_ ?_) | (with_reducible exact LeSize.out) | exact LeSize.out | exact Nat.le_add_right_of_le LeSize.out | exact Nat.le_add_right_of_le (Nat.le_add_right_of_le LeSize.out) | (with_reducible exact Nat.le_refl _) | (simp; done) | (simp; omega)))⟩
  · have b1 : (c == 1) = false := beq_eq_false_iff_ne.2 n1
    have b2 : (c == 2) = false := beq_eq_false_iff_ne.2 n2
    go_enter Try.func13, Try.ntmps13
    go_wp2
    go_ret
    exact ⟨ret_int (by simp [showM, n1, n2]), by (repeat' (first | (with_reducible exact Below.refl _ _) | (with_reducible assumption) | (with_reducible refine Below.setCell ?_ ?_ _) | (with_reducible refine Below.alloc ?_ ?_ _) | (with_reducible refine Below.drew ?_) | (with_reducible refine Up.base _ ?_ ?_) | (with_reducible exact LeSize.out) | exact LeSize.out | exact Nat.le_add_right_of_le LeSize.out | exact Nat.le_add_right_of_le (Nat.le_add_right_of_le LeSize.out) | (with_reducible exact Nat.le_refl _) | (simp; done) | (simp; omega)))⟩
set_option maxHeartbeats 2000000 in
theorem rshow_any (c t fs ft l p e : Int) (d m : Bool) (tl tu td : Int) (w : World) :
    Calls Try.prog 28 #[.agg #[.int .i64 c, .int .i64 t, .int .i64 fs, .int .i64 ft, .int .i64 l, .int .i64 p, .int .i64 e, .bool d, .bool m, .int .i64 tl, .int .i64 tu, .int .i64 td]] w
      fun e w' => e = .returned (.int .i64 (showM c fs)) ∧ Below w.heap.size w w' := by
  rcases (show c = 1 ∨ c = 2 ∨ (c ≠ 1 ∧ c ≠ 2) by omega) with rfl | rfl | ⟨n1, n2⟩
  · rcases (show fs = 1 ∨ fs = 2 ∨ (fs ≠ 1 ∧ fs ≠ 2) by omega) with rfl | rfl | ⟨m1, m2⟩
    · go_enter Try.func28, Try.ntmps28
      go_wp2
      go_ret
      exact ⟨rfl, by (repeat' (first | (with_reducible exact Below.refl _ _) | (with_reducible assumption) | (with_reducible refine Below.setCell ?_ ?_ _) | (with_reducible refine Below.alloc ?_ ?_ _) | (with_reducible refine Below.drew ?_) | (with_reducible refine Up.base _ ?_ ?_) | (with_reducible exact LeSize.out) | exact LeSize.out | exact Nat.le_add_right_of_le LeSize.out | exact Nat.le_add_right_of_le (Nat.le_add_right_of_le LeSize.out) | (with_reducible exact Nat.le_refl _) | (simp; done) | (simp; omega)))⟩
    · go_enter Try.func28, Try.ntmps28
      go_wp2
      go_ret
      exact ⟨rfl, by (repeat' (first | (with_reducible exact Below.refl _ _) | (with_reducible assumption) | (with_reducible refine Below.setCell ?_ ?_ _) | (with_reducible refine Below.alloc ?_ ?_ _) | (with_reducible refine Below.drew ?_) | (with_reducible refine Up.base _ ?_ ?_) | (with_reducible exact LeSize.out) | exact LeSize.out | exact Nat.le_add_right_of_le LeSize.out | exact Nat.le_add_right_of_le (Nat.le_add_right_of_le LeSize.out) | (with_reducible exact Nat.le_refl _) | (simp; done) | (simp; omega)))⟩
    · have b1 : (fs == 1) = false := beq_eq_false_iff_ne.2 m1
      have b2 : (fs == 2) = false := beq_eq_false_iff_ne.2 m2
      go_enter Try.func28, Try.ntmps28
      go_wp2
      go_ret
      exact ⟨ret_int (by simp [showM, m1, m2]), by (repeat' (first | (with_reducible exact Below.refl _ _) | (with_reducible assumption) | (with_reducible refine Below.setCell ?_ ?_ _) | (with_reducible refine Below.alloc ?_ ?_ _) | (with_reducible refine Below.drew ?_) | (with_reducible refine Up.base _ ?_ ?_) | (with_reducible exact LeSize.out) | exact LeSize.out | exact Nat.le_add_right_of_le LeSize.out | exact Nat.le_add_right_of_le (Nat.le_add_right_of_le LeSize.out) | (with_reducible exact Nat.le_refl _) | (simp; done) | (simp; omega)))⟩
  · go_enter Try.func28, Try.ntmps28
    go_wp2
    go_ret
    exact ⟨rfl, by (repeat' (first | (with_reducible exact Below.refl _ _) | (with_reducible assumption) | (with_reducible refine Below.setCell ?_ ?_ _) | (with_reducible refine Below.alloc ?_ ?_ _) | (with_reducible refine Below.drew ?_) | (with_reducible refine Up.base _ ?_ ?_) | (with_reducible exact LeSize.out) | exact LeSize.out | exact Nat.le_add_right_of_le LeSize.out | exact Nat.le_add_right_of_le (Nat.le_add_right_of_le LeSize.out) | (with_reducible exact Nat.le_refl _) | (simp; done) | (simp; omega)))⟩
  · have b1 : (c == 1) = false := beq_eq_false_iff_ne.2 n1
    have b2 : (c == 2) = false := beq_eq_false_iff_ne.2 n2
    go_enter Try.func28, Try.ntmps28
    go_wp2
    go_ret
    exact ⟨ret_int (by simp [showM, n1, n2]), by (repeat' (first | (with_reducible exact Below.refl _ _) | (with_reducible assumption) | (with_reducible refine Below.setCell ?_ ?_ _) | (with_reducible refine Below.alloc ?_ ?_ _) | (with_reducible refine Below.drew ?_) | (with_reducible refine Up.base _ ?_ ?_) | (with_reducible exact LeSize.out) | exact LeSize.out | exact Nat.le_add_right_of_le LeSize.out | exact Nat.le_add_right_of_le (Nat.le_add_right_of_le LeSize.out) | (with_reducible exact Nat.le_refl _) | (simp; done) | (simp; omega)))⟩

def mvB (x : Int) : Bool := bitM x 1 || bitM x 2
theorem lit_bit (x : Int) (i : Nat) (hi : i < 8) : (bits .and .i64 x (packM (oneM i)) != 0) = bitM x i := by
  rw [and_bits, Bool.eq_iff_iff, bne_iff_ne, ne_eq, pack_zero]
  unfold oneM
  constructor
  · intro h
    cases hb : bitM x i with
    | true => rfl
    | false => exact absurd (fun j hj => by
        by_cases hij : (i : Int) = (j : Int)
        · have : i = j := by omega
          subst this; simp [hb]
        · simp [hij]) h
  · intro hb h
    have := h i hi
    simp [hb] at this
theorem lit2 (x : Int) : (bits .and .i64 x 2 != 0) = bitM x 1 := by
  have := lit_bit x 1 (by omega)
  rwa [show packM (oneM (1 : Nat)) = 2 by decide] at this
theorem lit4 (x : Int) : (bits .and .i64 x 4 != 0) = bitM x 2 := by
  have := lit_bit x 2 (by omega)
  rwa [show packM (oneM (2 : Nat)) = 4 by decide] at this
theorem lit6 (x : Int) : (bits .and .i64 x 6 != 0) = mvB x := by
  rw [show (6 : Int) = packM (fun i => decide (i = 1) || decide (i = 2)) by decide, and_bits, Bool.eq_iff_iff, bne_iff_ne, ne_eq, pack_zero]
  unfold mvB
  constructor
  · intro h
    cases h1 : bitM x 1 with
    | true => rfl
    | false =>
      cases h2 : bitM x 2 with
      | true => rfl
      | false => exact absurd (fun j hj => by
          by_cases a1 : j = 1
          · subst a1; simp [h1]
          · by_cases a2 : j = 2
            · subst a2; simp [h2]
            · simp [a1, a2]) h
  · intro hb h
    have e1 := h 1 (by omega)
    have e2 := h 2 (by omega)
    simp at e1 e2
    rw [e1, e2] at hb
    cases hb
def movK (L : List Int) (k : Nat) : Int := packM fun i => decide (i < k) && mvB (L.getD i 0)
theorem movK_zero (L : List Int) : movK L 0 = 0 := by unfold movK; rw [pack_zero]; simp
theorem movK_no {L : List Int} {k : Nat} (h : mvB (L.getD k 0) = false) : movK L (k + 1) = movK L k := packM_congr fun i hi => by
  by_cases hik : i = k
  · subst hik; rw [h]; simp
  · have : decide (i < k + 1) = decide (i < k) := decide_eq_decide.2 (by omega)
    rw [this]
theorem movK_with {L : List Int} {k : Nat} (hk : k < 8) (h : mvB (L.getD k 0) = true) : withM (movK L k) k = movK L (k + 1) := packM_congr fun i hi => by
  unfold movK
  rw [bitM_pack _ hi]
  unfold oneM
  by_cases hik : i = k
  · subst hik; rw [h]; simp
  · have h1 : decide (i < k + 1) = decide (i < k) := decide_eq_decide.2 (by omega)
    have h2 : decide ((k : Int) = (i : Int)) = false := by simp; omega
    rw [h1, h2]; simp
theorem movK_yes {L : List Int} {k : Nat} (hk : k < 8) (h : mvB (L.getD k 0) = true) : bits .or .i64 (movK L k) (2 ^ k) = movK L (k + 1) := by
  rw [← movK_with hk h]
  unfold movK withM
  rw [pow_pack hk, or_pack]
  refine packM_congr fun i hi => ?_
  rw [bitM_pack _ hi]
set_option maxHeartbeats 2000000 in
theorem rmoves_any (x : Int) (w : World) : Calls Try.prog 19 #[.int .i64 x] w fun e w' => e = .returned (.bool (mvB x)) ∧ w = w' := by
  have h2 := lit2 x
  have h4 := lit4 x
  have hm : mvB x = (bitM x 1 || bitM x 2) := rfl
  cases h1 : bitM x 1 <;> cases h3 : bitM x 2
  all_goals
    rw [h1] at h2
    rw [h3] at h4
    have HM : Hid (mvB x = (bitM x 1 || bitM x 2)) := Lib.hid rfl
    have H1 := Lib.hid h1
    have H3 := Lib.hid h3
    clear hm h1 h3
    go_enter Try.func19, Try.ntmps19
    go_wp2
    go_ret
    exact ⟨ret_bool (by rw [HM.out, H1.out, H3.out]; rfl), rfl⟩
end Go.Proofs.Ytkfilolomjhdeaa
