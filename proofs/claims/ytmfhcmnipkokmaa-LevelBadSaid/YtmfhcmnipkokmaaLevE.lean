/- The law LevelBad: the walk, and the given statement. -/
import Derived.Test.YtmfhcmnipkokmaaLevB
import Derived.Test.YtmfhcmnipkokmaaPlace
namespace Go.Proofs.Ytmfhcmnipkokmaa
open Go.ChangeShapes Go.WideShapes Go.ChangeAt Go.RowKit
set_option linter.unusedVariables false

theorem e_nan_lo : fnan 13920209183539462144 = false := by decide +kernel
theorem e_nan_hi : fnan 4696837146684686336 = false := by decide +kernel
theorem e_nan_m10 : fnan 13845191154443747328 = false := by decide +kernel
theorem e_nan_10 : fnan 4621819117588971520 = false := by decide +kernel
theorem e_nan_5 : fnan 4617315517961601024 = false := by decide +kernel
theorem e_nan_2 : fnan 4611686018427387904 = false := by decide +kernel
theorem e_k1 : fkey 13920209183539462144 < fkey 13845191154443747328 := by decide +kernel
theorem e_k2 : fkey 4621819117588971520 < fkey 4696837146684686336 := by decide +kernel
theorem e_k3 : fkey 4611686018427387904 < fkey 4617315517961601024 := by decide +kernel
theorem nan_self (x : Nat) : feq x x = !fnan x := by rw [feq_key]; simp
theorem bad_eq (x : Nat) : badM x = (!feq x x || fgt x 4696837146684686336 || flt x 13920209183539462144) := by
  rw [nan_self, fgt_key, flt_key]
  unfold badM
  rw [fge_key, fle_key, e_nan_lo, e_nan_hi]
  cases fnan x <;> simp
  rw [Bool.eq_iff_iff]; simp; omega

/-- The state after i samples x, from Level{On: on}. -/
def BadRel (x : Nat) (on on' : Bool) (bad' : Int) (i : Nat) : Prop := (badM x = true ∧ on' = on ∧ bad' = i) ∨ (badM x = false ∧ bad' = 0)
theorem badRel_step {x : Nat} {on on' : Bool} {bad' : Int} {i : Nat} (hi : i ≤ 9999) (h : BadRel x on on' bad' i) :
    BadRel x on (levM 4617315517961601024 4611686018427387904 on' bad' x).1 (levM 4617315517961601024 4611686018427387904 on' bad' x).2 (i + 1) := by
  rcases h with ⟨h, rfl, rfl⟩ | ⟨h, rfl⟩
  · left
    refine ⟨h, by simp [levM, h], ?_⟩
    simp [levM, h, moreM]; omega
  · right
    refine ⟨h, ?_⟩
    unfold levM; rw [h]; simp only [Bool.false_eq_true, if_false]
    split
    · rfl
    · split <;> rfl
theorem lev_good {g : Nat} {on : Bool} {bad : Int} (h1 : fge g 13845191154443747328 = true) (h2 : fle g 4621819117588971520 = true) :
    (levM 4617315517961601024 4611686018427387904 on bad g).2 = 0 ∧ (flt g 4617315517961601024 = false → (levM 4617315517961601024 4611686018427387904 on bad g).1 = true) ∧
    (fgt g 4611686018427387904 = false → (levM 4617315517961601024 4611686018427387904 on bad g).1 = false) := by
  have k1 := e_k1
  have k2 := e_k2
  have k3 := e_k3
  rw [fge_key] at h1
  rw [fle_key] at h2
  simp [e_nan_m10, e_nan_10] at h1 h2
  have e1 : badM g = false := by simp [badM, fge_key, fle_key, e_nan_lo, e_nan_hi, h1.1]; omega
  have e2 : fge g 4617315517961601024 = decide (fkey 4617315517961601024 ≤ fkey g) := by simp [fge_key, h1.1, e_nan_5]
  have e3 : fle g 4611686018427387904 = decide (fkey g ≤ fkey 4611686018427387904) := by simp [fle_key, h1.1, e_nan_2]
  have e4 : flt g 4617315517961601024 = decide (fkey g < fkey 4617315517961601024) := by simp [flt_key, h1.1, e_nan_5]
  have e5 : fgt g 4611686018427387904 = decide (fkey 4611686018427387904 < fkey g) := by simp [fgt_key, h1.1, e_nan_2]
  refine ⟨?_, fun h => ?_, fun h => ?_⟩
  · unfold levM; rw [e1]; simp only [Bool.false_eq_true, if_false]; split
    · rfl
    · split <;> rfl
  · rw [e4] at h; simp at h
    unfold levM; rw [e1, e2]; simp [h]
  · rw [e5] at h; simp at h
    have n : ¬ fkey 4617315517961601024 ≤ fkey g := by omega
    unfold levM; rw [e1, e2, e3]; simp [h, n]

set_option maxHeartbeats 400000 in
theorem nan_any (x : Nat) (w : World) :
    Calls Try.prog 15 #[.float .f64 x] w fun e w' => e = .returned (.bool (!feq x x)) ∧ w = w' := by
  go_enter Try.func15, Try.ntmps15
  go_wp2
  go_ret
  exact ⟨rfl, rfl⟩

/-- The locals of LevelBad in memory: the detector, the state. -/
def BadSt (w wr : World) (on : Bool) (bad : Int) : Prop :=
  Below w.heap.size w wr ∧ LeSize (w.heap.size + 1) wr ∧ LeSize (w.heap.size + 1 + 1) wr ∧
  wr.frozen? ⟨w.heap.size + 1, 0, none⟩ = false ∧ wr.frozen? ⟨w.heap.size + 1, 1, none⟩ = false ∧
  (wr.cell? ⟨w.heap.size, 0, none⟩ = some (.int .i64 0) ∧ wr.cell? ⟨w.heap.size, 1, none⟩ = some (.float .f64 4617315517961601024) ∧ wr.cell? ⟨w.heap.size, 2, none⟩ = some (.float .f64 4611686018427387904) ∧ wr.cell? ⟨w.heap.size, 3, none⟩ = some (.float .f64 0) ∧ wr.cell? ⟨w.heap.size, 4, none⟩ = some (.float .f64 0) ∧ wr.cell? ⟨w.heap.size, 5, none⟩ = some (.int .i64 0) ∧ wr.cell? ⟨w.heap.size, 6, none⟩ = some (.int .i64 0)) ∧
  (wr.cell? ⟨w.heap.size + 1, 0, none⟩ = some (.bool on) ∧ wr.cell? ⟨w.heap.size + 1, 1, none⟩ = some (.int .i64 bad))

set_option maxHeartbeats 4000000 in
theorem levelBad_walk (x : Nat) (n : Int) (on : Bool) (g : Nat) (w : World) (_ : x < 18446744073709551616) (_ : InKind .i64 n) (_ : g < 18446744073709551616) :
    Calls Try.prog 6 #[.float .f64 x, .int .i64 n, .bool on, .float .f64 g] w
      fun e w' => e = .returned (.bool true) ∧ Below w.heap.size w w' := by
  go_enter Try.func6, Try.ntmps6
  go_wp2_with (go_at_call 14; refine (place_any _ _ _ (by omega) (by omega)).mono ?_; rintro e w' ⟨rfl, rfl⟩)
  have hk0 : 0 ≤ n % 12 := Int.emod_nonneg _ (by decide)
  have hk1 : n % 12 < 12 := Int.emod_lt_of_pos _ (by decide)
  generalize n % 12 = kk at *
  obtain ⟨kn, rfl⟩ := Int.eq_ofNat_of_zero_le hk0
  go_loopw [12] (fun i wr => ∃ (k : Nat) (on' : Bool) (bad' : Int), k ≤ kn ∧ i = .int .i64 k ∧ BadRel x on on' bad' k ∧ BadSt w wr on' bad') (fun i _ => kn - (intOf i).toNat)
  case atStart =>
    refine ⟨0, on, 0, Nat.zero_le _, rfl, ?_, ?_⟩
    · cases h : badM x
      · exact .inr ⟨h, rfl⟩
      · exact .inl ⟨h, rfl, rfl⟩
    · unfold BadSt
      refine ⟨by (repeat' (first | (with_reducible exact Below.refl _ _) | (with_reducible assumption) | (with_reducible refine Below.setCell ?_ ?_ _) | (with_reducible refine Below.alloc ?_ ?_ _) | (with_reducible refine Below.drew ?_) | (with_reducible refine Up.base _ ?_ ?_) | (with_reducible exact LeSize.out) | exact LeSize.out | exact Nat.le_add_right_of_le LeSize.out | exact Nat.le_add_right_of_le (Nat.le_add_right_of_le LeSize.out) | (with_reducible exact Nat.le_refl _) | (simp; done) | (simp; omega))), inferInstance, inferInstance, ?_⟩
      simp [go_sem]
  case round =>
    obtain ⟨k, on', bad', hk, rfl, hR, hst⟩ := hrel
    obtain ⟨hb, i1, i2, f1, f2, ⟨c0, c1, c2, c3, c4, c5, c6⟩, ⟨d0, d1⟩⟩ := hst
    have i0 : LeSize w.heap.size wr := ⟨hb.size⟩
    by_cases hlt : k < kn
    · have hR' := badRel_step (by omega) hR
      have HR := Lib.hid hR'
      clear hR hR'
      go_wp2_with (go_at_call 7; refine (Up.run (step_any _ _ _ _ _ _ _ _ _ _ _)).mono ?_; rintro e w' ⟨rfl, u, rfl⟩)
      go_roundw
      case rel =>
        refine ⟨k + 1, _, _, by omega, by go_num, HR.out, ?_⟩
        unfold BadSt
        refine ⟨by (repeat' (first | (with_reducible exact Below.refl _ _) | (with_reducible assumption) | (with_reducible refine Below.setCell ?_ ?_ _) | (with_reducible refine Below.alloc ?_ ?_ _) | (with_reducible refine Below.drew ?_) | (with_reducible refine Up.base _ ?_ ?_) | (with_reducible exact LeSize.out) | exact LeSize.out | exact Nat.le_add_right_of_le LeSize.out | exact Nat.le_add_right_of_le (Nat.le_add_right_of_le LeSize.out) | (with_reducible exact Nat.le_refl _) | (simp; done) | (simp; omega))), inferInstance, inferInstance, ?_⟩
        simp [go_sem, c0, c1, c2, c3, c4, c5, c6, d0, d1, f1, f2]
      case measure => simp [intOf]; omega
    · have hkk : kn = k := by omega
      subst hkk
      have hbad := bad_eq x
      have hend : fge g 13845191154443747328 = true → fle g 4621819117588971520 = true → Hid (∀ o b, (levM 4617315517961601024 4611686018427387904 o b g).2 = 0 ∧ (flt g 4617315517961601024 = false → (levM 4617315517961601024 4611686018427387904 o b g).1 = true) ∧
          (fgt g 4611686018427387904 = false → (levM 4617315517961601024 4611686018427387904 o b g).1 = false)) := fun h1 h2 o b => lev_good h1 h2
      have HE := Lib.hid hend
      clear hend
      rcases hR with ⟨hx, h1, h2⟩ | ⟨hx, h2⟩
      · subst h2
        rw [h1] at d0
        clear h1
        rw [hx] at hbad
        cases q1 : feq x x
        all_goals cases q2 : fgt x 4696837146684686336
        all_goals cases q3 : flt x 13920209183539462144
        all_goals (try (exfalso; simp [q1, q2, q3] at hbad; done))
        all_goals
          clear hbad hx
          cases hg1 : fge g 13845191154443747328
          · go_wp2_with (first
    | (go_at_call 15; refine (nan_any _ _).mono ?_; rintro e w' ⟨rfl, rfl⟩)
    | (go_at_call 9; refine (Up.run (failed_any _ _ _)).mono ?_; rintro e w' ⟨rfl, u, rfl⟩)
    | (go_at_call 13; refine (Up.run (awake_any _)).mono ?_; rintro e w' ⟨rfl, u, rfl⟩))
            go_ret
            exact ⟨rfl, by (repeat' (first | (with_reducible exact Below.refl _ _) | (with_reducible assumption) | (with_reducible refine Below.setCell ?_ ?_ _) | (with_reducible refine Below.alloc ?_ ?_ _) | (with_reducible refine Below.drew ?_) | (with_reducible refine Up.base _ ?_ ?_) | (with_reducible exact LeSize.out) | exact LeSize.out | exact Nat.le_add_right_of_le LeSize.out | exact Nat.le_add_right_of_le (Nat.le_add_right_of_le LeSize.out) | (with_reducible exact Nat.le_refl _) | (simp; done) | (simp; omega)))⟩
          cases hg2 : fle g 4621819117588971520
          · go_wp2_with (first
    | (go_at_call 15; refine (nan_any _ _).mono ?_; rintro e w' ⟨rfl, rfl⟩)
    | (go_at_call 9; refine (Up.run (failed_any _ _ _)).mono ?_; rintro e w' ⟨rfl, u, rfl⟩)
    | (go_at_call 13; refine (Up.run (awake_any _)).mono ?_; rintro e w' ⟨rfl, u, rfl⟩))
            go_ret
            exact ⟨rfl, by (repeat' (first | (with_reducible exact Below.refl _ _) | (with_reducible assumption) | (with_reducible refine Below.setCell ?_ ?_ _) | (with_reducible refine Below.alloc ?_ ?_ _) | (with_reducible refine Below.drew ?_) | (with_reducible refine Up.base _ ?_ ?_) | (with_reducible exact LeSize.out) | exact LeSize.out | exact Nat.le_add_right_of_le LeSize.out | exact Nat.le_add_right_of_le (Nat.le_add_right_of_le LeSize.out) | (with_reducible exact Nat.le_refl _) | (simp; done) | (simp; omega)))⟩
          obtain ⟨r1, r2, r3⟩ := (HE.out hg1 hg2).out on kn
          cases q5 : flt g 4617315517961601024
          · have v5 := r2 q5
            cases q6 : fgt g 4611686018427387904
            · have v6 := r3 q6
              rw [v5] at v6; cases v6
            · clear r2 r3
              go_wp2_with (first
    | (go_at_call 15; refine (nan_any _ _).mono ?_; rintro e w' ⟨rfl, rfl⟩)
    | (go_at_call 9; refine (Up.run (failed_any _ _ _)).mono ?_; rintro e w' ⟨rfl, u, rfl⟩)
    | (go_at_call 7; refine (Up.run (step_any _ _ _ _ _ _ _ _ _ _ _)).mono ?_; rintro e w' ⟨rfl, u, rfl⟩)
    | (go_at_call 13; refine (Up.run (awake_any _)).mono ?_; rintro e w' ⟨rfl, u, rfl⟩))
              go_ret
              exact ⟨rfl, by (repeat' (first | (with_reducible exact Below.refl _ _) | (with_reducible assumption) | (with_reducible refine Below.setCell ?_ ?_ _) | (with_reducible refine Below.alloc ?_ ?_ _) | (with_reducible refine Below.drew ?_) | (with_reducible refine Up.base _ ?_ ?_) | (with_reducible exact LeSize.out) | exact LeSize.out | exact Nat.le_add_right_of_le LeSize.out | exact Nat.le_add_right_of_le (Nat.le_add_right_of_le LeSize.out) | (with_reducible exact Nat.le_refl _) | (simp; done) | (simp; omega)))⟩
          · clear r2
            cases q6 : fgt g 4611686018427387904
            · have v6 := r3 q6
              clear r3
              go_wp2_with (first
    | (go_at_call 15; refine (nan_any _ _).mono ?_; rintro e w' ⟨rfl, rfl⟩)
    | (go_at_call 9; refine (Up.run (failed_any _ _ _)).mono ?_; rintro e w' ⟨rfl, u, rfl⟩)
    | (go_at_call 7; refine (Up.run (step_any _ _ _ _ _ _ _ _ _ _ _)).mono ?_; rintro e w' ⟨rfl, u, rfl⟩)
    | (go_at_call 13; refine (Up.run (awake_any _)).mono ?_; rintro e w' ⟨rfl, u, rfl⟩))
              go_ret
              exact ⟨rfl, by (repeat' (first | (with_reducible exact Below.refl _ _) | (with_reducible assumption) | (with_reducible refine Below.setCell ?_ ?_ _) | (with_reducible refine Below.alloc ?_ ?_ _) | (with_reducible refine Below.drew ?_) | (with_reducible refine Up.base _ ?_ ?_) | (with_reducible exact LeSize.out) | exact LeSize.out | exact Nat.le_add_right_of_le LeSize.out | exact Nat.le_add_right_of_le (Nat.le_add_right_of_le LeSize.out) | (with_reducible exact Nat.le_refl _) | (simp; done) | (simp; omega)))⟩
            · clear r3
              go_wp2_with (first
    | (go_at_call 15; refine (nan_any _ _).mono ?_; rintro e w' ⟨rfl, rfl⟩)
    | (go_at_call 9; refine (Up.run (failed_any _ _ _)).mono ?_; rintro e w' ⟨rfl, u, rfl⟩)
    | (go_at_call 7; refine (Up.run (step_any _ _ _ _ _ _ _ _ _ _ _)).mono ?_; rintro e w' ⟨rfl, u, rfl⟩)
    | (go_at_call 13; refine (Up.run (awake_any _)).mono ?_; rintro e w' ⟨rfl, u, rfl⟩))
              go_ret
              exact ⟨rfl, by (repeat' (first | (with_reducible exact Below.refl _ _) | (with_reducible assumption) | (with_reducible refine Below.setCell ?_ ?_ _) | (with_reducible refine Below.alloc ?_ ?_ _) | (with_reducible refine Below.drew ?_) | (with_reducible refine Up.base _ ?_ ?_) | (with_reducible exact LeSize.out) | exact LeSize.out | exact Nat.le_add_right_of_le LeSize.out | exact Nat.le_add_right_of_le (Nat.le_add_right_of_le LeSize.out) | (with_reducible exact Nat.le_refl _) | (simp; done) | (simp; omega)))⟩
      · subst h2
        rw [hx] at hbad
        cases q1 : feq x x
        all_goals cases q2 : fgt x 4696837146684686336
        all_goals cases q3 : flt x 13920209183539462144
        all_goals (try (exfalso; simp [q1, q2, q3] at hbad; done))
        all_goals
          clear hbad hx
          cases hg1 : fge g 13845191154443747328
          · go_wp2_with (first
    | (go_at_call 15; refine (nan_any _ _).mono ?_; rintro e w' ⟨rfl, rfl⟩)
    | (go_at_call 9; refine (Up.run (failed_any _ _ _)).mono ?_; rintro e w' ⟨rfl, u, rfl⟩)
    | (go_at_call 13; refine (Up.run (awake_any _)).mono ?_; rintro e w' ⟨rfl, u, rfl⟩))
            go_ret
            exact ⟨rfl, by (repeat' (first | (with_reducible exact Below.refl _ _) | (with_reducible assumption) | (with_reducible refine Below.setCell ?_ ?_ _) | (with_reducible refine Below.alloc ?_ ?_ _) | (with_reducible refine Below.drew ?_) | (with_reducible refine Up.base _ ?_ ?_) | (with_reducible exact LeSize.out) | exact LeSize.out | exact Nat.le_add_right_of_le LeSize.out | exact Nat.le_add_right_of_le (Nat.le_add_right_of_le LeSize.out) | (with_reducible exact Nat.le_refl _) | (simp; done) | (simp; omega)))⟩
          cases hg2 : fle g 4621819117588971520
          · go_wp2_with (first
    | (go_at_call 15; refine (nan_any _ _).mono ?_; rintro e w' ⟨rfl, rfl⟩)
    | (go_at_call 9; refine (Up.run (failed_any _ _ _)).mono ?_; rintro e w' ⟨rfl, u, rfl⟩)
    | (go_at_call 13; refine (Up.run (awake_any _)).mono ?_; rintro e w' ⟨rfl, u, rfl⟩))
            go_ret
            exact ⟨rfl, by (repeat' (first | (with_reducible exact Below.refl _ _) | (with_reducible assumption) | (with_reducible refine Below.setCell ?_ ?_ _) | (with_reducible refine Below.alloc ?_ ?_ _) | (with_reducible refine Below.drew ?_) | (with_reducible refine Up.base _ ?_ ?_) | (with_reducible exact LeSize.out) | exact LeSize.out | exact Nat.le_add_right_of_le LeSize.out | exact Nat.le_add_right_of_le (Nat.le_add_right_of_le LeSize.out) | (with_reducible exact Nat.le_refl _) | (simp; done) | (simp; omega)))⟩
          obtain ⟨r1, r2, r3⟩ := (HE.out hg1 hg2).out on' 0
          cases q5 : flt g 4617315517961601024
          · have v5 := r2 q5
            cases q6 : fgt g 4611686018427387904
            · have v6 := r3 q6
              rw [v5] at v6; cases v6
            · clear r2 r3
              go_wp2_with (first
    | (go_at_call 15; refine (nan_any _ _).mono ?_; rintro e w' ⟨rfl, rfl⟩)
    | (go_at_call 9; refine (Up.run (failed_any _ _ _)).mono ?_; rintro e w' ⟨rfl, u, rfl⟩)
    | (go_at_call 7; refine (Up.run (step_any _ _ _ _ _ _ _ _ _ _ _)).mono ?_; rintro e w' ⟨rfl, u, rfl⟩)
    | (go_at_call 13; refine (Up.run (awake_any _)).mono ?_; rintro e w' ⟨rfl, u, rfl⟩))
              go_ret
              exact ⟨rfl, by (repeat' (first | (with_reducible exact Below.refl _ _) | (with_reducible assumption) | (with_reducible refine Below.setCell ?_ ?_ _) | (with_reducible refine Below.alloc ?_ ?_ _) | (with_reducible refine Below.drew ?_) | (with_reducible refine Up.base _ ?_ ?_) | (with_reducible exact LeSize.out) | exact LeSize.out | exact Nat.le_add_right_of_le LeSize.out | exact Nat.le_add_right_of_le (Nat.le_add_right_of_le LeSize.out) | (with_reducible exact Nat.le_refl _) | (simp; done) | (simp; omega)))⟩
          · clear r2
            cases q6 : fgt g 4611686018427387904
            · have v6 := r3 q6
              clear r3
              go_wp2_with (first
    | (go_at_call 15; refine (nan_any _ _).mono ?_; rintro e w' ⟨rfl, rfl⟩)
    | (go_at_call 9; refine (Up.run (failed_any _ _ _)).mono ?_; rintro e w' ⟨rfl, u, rfl⟩)
    | (go_at_call 7; refine (Up.run (step_any _ _ _ _ _ _ _ _ _ _ _)).mono ?_; rintro e w' ⟨rfl, u, rfl⟩)
    | (go_at_call 13; refine (Up.run (awake_any _)).mono ?_; rintro e w' ⟨rfl, u, rfl⟩))
              go_ret
              exact ⟨rfl, by (repeat' (first | (with_reducible exact Below.refl _ _) | (with_reducible assumption) | (with_reducible refine Below.setCell ?_ ?_ _) | (with_reducible refine Below.alloc ?_ ?_ _) | (with_reducible refine Below.drew ?_) | (with_reducible refine Up.base _ ?_ ?_) | (with_reducible exact LeSize.out) | exact LeSize.out | exact Nat.le_add_right_of_le LeSize.out | exact Nat.le_add_right_of_le (Nat.le_add_right_of_le LeSize.out) | (with_reducible exact Nat.le_refl _) | (simp; done) | (simp; omega)))⟩
            · clear r3
              go_wp2_with (first
    | (go_at_call 15; refine (nan_any _ _).mono ?_; rintro e w' ⟨rfl, rfl⟩)
    | (go_at_call 9; refine (Up.run (failed_any _ _ _)).mono ?_; rintro e w' ⟨rfl, u, rfl⟩)
    | (go_at_call 7; refine (Up.run (step_any _ _ _ _ _ _ _ _ _ _ _)).mono ?_; rintro e w' ⟨rfl, u, rfl⟩)
    | (go_at_call 13; refine (Up.run (awake_any _)).mono ?_; rintro e w' ⟨rfl, u, rfl⟩))
              go_ret
              exact ⟨rfl, by (repeat' (first | (with_reducible exact Below.refl _ _) | (with_reducible assumption) | (with_reducible refine Below.setCell ?_ ?_ _) | (with_reducible refine Below.alloc ?_ ?_ _) | (with_reducible refine Below.drew ?_) | (with_reducible refine Up.base _ ?_ ?_) | (with_reducible exact LeSize.out) | exact LeSize.out | exact Nat.le_add_right_of_le LeSize.out | exact Nat.le_add_right_of_le (Nat.le_add_right_of_le LeSize.out) | (with_reducible exact Nat.le_refl _) | (simp; done) | (simp; omega)))⟩

set_option maxRecDepth 100000 in
theorem LevelBad_lifted (os : Os) (started : os.Started) (H : Type) (enc : TypeId × Value → H) :
    ReturnsInHanded {} Try.checked os 6 .any (Rows.levelBadSpec.pre6 enc Try.prog Try.f6 Rows.levelBadRow.domain false) (Rows.levelBadSpec.post enc Try.prog Try.f6 false true false false) := by
  refine returnsInHanded_of_change (C := Try.checked) own started (by kernel_rfl) Try.func6
    (ChangeSpec.witness6 (enc := enc) (C := Try.checked) false ⟨#[], #[.float .f64 0, .int .i64 0, .bool false, .float .f64 0], []⟩ 8 (by kernel_rfl) (by kernel_rfl) (by kernel_rfl) (by kernel_rfl)) ?_
  intro W base args ds gs before hval0 hW hcnd _
  have hval : ∀ (j : Nat) t v, Try.f6.params[j]? = some t → args[j]? = some v → Value.okWide Try.prog W .any base t v := hval0
  have hW' := hW
  obtain ⟨p, q, hA0, hV, rfl, hfz, hnd⟩ := hW
  have hA : DataW.TrodAll enc Try.prog W 0 (fun _ => true) true Try.f6.params.toList args.toList ds p := hA0
  rw [Try.params6] at hA hval
  obtain ⟨v0, vs0, d0, ds0, p0, q0, hargs, rfl, rfl, h0, r0⟩ := trodAll_cons hA
  obtain ⟨v1, vs1, d1, ds1, p1, q1, rfl, rfl, rfl, h1, r1⟩ := trodAll_cons r0
  obtain ⟨v2, vs2, d2, ds2, p2, q2, rfl, rfl, rfl, h2, r2⟩ := trodAll_cons r1
  obtain ⟨v3, vs3, d3, ds3, p3, q3, rfl, rfl, rfl, h3, r3⟩ := trodAll_cons r2
  obtain ⟨rfl, rfl, rfl⟩ := trodAll_nil r3
  obtain rfl : args = #[v0, v1, v2, v3] := by cases args; simp_all
  obtain ⟨rfl, rfl⟩ := trodVars_none hV
  have k0 := h0
  have lt0 : ∀ x ∈ p0, x.block < W.heap.size := by obtain ⟨m, hm⟩ := k0; exact DataW.trod_lt m _ _ _ hm
  have k1 := h1
  have lt1 : ∀ x ∈ p1, x.block < W.heap.size := by obtain ⟨m, hm⟩ := k1; exact DataW.trod_lt m _ _ _ hm
  have k2 := h2
  have lt2 : ∀ x ∈ p2, x.block < W.heap.size := by obtain ⟨m, hm⟩ := k2; exact DataW.trod_lt m _ _ _ hm
  have k3 := h3
  have lt3 : ∀ x ∈ p3, x.block < W.heap.size := by obtain ⟨m, hm⟩ := k3; exact DataW.trod_lt m _ _ _ hm
  obtain ⟨a0, rfl, w0⟩ := open_float1 Try.underlying22 (hval 0 22 v0 rfl rfl)
  obtain ⟨a1, rfl, w1⟩ := open_int1 Try.underlying3 (hval 1 3 v1 rfl rfl)
  obtain ⟨a2, rfl⟩ := open_bool1 Try.underlying4 (hval 2 4 v2 rfl rfl)
  obtain ⟨a3, rfl, w3⟩ := open_float1 Try.underlying22 (hval 3 22 v3 rfl rfl)
  clear hA0 hval0
  refine (levelBad_walk a0 a1 a2 a3 W w0 w1 w3).mono fun e W' ⟨he, bel⟩ => ?_
  subst he
  exact ⟨_, rfl, _, _, _, [], _, [], hW', trodAll_mk1 (shut_bool Try.underlying4 _), (trodAll_cons_mk (Below.trod laidOut (by kernel_rfl) (of_decide_eq_true (by kernel_rfl)) k0 bel lt0) (trodAll_cons_mk (Below.trod laidOut (by kernel_rfl) (of_decide_eq_true (by kernel_rfl)) k1 bel lt1) (trodAll_cons_mk (Below.trod laidOut (by kernel_rfl) (of_decide_eq_true (by kernel_rfl)) k2 bel lt2) (trodAll_cons_mk (Below.trod laidOut (by kernel_rfl) (of_decide_eq_true (by kernel_rfl)) k3 bel lt3) trodAll_mk0)))), rfl, bel.frame _, fun h => by cases h⟩

theorem LevelBad_over : Rows.levelBadRow.holds Try.pinned (OpenSpec.ofChange Rows.levelBadSpec) :=
  OpenClaim.holds_of_wide 6 Try.f6 rfl rfl rfl rfl rfl rfl rfl ⟨rfl, rfl, rfl, rfl, rfl⟩ rfl rfl rfl rfl rfl (by kernel_rfl) Try.func6 (by kernel_rfl)
    (of_decide_eq_true (by kernel_rfl)) (by unfold Func.isWrapper; first | (rw [if_pos (by decide +kernel)]; kernel_rfl) | (rw [if_neg (by decide +kernel)]; exact ⟨rfl, rfl⟩))
    (fun os started H enc _ => LevelBad_lifted os started H enc)

/-- The given statement. -/
theorem LevelBad_holds : Rows.LevelBadSaid := LevelBad_over
#print axioms LevelBad_holds
end Go.Proofs.Ytmfhcmnipkokmaa
