/- The contracts of the reference's bounds: Wait. -/
import Derived.Test.YtbnbakienajhmaaTabL
namespace Go.Proofs.Ytbnbakienajhmaa
open Go.RowKit
set_option linter.unusedVariables false
attribute [local go_sem] IsBlk.cell IsBlk.frozen

def waitZ (t : Tab) (p : Int) : Int := if freeZ t p = 0 ∨ t.ra.length = 0 then freeZ t p else sumZ [mulZ (sumZ [t.share, 1]) (sumZ [overZ t, freeZ t p, 2]), t.share]
theorem addZ_bd (a b : Int) : 0 ≤ addZ a b ∧ addZ a b ≤ 2147483647 := capZ_bd _
theorem sumZ_bd (l : List Int) : 0 ≤ sumZ l ∧ sumZ l ≤ 2147483647 := by
  rcases List.eq_nil_or_concat l with rfl | ⟨l', x, rfl⟩
  · decide
  · rw [List.concat_eq_append, sumZ_snoc]; exact addZ_bd _ _
theorem freeZ_bd (t : Tab) (p : Int) : 0 ≤ freeZ t p ∧ freeZ t p ≤ 2147483647 := by
  unfold freeZ
  split
  · decide
  · split
    · exact sumZ_bd _
    · decide
theorem waitZ_bd (t : Tab) (p : Int) : 0 ≤ waitZ t p ∧ waitZ t p ≤ 2147483647 := by
  unfold waitZ
  split
  · exact freeZ_bd t p
  · exact sumZ_bd _
set_option maxHeartbeats 8000000 in
set_option maxRecDepth 100000 in
theorem rwait_any (T : Array Value) (t : Tab) (p : Int) (w : World) (hT : IsTab w T t) :
    Calls Try.prog 30 #[.agg T, .int .i64 p] w fun e w' => e = .returned (.int .i64 (waitZ t p)) ∧ Below w.heap.size w w' := by
  haveI : Sz131 T := ⟨hT.size⟩
  have HT : Hid (∀ w', Below w.heap.size w w' → IsTab w' T t) := Lib.hid fun w' hb => hT.below hb (Nat.le_refl _)
  obtain ⟨ra, rcap, t114, _, hl64⟩ := hT.rails
  have t130 : T[130]? = some (.int .i64 t.share) := by obtain ⟨g, d, r, b, rfl, _⟩ := hT; rw [arrF_get _ _ _ (by omega)]; rfl
  clear hT
  obtain ⟨R, hR⟩ : ∃ R, waitZ t p = R := ⟨_, rfl⟩
  have hw : waitZ t p = if freeZ t p = 0 ∨ t.ra.length = 0 then freeZ t p else sumZ [mulZ (sumZ [t.share, 1]) (sumZ [overZ t, freeZ t p, 2]), t.share] := rfl
  obtain ⟨f, hf⟩ : ∃ f, freeZ t p = f := ⟨_, rfl⟩
  have HF : Hid (∀ w', Below w.heap.size w w' → Calls Try.prog 24 #[.agg T, .int .i64 p] w' fun e w'' => e = .returned (.int .i64 f) ∧ Below w'.heap.size w' w'') := Lib.hid fun w' h => by rw [← hf]; exact rfree_any T t p w' (HT.out _ h)
  obtain ⟨ov, hov⟩ : ∃ ov, overZ t = ov := ⟨_, rfl⟩
  have HO : Hid (∀ w', Below w.heap.size w w' → Calls Try.prog 57 #[.agg T] w' fun e w'' => e = .returned (.int .i64 ov) ∧ Below w'.heap.size w' w'') := Lib.hid fun w' h => by rw [← hov]; exact rover_any T t w' (HT.out _ h)
  rw [hR, hf, hov] at hw
  rw [hR]
  clear hR hf hov
  generalize t.share = sh at *
  by_cases hz : t.ra.length = 0
  · rw [if_pos (.inr hz)] at hw
    subst hw
    rw [hz] at t114
    clear hz
    cases h1 : (R == 0)
    all_goals
      go_enter Try.func30, Try.ntmps30
      go_wp2_with (first | (refine l_ltab rfl rfl rfl ?_; go_simp) | (go_at_call 24; refine (Up.run (HF.out _ (by (repeat' (first | (with_reducible exact Below.refl _ _) | (with_reducible assumption) | (with_reducible refine Below.setCell ?_ ?_ _) | (with_reducible refine Below.alloc ?_ ?_ _) | (with_reducible refine Below.drew ?_) | (with_reducible refine Up.base _ ?_ ?_) | (with_reducible exact LeSize.out) | exact LeSize.out | exact Nat.le_add_right_of_le LeSize.out | exact Nat.le_add_right_of_le (Nat.le_add_right_of_le LeSize.out) | (with_reducible exact Nat.le_refl _) | (simp; done) | (simp; omega)))))).mono ?_; rintro e w' ⟨rfl, uf, rfl⟩))
      go_ret
      exact ⟨rfl, by (repeat' (first | (with_reducible exact Below.refl _ _) | (with_reducible assumption) | (with_reducible refine Below.setCell ?_ ?_ _) | (with_reducible refine Below.alloc ?_ ?_ _) | (with_reducible refine Below.drew ?_) | (with_reducible refine Up.base _ ?_ ?_) | (with_reducible exact LeSize.out) | exact LeSize.out | exact Nat.le_add_right_of_le LeSize.out | exact Nat.le_add_right_of_le (Nat.le_add_right_of_le LeSize.out) | (with_reducible exact Nat.le_refl _) | (simp; done) | (simp; omega)))⟩
  have hz' : ((t.ra.length : Int) == 0) = false := beq_eq_false_iff_ne.2 (by omega)
  by_cases hf0 : f = 0
  · rw [if_pos (.inl hf0)] at hw
    subst hw
    have h1 : (R == 0) = true := by simp [hf0]
    have hR0 := Lib.hid hf0
    clear hz hf0
    go_enter Try.func30, Try.ntmps30
    go_wp2_with (first | (refine l_ltab rfl rfl rfl ?_; go_simp) | (go_at_call 24; refine (Up.run (HF.out _ (by (repeat' (first | (with_reducible exact Below.refl _ _) | (with_reducible assumption) | (with_reducible refine Below.setCell ?_ ?_ _) | (with_reducible refine Below.alloc ?_ ?_ _) | (with_reducible refine Below.drew ?_) | (with_reducible refine Up.base _ ?_ ?_) | (with_reducible exact LeSize.out) | exact LeSize.out | exact Nat.le_add_right_of_le LeSize.out | exact Nat.le_add_right_of_le (Nat.le_add_right_of_le LeSize.out) | (with_reducible exact Nat.le_refl _) | (simp; done) | (simp; omega)))))).mono ?_; rintro e w' ⟨rfl, uf, rfl⟩))
    go_ret
    exact ⟨rfl, by (repeat' (first | (with_reducible exact Below.refl _ _) | (with_reducible assumption) | (with_reducible refine Below.setCell ?_ ?_ _) | (with_reducible refine Below.alloc ?_ ?_ _) | (with_reducible refine Below.drew ?_) | (with_reducible refine Up.base _ ?_ ?_) | (with_reducible exact LeSize.out) | exact LeSize.out | exact Nat.le_add_right_of_le LeSize.out | exact Nat.le_add_right_of_le (Nat.le_add_right_of_le LeSize.out) | (with_reducible exact Nat.le_refl _) | (simp; done) | (simp; omega)))⟩
  · rw [if_neg (by simp [hz, hf0])] at hw
    have HR := Lib.hid hw.symm
    have h1 : (f == 0) = false := beq_eq_false_iff_ne.2 hf0
    clear hz hf0 hw
    go_enter Try.func30, Try.ntmps30
    go_wp2_with (first | (refine l_ltab rfl rfl rfl ?_; go_simp) | (go_at_call 24; refine (Up.run (HF.out _ (by (repeat' (first | (with_reducible exact Below.refl _ _) | (with_reducible assumption) | (with_reducible refine Below.setCell ?_ ?_ _) | (with_reducible refine Below.alloc ?_ ?_ _) | (with_reducible refine Below.drew ?_) | (with_reducible refine Up.base _ ?_ ?_) | (with_reducible exact LeSize.out) | exact LeSize.out | exact Nat.le_add_right_of_le LeSize.out | exact Nat.le_add_right_of_le (Nat.le_add_right_of_le LeSize.out) | (with_reducible exact Nat.le_refl _) | (simp; done) | (simp; omega)))))).mono ?_; rintro e w' ⟨rfl, uf, rfl⟩))
    (refine wp_region_noPanic ?_; refine wp_region_envF [] [0, 1, 2, 3, 4, 5, 6, 7, 8, 9, 10, 11, 12, 13] [14] [2, 7, 12] [(3, 2), (8, 7), (13, 12)] noRc (by kernel_rfl) (by kernel_rfl) (fun _ _ _ _ _ h => (h : False).elim) noRc_stable ?_; simp only [pickO, List.filterMap_cons, List.filterMap_nil, List.getElem?_cons_succ, List.getElem?_cons_zero]; refine wpAddr_nil ?_)
    (repeat (first | (refine wpEH_skip rfl rfl ?_; simp only [Act.put, List.setIfInBounds_toArray, List.set_cons_succ, List.set_cons_zero]) | (refine wpEH_want rfl rfl ?_; intro Z hZs hZi hZn K hK; (first | (go_big_quiet_op; (first | go_big_quiet_on | go_big_quiet_call ((first | fail))))); clear hZs hZi hZn Z)))
    (refine wpEH_build 2 (.cells #[.int .i64 sh, .int .i64 1] 3) rfl rfl (fun w => (by simp [go_sem] <;> rfl)) ?_; intro q2 p2 hq2 hp2; simp only [Act.put, List.setIfInBounds_toArray, List.set_cons_succ, List.set_cons_zero])
    (repeat (first | (refine wpEH_skip rfl rfl ?_; simp only [Act.put, List.setIfInBounds_toArray, List.set_cons_succ, List.set_cons_zero]) | (refine wpEH_want rfl rfl ?_; intro Z hZs hZi hZn K hK; (first | (refine z_ltab rfl rfl ?_; simp only [Act.put, List.setIfInBounds_toArray, List.set_cons_succ, List.set_cons_zero]; go_big_quiet_on) | (go_big_quiet_op; (first | go_big_quiet_on | go_big_quiet_call ((first | (go_at_call 53; exact UpZ.pure (vsum_any _ _ [sh, 1] _ (by simp) (ints_built [sh, 1] (hp2 _ (env_at (h := 2) (hZi _ (UpZ.z _)) rfl rfl))))) | (go_at_call 57; exact UpZ.calls hZs (HO.out _ (by (repeat' (first | (with_reducible exact Below.refl _ _) | (with_reducible assumption) | (with_reducible refine Below.setCell ?_ ?_ _) | (with_reducible refine Below.alloc ?_ ?_ _) | (with_reducible refine Below.drew ?_) | (with_reducible refine Up.base _ ?_ ?_) | (with_reducible exact LeSize.out) | exact LeSize.out | exact Nat.le_add_right_of_le LeSize.out | exact Nat.le_add_right_of_le (Nat.le_add_right_of_le LeSize.out) | (with_reducible exact Nat.le_refl _) | (simp; done) | (simp; omega)))))) | fail))))); clear hZs hZi hZn Z)))
    (refine wpEH_build 3 (.cells #[.int .i64 ov, .int .i64 f, .int .i64 2] 3) rfl rfl (fun w => (by simp [go_sem] <;> rfl)) ?_; intro q7 p7 hq7 hp7; simp only [Act.put, List.setIfInBounds_toArray, List.set_cons_succ, List.set_cons_zero])
    (repeat (first | (refine wpEH_skip rfl rfl ?_; simp only [Act.put, List.setIfInBounds_toArray, List.set_cons_succ, List.set_cons_zero]) | (refine wpEH_want rfl rfl ?_; intro Z hZs hZi hZn K hK; (first | (go_big_quiet_op; (first | go_big_quiet_on | go_big_quiet_call ((first | (go_at_call 53; exact UpZ.pure (vsum_any _ _ [ov, f, 2] _ (by simp) (ints_built [ov, f, 2] (hp7 _ (env_at (h := 7) (hZi _ (UpZ.z _)) rfl rfl))))) | (go_at_call 56; exact UpZ.pure (zmul_any _ _ _)) | fail))))); clear hZs hZi hZn Z)))
    (refine wpEH_build 2 (.cells #[.int .i64 (mulZ (sumZ [sh, 1]) (sumZ [ov, f, 2])), .int .i64 sh] 3) rfl rfl (fun w => (by simp [go_sem] <;> rfl)) ?_; intro q12 p12 hq12 hp12; simp only [Act.put, List.setIfInBounds_toArray, List.set_cons_succ, List.set_cons_zero])
    (repeat (first | (refine wpEH_skip rfl rfl ?_; simp only [Act.put, List.setIfInBounds_toArray, List.set_cons_succ, List.set_cons_zero]) | (refine wpEH_want rfl rfl ?_; intro Z hZs hZi hZn K hK; (first | (go_big_quiet_op; (first | go_big_quiet_on | go_big_quiet_call ((first | (go_at_call 53; exact UpZ.pure (vsum_any _ _ [mulZ (sumZ [sh, 1]) (sumZ [ov, f, 2]), sh] _ (by simp) (ints_built [mulZ (sumZ [sh, 1]) (sumZ [ov, f, 2]), sh] (hp12 _ (env_at (h := 12) (hZi _ (UpZ.z _)) rfl rfl))))) | fail))))); clear hZs hZi hZn Z)))
    (refine wpEH_nil ?_; intro u hinv; clear hinv; go_simp)
    go_wp2
    refine NoPanic.normal ?_
    go_wp2
    go_ret
    exact ⟨ret_int HR.out, by (repeat' (first | (with_reducible exact Below.refl _ _) | (with_reducible assumption) | (with_reducible refine Below.setCell ?_ ?_ _) | (with_reducible refine Below.alloc ?_ ?_ _) | (with_reducible refine Below.drew ?_) | (with_reducible refine Up.base _ ?_ ?_) | (with_reducible exact LeSize.out) | exact LeSize.out | exact Nat.le_add_right_of_le LeSize.out | exact Nat.le_add_right_of_le (Nat.le_add_right_of_le LeSize.out) | (with_reducible exact Nat.le_refl _) | (simp; done) | (simp; omega)))⟩
end Go.Proofs.Ytbnbakienajhmaa
