/- The law DiagEnd: the walk, and the given statement. -/
import Derived.Test.YtiieckcghjhdeaaDiaA
import Derived.Test.YtiieckcghjhdeaaBits
namespace Go.Proofs.Ytiieckcghjhdeaa
open Go.ChangeShapes Go.WideShapes Go.ChangeAt Go.RowKit
set_option linter.unusedVariables false

theorem moreM_top {n : Int} (h : 9999 ≤ n) : moreM n = 10000 := by unfold moreM; omega
set_option maxHeartbeats 1000000 in
theorem diagEnd_walk (on off : Int) (most : Int) (b : Bool) (w : World) (_ : InKind .i64 on) (_ : InKind .i64 off) (_ : InKind .i64 most) :
    Calls Try.prog 6 #[.agg #[.int .i64 on, .int .i64 off], .int .i64 most, .bool b] w fun e w' => e = .returned (.bool true) ∧ Below w.heap.size w w' := by
  have o1 : bits .and .i64 on 1 = on % 2 := and_mask on 1 (by decide)
  have o2 : bits .and .i64 off 1 = off % 2 := and_mask off 1 (by decide)
  have o3 : 0 ≤ on % 2 := Int.emod_nonneg _ (by decide)
  have o4 : on % 2 < 2 := Int.emod_lt_of_pos _ (by decide)
  have o5 : 0 ≤ off % 2 := Int.emod_nonneg _ (by decide)
  have o6 : off % 2 < 2 := Int.emod_lt_of_pos _ (by decide)
  generalize on % 2 = A at *
  generalize off % 2 = B at *
  have hM0 : 0 ≤ most % 9999 := Int.emod_nonneg _ (by decide)
  have hM1 : most % 9999 < 9999 := Int.emod_lt_of_pos _ (by decide)
  have m3 : moreM 10000 = 10000 := by decide
  cases b
  · have m1 : wOn (9999 + A) false = 0 := rfl
    have m2 : wOff (9999 + B) false = 10000 := moreM_top (by omega)
    have m4 : wOn 0 false = 0 := rfl
    have m5 : wOff 10000 false = 10000 := by decide
    have ms : stuckM (1 + most % 9999) (1 + most % 9999) 0 10000 = true := by unfold stuckM; simp; omega
    have MS := Lib.hid ms
    clear ms
    go_enter Try.func6, Try.ntmps6
    go_wp2_with (go_at_call 12; refine (place_any _ _ _ (by omega) (by omega)).mono ?_; rintro e w' ⟨rfl, rfl⟩)
    have ms := MS.out
    generalize most % 9999 = M at *
    go_wp2_with (first
    | (go_at_call 7; refine (Up.run (step_any _ _ _ _)).mono ?_; rintro e w' ⟨rfl, u, rfl⟩)
    | (go_at_call 9; refine (Up.run (stuck_any _ _ _ _ _)).mono ?_; rintro e w' ⟨rfl, u, rfl⟩)
    | (go_at_call 11; refine (Up.run (awake_any _)).mono ?_; rintro e w' ⟨rfl, u, rfl⟩))
    go_ret
    exact ⟨rfl, by (repeat' (first | (with_reducible exact Below.refl _ _) | (with_reducible assumption) | (with_reducible refine Below.setCell ?_ ?_ _) | (with_reducible refine Below.alloc ?_ ?_ _) | (with_reducible refine Below.drew ?_) | (with_reducible refine Up.base _ ?_ ?_) | (with_reducible exact LeSize.out) | exact LeSize.out | exact Nat.le_add_right_of_le LeSize.out | exact Nat.le_add_right_of_le (Nat.le_add_right_of_le LeSize.out) | (with_reducible exact Nat.le_refl _) | (simp; done) | (simp; omega)))⟩
  · have m1 : wOn (9999 + A) true = 10000 := moreM_top (by omega)
    have m2 : wOff (9999 + B) true = 0 := rfl
    have m4 : wOff 0 true = 0 := rfl
    have m5 : wOn 10000 true = 10000 := by decide
    have ms : stuckM (1 + most % 9999) (1 + most % 9999) 10000 0 = true := by unfold stuckM; simp; omega
    have MS := Lib.hid ms
    clear ms
    go_enter Try.func6, Try.ntmps6
    go_wp2_with (go_at_call 12; refine (place_any _ _ _ (by omega) (by omega)).mono ?_; rintro e w' ⟨rfl, rfl⟩)
    have ms := MS.out
    generalize most % 9999 = M at *
    go_wp2_with (first
    | (go_at_call 7; refine (Up.run (step_any _ _ _ _)).mono ?_; rintro e w' ⟨rfl, u, rfl⟩)
    | (go_at_call 9; refine (Up.run (stuck_any _ _ _ _ _)).mono ?_; rintro e w' ⟨rfl, u, rfl⟩)
    | (go_at_call 11; refine (Up.run (awake_any _)).mono ?_; rintro e w' ⟨rfl, u, rfl⟩))
    go_ret
    exact ⟨rfl, by (repeat' (first | (with_reducible exact Below.refl _ _) | (with_reducible assumption) | (with_reducible refine Below.setCell ?_ ?_ _) | (with_reducible refine Below.alloc ?_ ?_ _) | (with_reducible refine Below.drew ?_) | (with_reducible refine Up.base _ ?_ ?_) | (with_reducible exact LeSize.out) | exact LeSize.out | exact Nat.le_add_right_of_le LeSize.out | exact Nat.le_add_right_of_le (Nat.le_add_right_of_le LeSize.out) | (with_reducible exact Nat.le_refl _) | (simp; done) | (simp; omega)))⟩

abbrev tsDiagEnd0 : List TypeId := [3, 3]
set_option maxRecDepth 100000 in
theorem DiagEnd_lifted (os : Os) (started : os.Started) (H : Type) (enc : TypeId × Value → H) :
    ReturnsInHanded {} Try.checked os 6 .any (Rows.diagEndSpec.pre6 enc Try.prog Try.f6 Rows.diagEndRow.domain false) (Rows.diagEndSpec.post enc Try.prog Try.f6 false true false false) := by
  refine returnsInHanded_of_change (C := Try.checked) own started (by kernel_rfl) Try.func6
    (ChangeSpec.witness6 (enc := enc) (C := Try.checked) false ⟨#[], #[.agg #[.int .i64 0, .int .i64 0], .int .i64 0, .bool false], []⟩ 8 (by kernel_rfl) (by kernel_rfl) (by kernel_rfl) (by kernel_rfl)) ?_
  intro W base args ds gs before hval0 hW hcnd _
  have hval : ∀ (j : Nat) t v, Try.f6.params[j]? = some t → args[j]? = some v → Value.okWide Try.prog W .any base t v := hval0
  have hW' := hW
  obtain ⟨p, q, hA0, hV, rfl, hfz, hnd⟩ := hW
  have hA : DataW.TrodAll enc Try.prog W 0 (fun _ => true) true Try.f6.params.toList args.toList ds p := hA0
  rw [Try.params6] at hA hval
  obtain ⟨v0, vs0, d0, ds0, p0, q0, hargs, rfl, rfl, h0, r0⟩ := trodAll_cons hA
  obtain ⟨v1, vs1, d1, ds1, p1, q1, rfl, rfl, rfl, h1, r1⟩ := trodAll_cons r0
  obtain ⟨v2, vs2, d2, ds2, p2, q2, rfl, rfl, rfl, h2, r2⟩ := trodAll_cons r1
  obtain ⟨rfl, rfl, rfl⟩ := trodAll_nil r2
  obtain rfl : args = #[v0, v1, v2] := by cases args; simp_all
  obtain ⟨rfl, rfl⟩ := trodVars_none hV
  have k0 := h0
  have lt0 : ∀ x ∈ p0, x.block < W.heap.size := by obtain ⟨m, hm⟩ := k0; exact DataW.trod_lt m _ _ _ hm
  have k1 := h1
  have lt1 : ∀ x ∈ p1, x.block < W.heap.size := by obtain ⟨m, hm⟩ := k1; exact DataW.trod_lt m _ _ _ hm
  have k2 := h2
  have lt2 : ∀ x ∈ p2, x.block < W.heap.size := by obtain ⟨m, hm⟩ := k2; exact DataW.trod_lt m _ _ _ hm
  obtain ⟨cs0, rfl, hs0, hf0⟩ := open_flat (ts := tsDiagEnd0) (by rw [Try.underlying23]) (by kernel_rfl) (by kernel_rfl) (hval 0 23 v0 rfl rfl)
  obtain ⟨e0_0, e0_1, rfl⟩ := arr2 cs0 hs0
  obtain ⟨a0_0, rfl, w0_0⟩ := Fit.int (t := 3) (v := e0_0) (hf0 0 (by simp)) Try.underlying3
  obtain ⟨a0_1, rfl, w0_1⟩ := Fit.int (t := 3) (v := e0_1) (hf0 1 (by simp)) Try.underlying3
  obtain ⟨a1, rfl, w1⟩ := open_int1 Try.underlying3 (hval 1 3 v1 rfl rfl)
  obtain ⟨a2, rfl⟩ := open_bool1 Try.underlying4 (hval 2 4 v2 rfl rfl)
  clear hA0 hval0
  refine (diagEnd_walk a0_0 a0_1 a1 a2 W w0_0 w0_1 w1).mono fun e W' ⟨he, bel⟩ => ?_
  subst he
  exact ⟨_, rfl, _, _, _, [], _, [], hW', trodAll_mk1 (shut_bool Try.underlying4 _), (trodAll_cons_mk (Below.trod laidOut (by kernel_rfl) (of_decide_eq_true (by kernel_rfl)) k0 bel lt0) (trodAll_cons_mk (Below.trod laidOut (by kernel_rfl) (of_decide_eq_true (by kernel_rfl)) k1 bel lt1) (trodAll_cons_mk (Below.trod laidOut (by kernel_rfl) (of_decide_eq_true (by kernel_rfl)) k2 bel lt2) trodAll_mk0))), rfl, bel.frame _, fun h => by cases h⟩

theorem DiagEnd_over : Rows.diagEndRow.holds Try.pinned (OpenSpec.ofChange Rows.diagEndSpec) :=
  OpenClaim.holds_of_wide 6 Try.f6 rfl rfl rfl rfl rfl rfl rfl ⟨rfl, rfl, rfl, rfl, rfl⟩ rfl rfl rfl rfl rfl (by kernel_rfl) Try.func6 (by kernel_rfl)
    (of_decide_eq_true (by kernel_rfl)) (by unfold Func.isWrapper; first | (rw [if_pos (by decide +kernel)]; kernel_rfl) | (rw [if_neg (by decide +kernel)]; exact ⟨rfl, rfl⟩))
    (fun os started H enc _ => DiagEnd_lifted os started H enc)

/-- The given statement. -/
theorem DiagEnd_holds : Rows.DiagEndSaid := DiagEnd_over
#print axioms DiagEnd_holds
end Go.Proofs.Ytiieckcghjhdeaa
