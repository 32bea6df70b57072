/- The walks of 'awake' and of the law LevelAll. -/
import Derived.Test.YtmfhcmnipkokmaaLevA
namespace Go.Proofs.Ytmfhcmnipkokmaa
open Go.ChangeShapes Go.WideShapes Go.ChangeAt Go.RowKit
set_option linter.unusedVariables false

set_option maxHeartbeats 1000000 in
theorem awake_any (w : World) :
    Calls Try.prog 13 #[] w fun e w' => e = .returned (.bool true) ∧ Below w.heap.size w w' := by
  have e1 : levM 4617315517961601024 4611686018427387904 false 0 4618441417868443648 = (true, 0) := by decide +kernel
  have e2 : levM 4617315517961601024 4611686018427387904 true 0 4611686018427387904 = (false, 0) := by decide +kernel
  have e3 : seenM true 0 = true := by decide
  have e4 : seenM false 0 = false := by decide
  go_enter Try.func13, Try.ntmps13
  go_wp2_with (first
    | (go_at_call 7; refine (Up.run (step_any _ _ _ _ _ _ _ _ _ _ _)).mono ?_; rintro e w' ⟨rfl, u, rfl⟩)
    | (go_at_call 11; refine (Up.run (seen_any _ _ _)).mono ?_; rintro e w' ⟨rfl, u, rfl⟩)
    | (go_at_call 9; refine (Up.run (failed_any _ _ _)).mono ?_; rintro e w' ⟨rfl, u, rfl⟩))
  go_ret
  exact ⟨rfl, by (repeat' (first | (with_reducible exact Below.refl _ _) | (with_reducible assumption) | (with_reducible refine Below.setCell ?_ ?_ _) | (with_reducible refine Below.alloc ?_ ?_ _) | (with_reducible refine Below.drew ?_) | (with_reducible refine Up.base _ ?_ ?_) | (with_reducible exact LeSize.out) | exact LeSize.out | exact Nat.le_add_right_of_le LeSize.out | exact Nat.le_add_right_of_le (Nat.le_add_right_of_le LeSize.out) | (with_reducible exact Nat.le_refl _) | (simp; done) | (simp; omega)))⟩

set_option maxHeartbeats 1000000 in
theorem levelAll_walk (p : Int) (don doff dd de : Nat) (mon mof : Int) (on : Bool) (bad : Int) (x : Nat) (w : World)
    (_ : InKind .i64 p) (_ : don < 18446744073709551616) (_ : doff < 18446744073709551616) (_ : dd < 18446744073709551616) (_ : de < 18446744073709551616) (_ : InKind .i64 mon) (_ : InKind .i64 mof) (_ : InKind .i64 bad) (_ : x < 18446744073709551616) :
    Calls Try.prog 3 #[.agg #[.int .i64 p, .float .f64 don, .float .f64 doff, .float .f64 dd, .float .f64 de, .int .i64 mon, .int .i64 mof], .agg #[.bool on, .int .i64 bad], .float .f64 x] w
      fun e w' => e = .returned (.bool true) ∧ Below w.heap.size w w' := by
  go_enter Try.func3, Try.ntmps3
  go_wp2_with (first
    | (go_at_call 7; refine (Up.run (step_any _ _ _ _ _ _ _ _ _ _ _)).mono ?_; rintro e w' ⟨rfl, u, rfl⟩))
  (refine wp_region_up (by kernel_rfl) (by kernel_rfl) ?_; (repeat (go_big_quiet_step ((first | (go_at_call 8; exact Up.calls (rstep_any _ _ _ _ _ _ _ _ _ _ _)) | (go_at_call 9; exact Up.calls (failed_any _ _ _)) | (go_at_call 10; exact Up.calls (rfailed_any _ _ _)) | (go_at_call 11; exact Up.calls (seen_any _ _ _)) | (go_at_call 12; exact Up.calls (rseen_any _ _ _)) | (go_at_call 13; exact Up.calls (awake_any _)) | fail)))); refine wpQuiet_nil ?_; rintro _ ⟨u, rfl⟩)
  go_wp2
  go_ret
  exact ⟨rfl, by (repeat' (first | (with_reducible exact Below.refl _ _) | (with_reducible assumption) | (with_reducible refine Below.setCell ?_ ?_ _) | (with_reducible refine Below.alloc ?_ ?_ _) | (with_reducible refine Below.drew ?_) | (with_reducible refine Up.base _ ?_ ?_) | (with_reducible exact LeSize.out) | exact LeSize.out | exact Nat.le_add_right_of_le LeSize.out | exact Nat.le_add_right_of_le (Nat.le_add_right_of_le LeSize.out) | (with_reducible exact Nat.le_refl _) | (simp; done) | (simp; omega)))⟩
theorem arr2 (cs : Array Value) (h : cs.size = 2) : ∃ c0 c1, cs = #[c0, c1] := by
  obtain ⟨l⟩ := cs
  match l, h with
  | [c0, c1], _ => exact ⟨c0, c1, rfl⟩
theorem arr7 (cs : Array Value) (h : cs.size = 7) : ∃ c0 c1 c2 c3 c4 c5 c6, cs = #[c0, c1, c2, c3, c4, c5, c6] := by
  obtain ⟨l⟩ := cs
  match l, h with
  | [c0, c1, c2, c3, c4, c5, c6], _ => exact ⟨c0, c1, c2, c3, c4, c5, c6, rfl⟩
abbrev tsLevelAll0 : List TypeId := [3, 22, 22, 22, 22, 3, 3]
abbrev tsLevelAll1 : List TypeId := [4, 3]
set_option maxRecDepth 100000 in
theorem LevelAll_lifted (os : Os) (started : os.Started) (H : Type) (enc : TypeId × Value → H) :
    ReturnsInHanded {} Try.checked os 3 .any (Rows.levelAllSpec.pre6 enc Try.prog Try.f3 Rows.levelAllRow.domain false) (Rows.levelAllSpec.post enc Try.prog Try.f3 false true false false) := by
  refine returnsInHanded_of_change (C := Try.checked) own started (by kernel_rfl) Try.func3
    (ChangeSpec.witness6 (enc := enc) (C := Try.checked) false ⟨#[], #[.agg #[.int .i64 0, .float .f64 0, .float .f64 0, .float .f64 0, .float .f64 0, .int .i64 0, .int .i64 0], .agg #[.bool false, .int .i64 0], .float .f64 0], []⟩ 8 (by kernel_rfl) (by kernel_rfl) (by kernel_rfl) (by kernel_rfl)) ?_
  intro W base args ds gs before hval0 hW hcnd _
  have hval : ∀ (j : Nat) t v, Try.f3.params[j]? = some t → args[j]? = some v → Value.okWide Try.prog W .any base t v := hval0
  have hW' := hW
  obtain ⟨p, q, hA0, hV, rfl, hfz, hnd⟩ := hW
  have hA : DataW.TrodAll enc Try.prog W 0 (fun _ => true) true Try.f3.params.toList args.toList ds p := hA0
  rw [Try.params3] at hA hval
  obtain ⟨v0, vs0, d0, ds0, p0, q0, hargs, rfl, rfl, h0, r0⟩ := trodAll_cons hA
  obtain ⟨v1, vs1, d1, ds1, p1, q1, rfl, rfl, rfl, h1, r1⟩ := trodAll_cons r0
  obtain ⟨v2, vs2, d2, ds2, p2, q2, rfl, rfl, rfl, h2, r2⟩ := trodAll_cons r1
  obtain ⟨rfl, rfl, rfl⟩ := trodAll_nil r2
  obtain rfl : args = #[v0, v1, v2] := by cases args; simp_all
  obtain ⟨rfl, rfl⟩ := trodVars_none hV
  have k0 := h0
  have lt0 : ∀ x ∈ p0, x.block < W.heap.size := by obtain ⟨m, hm⟩ := k0; exact DataW.trod_lt m _ _ _ hm
  have k1 := h1
  have lt1 : ∀ x ∈ p1, x.block < W.heap.size := by obtain ⟨m, hm⟩ := k1; exact DataW.trod_lt m _ _ _ hm
  have k2 := h2
  have lt2 : ∀ x ∈ p2, x.block < W.heap.size := by obtain ⟨m, hm⟩ := k2; exact DataW.trod_lt m _ _ _ hm
  obtain ⟨cs0, rfl, hs0, hf0⟩ := open_flat (ts := tsLevelAll0) (by rw [Try.underlying24]) (by kernel_rfl) (by kernel_rfl) (hval 0 24 v0 rfl rfl)
  obtain ⟨e0_0, e0_1, e0_2, e0_3, e0_4, e0_5, e0_6, rfl⟩ := arr7 cs0 hs0
  obtain ⟨a0_0, rfl, w0_0⟩ := Fit.int (t := 3) (v := e0_0) (hf0 0 (by simp)) Try.underlying3
  obtain ⟨a0_1, rfl, w0_1⟩ := Fit.float (t := 22) (v := e0_1) (hf0 1 (by simp)) Try.underlying22
  obtain ⟨a0_2, rfl, w0_2⟩ := Fit.float (t := 22) (v := e0_2) (hf0 2 (by simp)) Try.underlying22
  obtain ⟨a0_3, rfl, w0_3⟩ := Fit.float (t := 22) (v := e0_3) (hf0 3 (by simp)) Try.underlying22
  obtain ⟨a0_4, rfl, w0_4⟩ := Fit.float (t := 22) (v := e0_4) (hf0 4 (by simp)) Try.underlying22
  obtain ⟨a0_5, rfl, w0_5⟩ := Fit.int (t := 3) (v := e0_5) (hf0 5 (by simp)) Try.underlying3
  obtain ⟨a0_6, rfl, w0_6⟩ := Fit.int (t := 3) (v := e0_6) (hf0 6 (by simp)) Try.underlying3
  obtain ⟨cs1, rfl, hs1, hf1⟩ := open_flat (ts := tsLevelAll1) (by rw [Try.underlying26]) (by kernel_rfl) (by kernel_rfl) (hval 1 26 v1 rfl rfl)
  obtain ⟨e1_0, e1_1, rfl⟩ := arr2 cs1 hs1
  obtain ⟨a1_0, rfl⟩ := Fit.bool (t := 4) (v := e1_0) (hf1 0 (by simp)) Try.underlying4
  obtain ⟨a1_1, rfl, w1_1⟩ := Fit.int (t := 3) (v := e1_1) (hf1 1 (by simp)) Try.underlying3
  obtain ⟨a2, rfl, w2⟩ := open_float1 Try.underlying22 (hval 2 22 v2 rfl rfl)
  clear hA0 hval0
  refine (levelAll_walk a0_0 a0_1 a0_2 a0_3 a0_4 a0_5 a0_6 a1_0 a1_1 a2 W w0_0 w0_1 w0_2 w0_3 w0_4 w0_5 w0_6 w1_1 w2).mono fun e W' ⟨he, bel⟩ => ?_
  subst he
  exact ⟨_, rfl, _, _, _, [], _, [], hW', trodAll_mk1 (shut_bool Try.underlying4 _), (trodAll_cons_mk (Below.trod laidOut (by kernel_rfl) (of_decide_eq_true (by kernel_rfl)) k0 bel lt0) (trodAll_cons_mk (Below.trod laidOut (by kernel_rfl) (of_decide_eq_true (by kernel_rfl)) k1 bel lt1) (trodAll_cons_mk (Below.trod laidOut (by kernel_rfl) (of_decide_eq_true (by kernel_rfl)) k2 bel lt2) trodAll_mk0))), rfl, bel.frame _, fun h => by cases h⟩

theorem LevelAll_over : Rows.levelAllRow.holds Try.pinned (OpenSpec.ofChange Rows.levelAllSpec) :=
  OpenClaim.holds_of_wide 3 Try.f3 rfl rfl rfl rfl rfl rfl rfl ⟨rfl, rfl, rfl, rfl, rfl⟩ rfl rfl rfl rfl rfl (by kernel_rfl) Try.func3 (by kernel_rfl)
    (of_decide_eq_true (by kernel_rfl)) (by unfold Func.isWrapper; first | (rw [if_pos (by decide +kernel)]; kernel_rfl) | (rw [if_neg (by decide +kernel)]; exact ⟨rfl, rfl⟩))
    (fun os started H enc _ => LevelAll_lifted os started H enc)

/-- The given statement. -/
theorem LevelAll_holds : Rows.LevelAllSaid := LevelAll_over
#print axioms LevelAll_holds
end Go.Proofs.Ytmfhcmnipkokmaa
