/- The law LampTexts. -/
import Derived.Test.YtkfilolomjhdeaaLampD
namespace Go.Proofs.Ytkfilolomjhdeaa
open Go.ChangeShapes Go.WideShapes Go.ChangeAt Go.RowKit
set_option linter.unusedVariables false

set_option maxHeartbeats 4000000 in
theorem lampTexts_walk (x0 x1 x2 x3 x4 x5 x6 x7 : Int) (w : World) (_ : InKind .i64 x0) (_ : InKind .i64 x1) (_ : InKind .i64 x2) (_ : InKind .i64 x3) (_ : InKind .i64 x4) (_ : InKind .i64 x5) (_ : InKind .i64 x6) (_ : InKind .i64 x7) :
    Calls Try.prog 3 #[.agg #[.int .i64 x0, .int .i64 x1, .int .i64 x2, .int .i64 x3, .int .i64 x4, .int .i64 x5, .int .i64 x6, .int .i64 x7]] w fun e w' => e = .returned (.bool true) ∧ Below w.heap.size w w' := by
  go_enter Try.func3, Try.ntmps3
  go_wp2
  (refine wp_region_up (by kernel_rfl) (by kernel_rfl) ?_; (repeat (go_big_quiet_step ((first | (go_at_call 7; exact Up.calls (text_any _ [x0, x1, x2, x3, x4, x5, x6, x7] _ rfl rfl)) | (go_at_call 8; exact Up.calls (rtext_any _ [x0, x1, x2, x3, x4, x5, x6, x7] _ rfl rfl)) | (go_at_call 9; exact Up.calls (moving_any _ [x0, x1, x2, x3, x4, x5, x6, x7] _ rfl rfl)) | (go_at_call 10; exact Up.calls (rmoving_any _ [x0, x1, x2, x3, x4, x5, x6, x7] _ rfl rfl)) | (go_at_call 11; exact Up.calls (awake_any _)) | fail)))); refine wpQuiet_nil ?_; rintro _ ⟨u, rfl⟩)
  go_wp2
  go_ret
  exact ⟨rfl, by (repeat' (first | (with_reducible exact Below.refl _ _) | (with_reducible assumption) | (with_reducible refine Below.setCell ?_ ?_ _) | (with_reducible refine Below.alloc ?_ ?_ _) | (with_reducible refine Below.drew ?_) | (with_reducible refine Up.base _ ?_ ?_) | (with_reducible exact LeSize.out) | exact LeSize.out | exact Nat.le_add_right_of_le LeSize.out | exact Nat.le_add_right_of_le (Nat.le_add_right_of_le LeSize.out) | (with_reducible exact Nat.le_refl _) | (simp; done) | (simp; omega)))⟩

theorem arr8 (cs : Array Value) (h : cs.size = 8) : ∃ c0 c1 c2 c3 c4 c5 c6 c7, cs = #[c0, c1, c2, c3, c4, c5, c6, c7] := by
  obtain ⟨l⟩ := cs
  match l, h with
  | [c0, c1, c2, c3, c4, c5, c6, c7], _ => exact ⟨c0, c1, c2, c3, c4, c5, c6, c7, rfl⟩
abbrev tsLampTexts0 : List TypeId := [3, 3, 3, 3, 3, 3, 3, 3]
set_option maxRecDepth 100000 in
theorem LampTexts_lifted (os : Os) (started : os.Started) (H : Type) (enc : TypeId × Value → H) :
    ReturnsInHanded {} Try.checked os 3 .any (Rows.lampTextsSpec.pre6 enc Try.prog Try.f3 Rows.lampTextsRow.domain false) (Rows.lampTextsSpec.post enc Try.prog Try.f3 false true false false) := by
  refine returnsInHanded_of_change (C := Try.checked) own started (by kernel_rfl) Try.func3
    (ChangeSpec.witness6 (enc := enc) (C := Try.checked) false ⟨#[], #[.agg #[.int .i64 0, .int .i64 0, .int .i64 0, .int .i64 0, .int .i64 0, .int .i64 0, .int .i64 0, .int .i64 0]], []⟩ 8 (by kernel_rfl) (by kernel_rfl) (by kernel_rfl) (by kernel_rfl)) ?_
  intro W base args ds gs before hval0 hW hcnd _
  have hval : ∀ (j : Nat) t v, Try.f3.params[j]? = some t → args[j]? = some v → Value.okWide Try.prog W .any base t v := hval0
  have hW' := hW
  obtain ⟨p, q, hA0, hV, rfl, hfz, hnd⟩ := hW
  have hA : DataW.TrodAll enc Try.prog W 0 (fun _ => true) true Try.f3.params.toList args.toList ds p := hA0
  rw [Try.params3] at hA hval
  obtain ⟨v0, vs0, d0, ds0, p0, q0, hargs, rfl, rfl, h0, r0⟩ := trodAll_cons hA
  obtain ⟨rfl, rfl, rfl⟩ := trodAll_nil r0
  obtain rfl : args = #[v0] := by cases args; simp_all
  obtain ⟨rfl, rfl⟩ := trodVars_none hV
  have k0 := h0
  have lt0 : ∀ x ∈ p0, x.block < W.heap.size := by obtain ⟨m, hm⟩ := k0; exact DataW.trod_lt m _ _ _ hm
  obtain ⟨cs0, rfl, hs0, hf0⟩ := open_flat (ts := tsLampTexts0) (by rw [Try.underlying23]) (by kernel_rfl) (by kernel_rfl) (hval 0 23 v0 rfl rfl)
  obtain ⟨e0_0, e0_1, e0_2, e0_3, e0_4, e0_5, e0_6, e0_7, rfl⟩ := arr8 cs0 hs0
  obtain ⟨a0_0, rfl, w0_0⟩ := Fit.int (t := 3) (v := e0_0) (hf0 0 (by simp)) Try.underlying3
  obtain ⟨a0_1, rfl, w0_1⟩ := Fit.int (t := 3) (v := e0_1) (hf0 1 (by simp)) Try.underlying3
  obtain ⟨a0_2, rfl, w0_2⟩ := Fit.int (t := 3) (v := e0_2) (hf0 2 (by simp)) Try.underlying3
  obtain ⟨a0_3, rfl, w0_3⟩ := Fit.int (t := 3) (v := e0_3) (hf0 3 (by simp)) Try.underlying3
  obtain ⟨a0_4, rfl, w0_4⟩ := Fit.int (t := 3) (v := e0_4) (hf0 4 (by simp)) Try.underlying3
  obtain ⟨a0_5, rfl, w0_5⟩ := Fit.int (t := 3) (v := e0_5) (hf0 5 (by simp)) Try.underlying3
  obtain ⟨a0_6, rfl, w0_6⟩ := Fit.int (t := 3) (v := e0_6) (hf0 6 (by simp)) Try.underlying3
  obtain ⟨a0_7, rfl, w0_7⟩ := Fit.int (t := 3) (v := e0_7) (hf0 7 (by simp)) Try.underlying3
  clear hA0 hval0
  refine (lampTexts_walk a0_0 a0_1 a0_2 a0_3 a0_4 a0_5 a0_6 a0_7 W w0_0 w0_1 w0_2 w0_3 w0_4 w0_5 w0_6 w0_7).mono fun e W' ⟨he, bel⟩ => ?_
  subst he
  exact ⟨_, rfl, _, _, _, [], _, [], hW', trodAll_mk1 (shut_bool Try.underlying4 _), (trodAll_cons_mk (Below.trod laidOut (by kernel_rfl) (of_decide_eq_true (by kernel_rfl)) k0 bel lt0) trodAll_mk0), rfl, bel.frame _, fun h => by cases h⟩

theorem LampTexts_over : Rows.lampTextsRow.holds Try.pinned (OpenSpec.ofChange Rows.lampTextsSpec) :=
  OpenClaim.holds_of_wide 3 Try.f3 rfl rfl rfl rfl rfl rfl rfl ⟨rfl, rfl, rfl, rfl, rfl⟩ rfl rfl rfl rfl rfl (by kernel_rfl) Try.func3 (by kernel_rfl)
    (of_decide_eq_true (by kernel_rfl)) (by unfold Func.isWrapper; first | (rw [if_pos (by decide +kernel)]; kernel_rfl) | (rw [if_neg (by decide +kernel)]; exact ⟨rfl, rfl⟩))
    (fun os started H enc _ => LampTexts_lifted os started H enc)

/-- The given statement. -/
theorem LampTexts_holds : Rows.LampTextsSaid := LampTexts_over
#print axioms LampTexts_holds
end Go.Proofs.Ytkfilolomjhdeaa
