/- 'awake' of package gap's laws, and the law GapAll. -/
import Derived.Test.YtgfijjhcdbmdaaaGapB
namespace Go.Proofs.Ytgfijjhcdbmdaaa
open Go.ChangeShapes Go.WideShapes Go.ChangeAt Go.RowKit
set_option linter.unusedVariables false

def PhA : Array Value := #[.bool false, .int .i64 0, .int .i64 3, .int .i64 20, .int .i64 30, .int .i64 5, .int .i64 0, .int .i64 0, .int .i64 0, .int .i64 0, .int .i64 0, .bool false, .bool false]
theorem growA1_any (w : World) : Calls Try.prog 15 #[.agg #[.bool false, .int .i64 0, .int .i64 3, .int .i64 20, .int .i64 30, .int .i64 5, .int .i64 0, .int .i64 0, .int .i64 0, .int .i64 0, .int .i64 0, .bool false, .bool false], .agg #[.int .i64 20, .int .i64 0, .int .i64 0], .bool true] w
    fun e w' => e = .returned (.agg #[.int .i64 20, .int .i64 1, .int .i64 0]) ∧ Below w.heap.size w w' := by
  have e1 : grLim 20 30 5 20 0 0 true = 20 := by decide
  have e2 : grUp 0 true = 1 := by decide
  have e3 : grDn 0 true = 0 := by decide
  have := grow_any false 0 3 20 30 5 0 0 0 0 0 false false 20 0 0 true w (by unfold InKind; omega) (by unfold InKind; omega) (by unfold InKind; omega) (by unfold InKind; omega)
  rw [e1, e2, e3] at this
  exact this
theorem growA2_any (w : World) : Calls Try.prog 15 #[.agg #[.bool false, .int .i64 0, .int .i64 3, .int .i64 20, .int .i64 30, .int .i64 5, .int .i64 0, .int .i64 0, .int .i64 0, .int .i64 0, .int .i64 0, .bool false, .bool false], .agg #[.int .i64 20, .int .i64 1, .int .i64 0], .bool true] w
    fun e w' => e = .returned (.agg #[.int .i64 25, .int .i64 0, .int .i64 0]) ∧ Below w.heap.size w w' := by
  have e1 : grLim 20 30 5 20 1 0 true = 25 := by decide
  have e2 : grUp 1 true = 0 := by decide
  have e3 : grDn 0 true = 0 := by decide
  have := grow_any false 0 3 20 30 5 0 0 0 0 0 false false 20 1 0 true w (by unfold InKind; omega) (by unfold InKind; omega) (by unfold InKind; omega) (by unfold InKind; omega)
  rw [e1, e2, e3] at this
  exact this
set_option maxHeartbeats 2000000 in
theorem awake_any (w : World) :
    Calls Try.prog 12 #[] w fun e w' => e = .returned (.bool true) ∧ Below w.heap.size w w' := by
  have m1 : leftM 3 1 true = 3 := rfl
  have m2 : leftM 3 1 false = 0 := rfl
  have m3 : limM 20 30 25 = 25 := rfl
  go_enter Try.func12, Try.ntmps12
  go_wp2
  (refine wp_region_up_alloc 7 6 (by kernel_rfl) (by kernel_rfl) rfl rfl (fun A w => by simp only [go_sem]; rfl) ?_; intro X; simp only [List.take_succ_cons, List.take_zero, List.drop_succ_cons, List.drop_zero, List.eraseIdx_cons_succ, List.eraseIdx_cons_zero]; (repeat (first | go_big_quiet_step ((first | (go_at_call 9; exact Up.calls (gbegin_any _ _ _ _ _ _ _ _ _ _ _ _ _ _)) | (go_at_call 15; with_reducible exact Up.calls (growA1_any _)) | (go_at_call 15; with_reducible exact Up.calls (growA2_any _)) | fail)))); refine wpQuiet_nil ?_; clear X; rintro q u hq hO; (try simp at hq); have lO := laid_le hO; have hO0 := laid_cell hO 0 rfl; have hOf0 := laid_open hO 0; have hOj0 := HasCell.of hO0; have hO1 := laid_cell hO 1 rfl; have hOf1 := laid_open hO 1; have hOj1 := HasCell.of hO1; have hO2 := laid_cell hO 2 rfl; have hOf2 := laid_open hO 2; have hOj2 := HasCell.of hO2; clear hO; go_simp)
  go_wp2_with (first
    | (go_at_call 7; refine (Up.run (left_any _ _ _ _ _ _ _ _ _ _ _ _ _ _ _ _)).mono ?_; rintro e w' ⟨rfl, u, rfl⟩)
    | (go_at_call 10; refine (Up.run (limit_any _ _ _ _ _ _ _ _ _ _ _ _ _ _ _ _ _)).mono ?_; rintro e w' ⟨rfl, u, rfl⟩))
  go_ret
  exact ⟨rfl, by (repeat' (first | (with_reducible exact Below.refl _ _) | (with_reducible assumption) | (with_reducible refine Below.setCell ?_ ?_ _) | (with_reducible refine Below.alloc ?_ ?_ _) | (with_reducible refine Below.drew ?_) | (with_reducible refine Up.base _ ?_ ?_) | (with_reducible exact LeSize.out) | exact LeSize.out | exact Nat.le_add_right_of_le LeSize.out | exact Nat.le_add_right_of_le (Nat.le_add_right_of_le LeSize.out) | (with_reducible exact Nat.le_refl _) | (simp; done) | (simp; omega)))⟩
set_option maxHeartbeats 2000000 in
theorem gapAll_walk (pon : Bool) (pmin pgap pmax ptop pstep pyel pred pwalk pblinks prec : Int) (plock prest : Bool) (n : Int) (b : Bool) (lim up dn : Int) (w : World) (_ : InKind .i64 pmin) (_ : InKind .i64 pgap) (_ : InKind .i64 pmax) (_ : InKind .i64 ptop) (_ : InKind .i64 pstep) (_ : InKind .i64 pyel) (_ : InKind .i64 pred) (_ : InKind .i64 pwalk) (_ : InKind .i64 pblinks) (_ : InKind .i64 prec) (_ : InKind .i64 n) (_ : InKind .i64 lim) (_ : InKind .i64 up) (_ : InKind .i64 dn) :
    Calls Try.prog 3 #[.agg #[.bool pon, .int .i64 pmin, .int .i64 pgap, .int .i64 pmax, .int .i64 ptop, .int .i64 pstep, .int .i64 pyel, .int .i64 pred, .int .i64 pwalk, .int .i64 pblinks, .int .i64 prec, .bool plock, .bool prest], .int .i64 n, .bool b, .agg #[.int .i64 lim, .int .i64 up, .int .i64 dn]] w fun e w' => e = .returned (.bool true) ∧ Below w.heap.size w w' := by
  go_enter Try.func3, Try.ntmps3
  go_wp2
  (refine wp_region_up (by kernel_rfl) (by kernel_rfl) ?_; (repeat (first | go_big_quiet_step ((first | (go_at_call 7; exact Up.calls (left_any _ _ _ _ _ _ _ _ _ _ _ _ _ _ _ _)) | (go_at_call 8; exact Up.calls (rleft_any _ _ _ _ _ _ _ _ _ _ _ _ _ _ _ _)) | (go_at_call 9; exact Up.calls (gbegin_any _ _ _ _ _ _ _ _ _ _ _ _ _ _)) | (go_at_call 10; exact Up.calls (limit_any _ _ _ _ _ _ _ _ _ _ _ _ _ _ _ _ _)) | (go_at_call 11; exact Up.calls (rlimit_any _ _ _ _ _ _ _ _ _ _ _ _ _ _ _ _ _)) | (go_at_call 12; exact Up.calls (awake_any _)) | fail)))); refine wpQuiet_nil ?_; rintro _ ⟨u, rfl⟩)
  go_wp2
  go_ret
  exact ⟨rfl, by (repeat' (first | (with_reducible exact Below.refl _ _) | (with_reducible assumption) | (with_reducible refine Below.setCell ?_ ?_ _) | (with_reducible refine Below.alloc ?_ ?_ _) | (with_reducible refine Below.drew ?_) | (with_reducible refine Up.base _ ?_ ?_) | (with_reducible exact LeSize.out) | exact LeSize.out | exact Nat.le_add_right_of_le LeSize.out | exact Nat.le_add_right_of_le (Nat.le_add_right_of_le LeSize.out) | (with_reducible exact Nat.le_refl _) | (simp; done) | (simp; omega)))⟩

theorem arr3 (cs : Array Value) (h : cs.size = 3) : ∃ c0 c1 c2, cs = #[c0, c1, c2] := by
  obtain ⟨l⟩ := cs
  match l, h with
  | [c0, c1, c2], _ => exact ⟨c0, c1, c2, rfl⟩
theorem arr13 (cs : Array Value) (h : cs.size = 13) : ∃ c0 c1 c2 c3 c4 c5 c6 c7 c8 c9 c10 c11 c12, cs = #[c0, c1, c2, c3, c4, c5, c6, c7, c8, c9, c10, c11, c12] := by
  obtain ⟨l⟩ := cs
  match l, h with
  | [c0, c1, c2, c3, c4, c5, c6, c7, c8, c9, c10, c11, c12], _ => exact ⟨c0, c1, c2, c3, c4, c5, c6, c7, c8, c9, c10, c11, c12, rfl⟩
abbrev tsGapAll0 : List TypeId := [4, 3, 3, 3, 3, 3, 3, 3, 3, 3, 3, 4, 4]
abbrev tsGapAll3 : List TypeId := [3, 3, 3]
set_option maxRecDepth 100000 in
theorem GapAll_lifted (os : Os) (started : os.Started) (H : Type) (enc : TypeId × Value → H) :
    ReturnsInHanded {} Try.checked os 3 .any (Rows.gapAllSpec.pre6 enc Try.prog Try.f3 Rows.gapAllRow.domain false) (Rows.gapAllSpec.post enc Try.prog Try.f3 false true false false) := by
  refine returnsInHanded_of_change (C := Try.checked) own started (by kernel_rfl) Try.func3
    (ChangeSpec.witness6 (enc := enc) (C := Try.checked) false ⟨#[], #[.agg #[.bool false, .int .i64 0, .int .i64 0, .int .i64 0, .int .i64 0, .int .i64 0, .int .i64 0, .int .i64 0, .int .i64 0, .int .i64 0, .int .i64 0, .bool false, .bool false], .int .i64 0, .bool false, .agg #[.int .i64 0, .int .i64 0, .int .i64 0]], []⟩ 8 (by kernel_rfl) (by kernel_rfl) (by kernel_rfl) (by kernel_rfl)) ?_
  intro W base args ds gs before hval0 hW hcnd _
  have hval : ∀ (j : Nat) t v, Try.f3.params[j]? = some t → args[j]? = some v → Value.okWide Try.prog W .any base t v := hval0
  have hW' := hW
  obtain ⟨p, q, hA0, hV, rfl, hfz, hnd⟩ := hW
  have hA : DataW.TrodAll enc Try.prog W 0 (fun _ => true) true Try.f3.params.toList args.toList ds p := hA0
  rw [Try.params3] at hA hval
  obtain ⟨v0, vs0, d0, ds0, p0, q0, hargs, rfl, rfl, h0, r0⟩ := trodAll_cons hA
  obtain ⟨v1, vs1, d1, ds1, p1, q1, rfl, rfl, rfl, h1, r1⟩ := trodAll_cons r0
  obtain ⟨v2, vs2, d2, ds2, p2, q2, rfl, rfl, rfl, h2, r2⟩ := trodAll_cons r1
  obtain ⟨v3, vs3, d3, ds3, p3, q3, rfl, rfl, rfl, h3, r3⟩ := trodAll_cons r2
  obtain ⟨rfl, rfl, rfl⟩ := trodAll_nil r3
  obtain rfl : args = #[v0, v1, v2, v3] := by cases args; simp_all
  obtain ⟨rfl, rfl⟩ := trodVars_none hV
  have k0 := h0
  have lt0 : ∀ x ∈ p0, x.block < W.heap.size := by obtain ⟨m, hm⟩ := k0; exact DataW.trod_lt m _ _ _ hm
  have k1 := h1
  have lt1 : ∀ x ∈ p1, x.block < W.heap.size := by obtain ⟨m, hm⟩ := k1; exact DataW.trod_lt m _ _ _ hm
  have k2 := h2
  have lt2 : ∀ x ∈ p2, x.block < W.heap.size := by obtain ⟨m, hm⟩ := k2; exact DataW.trod_lt m _ _ _ hm
  have k3 := h3
  have lt3 : ∀ x ∈ p3, x.block < W.heap.size := by obtain ⟨m, hm⟩ := k3; exact DataW.trod_lt m _ _ _ hm
  obtain ⟨cs0, rfl, hs0, hf0⟩ := open_flat (ts := tsGapAll0) (by rw [Try.underlying23]) (by kernel_rfl) (by kernel_rfl) (hval 0 23 v0 rfl rfl)
  obtain ⟨e0_0, e0_1, e0_2, e0_3, e0_4, e0_5, e0_6, e0_7, e0_8, e0_9, e0_10, e0_11, e0_12, rfl⟩ := arr13 cs0 hs0
  obtain ⟨a0_0, rfl⟩ := Fit.bool (t := 4) (v := e0_0) (hf0 0 (by simp)) Try.underlying4
  obtain ⟨a0_1, rfl, w0_1⟩ := Fit.int (t := 3) (v := e0_1) (hf0 1 (by simp)) Try.underlying3
  obtain ⟨a0_2, rfl, w0_2⟩ := Fit.int (t := 3) (v := e0_2) (hf0 2 (by simp)) Try.underlying3
  obtain ⟨a0_3, rfl, w0_3⟩ := Fit.int (t := 3) (v := e0_3) (hf0 3 (by simp)) Try.underlying3
  obtain ⟨a0_4, rfl, w0_4⟩ := Fit.int (t := 3) (v := e0_4) (hf0 4 (by simp)) Try.underlying3
  obtain ⟨a0_5, rfl, w0_5⟩ := Fit.int (t := 3) (v := e0_5) (hf0 5 (by simp)) Try.underlying3
  obtain ⟨a0_6, rfl, w0_6⟩ := Fit.int (t := 3) (v := e0_6) (hf0 6 (by simp)) Try.underlying3
  obtain ⟨a0_7, rfl, w0_7⟩ := Fit.int (t := 3) (v := e0_7) (hf0 7 (by simp)) Try.underlying3
  obtain ⟨a0_8, rfl, w0_8⟩ := Fit.int (t := 3) (v := e0_8) (hf0 8 (by simp)) Try.underlying3
  obtain ⟨a0_9, rfl, w0_9⟩ := Fit.int (t := 3) (v := e0_9) (hf0 9 (by simp)) Try.underlying3
  obtain ⟨a0_10, rfl, w0_10⟩ := Fit.int (t := 3) (v := e0_10) (hf0 10 (by simp)) Try.underlying3
  obtain ⟨a0_11, rfl⟩ := Fit.bool (t := 4) (v := e0_11) (hf0 11 (by simp)) Try.underlying4
  obtain ⟨a0_12, rfl⟩ := Fit.bool (t := 4) (v := e0_12) (hf0 12 (by simp)) Try.underlying4
  obtain ⟨a1, rfl, w1⟩ := open_int1 Try.underlying3 (hval 1 3 v1 rfl rfl)
  obtain ⟨a2, rfl⟩ := open_bool1 Try.underlying4 (hval 2 4 v2 rfl rfl)
  obtain ⟨cs3, rfl, hs3, hf3⟩ := open_flat (ts := tsGapAll3) (by rw [Try.underlying25]) (by kernel_rfl) (by kernel_rfl) (hval 3 25 v3 rfl rfl)
  obtain ⟨e3_0, e3_1, e3_2, rfl⟩ := arr3 cs3 hs3
  obtain ⟨a3_0, rfl, w3_0⟩ := Fit.int (t := 3) (v := e3_0) (hf3 0 (by simp)) Try.underlying3
  obtain ⟨a3_1, rfl, w3_1⟩ := Fit.int (t := 3) (v := e3_1) (hf3 1 (by simp)) Try.underlying3
  obtain ⟨a3_2, rfl, w3_2⟩ := Fit.int (t := 3) (v := e3_2) (hf3 2 (by simp)) Try.underlying3
  clear hA0 hval0
  refine (gapAll_walk a0_0 a0_1 a0_2 a0_3 a0_4 a0_5 a0_6 a0_7 a0_8 a0_9 a0_10 a0_11 a0_12 a1 a2 a3_0 a3_1 a3_2 W w0_1 w0_2 w0_3 w0_4 w0_5 w0_6 w0_7 w0_8 w0_9 w0_10 w1 w3_0 w3_1 w3_2).mono fun e W' ⟨he, bel⟩ => ?_
  subst he
  exact ⟨_, rfl, _, _, _, [], _, [], hW', trodAll_mk1 (shut_bool Try.underlying4 _), (trodAll_cons_mk (Below.trod laidOut (by kernel_rfl) (of_decide_eq_true (by kernel_rfl)) k0 bel lt0) (trodAll_cons_mk (Below.trod laidOut (by kernel_rfl) (of_decide_eq_true (by kernel_rfl)) k1 bel lt1) (trodAll_cons_mk (Below.trod laidOut (by kernel_rfl) (of_decide_eq_true (by kernel_rfl)) k2 bel lt2) (trodAll_cons_mk (Below.trod laidOut (by kernel_rfl) (of_decide_eq_true (by kernel_rfl)) k3 bel lt3) trodAll_mk0)))), rfl, bel.frame _, fun h => by cases h⟩

theorem GapAll_over : Rows.gapAllRow.holds Try.pinned (OpenSpec.ofChange Rows.gapAllSpec) :=
  OpenClaim.holds_of_wide 3 Try.f3 rfl rfl rfl rfl rfl rfl rfl ⟨rfl, rfl, rfl, rfl, rfl⟩ rfl rfl rfl rfl rfl (by kernel_rfl) Try.func3 (by kernel_rfl)
    (of_decide_eq_true (by kernel_rfl)) (by unfold Func.isWrapper; first | (rw [if_pos (by decide +kernel)]; kernel_rfl) | (rw [if_neg (by decide +kernel)]; exact ⟨rfl, rfl⟩))
    (fun os started H enc _ => GapAll_lifted os started H enc)

/-- The given statement. -/
theorem GapAll_holds : Rows.GapAllSaid := GapAll_over
#print axioms GapAll_holds
end Go.Proofs.Ytgfijjhcdbmdaaa
