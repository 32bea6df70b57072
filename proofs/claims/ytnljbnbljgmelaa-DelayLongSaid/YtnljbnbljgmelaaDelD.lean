/- The law DelayLong: the walk, and the given statement. -/
import Derived.Test.YtnljbnbljgmelaaDelP
namespace Go.Proofs.Ytnljbnbljgmelaa
open Go.ChangeShapes Go.WideShapes Go.ChangeAt Go.RowKit
set_option linter.unusedVariables false

set_option maxHeartbeats 2000000 in
theorem delayLong_walk (d e m : Int) (w : World) (_ : InKind .i64 d) (_ : InKind .i64 e) (_ : InKind .i64 m) :
    Calls Try.prog 6 #[.int .i64 d, .int .i64 e, .int .i64 m] w fun en w' => en = .returned (.bool true) ∧ Below w.heap.size w w' := by
  have hA0 : 0 ≤ d % 40 := Int.emod_nonneg _ (by decide)
  have hA1 : d % 40 < 40 := Int.emod_lt_of_pos _ (by decide)
  have hB0 : 0 ≤ e % 40 := Int.emod_nonneg _ (by decide)
  have hB1 : e % 40 < 40 := Int.emod_lt_of_pos _ (by decide)
  have hC0 : 0 ≤ m % 40 := Int.emod_nonneg _ (by decide)
  have hC1 : m % 40 < 40 := Int.emod_lt_of_pos _ (by decide)
  go_enter Try.func6, Try.ntmps6
  go_wp2_with (go_at_call 10; refine (place_any _ _ _ (by omega) (by omega)).mono ?_; rintro e w' ⟨rfl, rfl⟩)
  generalize d % 40 = A at *
  generalize e % 40 = B at *
  generalize m % 40 = M at *
  go_loopw [9] (fun v wr => ∃ (i held tail : Int) (out : Bool), 1 ≤ i ∧ i ≤ A + 1 + M + 1 ∧ v = .int .i64 i ∧ held = i - 1 ∧ out = decide (A < i - 1) ∧ tail = (if A < i - 1 then B else 0) ∧ TimSt w wr held tail out) (fun v _ => (A + 1 + M + 1 - intOf v).toNat)
  case atStart =>
    refine ⟨1, 0, 0, false, by omega, by omega, rfl, rfl, by simp; omega, by rw [if_neg (by omega)], ?_⟩
    unfold TimSt
    refine ⟨by (repeat' (first | (with_reducible exact Below.refl _ _) | (with_reducible assumption) | (with_reducible refine Below.setCell ?_ ?_ _) | (with_reducible refine Below.alloc ?_ ?_ _) | (with_reducible refine Below.drew ?_) | (with_reducible refine Up.base _ ?_ ?_) | (with_reducible exact LeSize.out) | exact LeSize.out | exact Nat.le_add_right_of_le LeSize.out | exact Nat.le_add_right_of_le (Nat.le_add_right_of_le LeSize.out) | (with_reducible exact Nat.le_refl _) | (simp; done) | (simp; omega))), inferInstance, ?_⟩
    simp [go_sem]
  case round =>
    obtain ⟨i, held, tail, out, hi0, hi1, rfl, rfl, ho, ht, ⟨hb, i1, f1, f2, f3, d0, d1, d2⟩⟩ := hrel
    have i0 : LeSize w.heap.size wr := ⟨hb.size⟩
    by_cases hlt : i ≤ A + 1 + M
    · obtain ⟨s1, s2, s3⟩ := long_up ⟨hA0, hA1⟩ ⟨hB0, hB1⟩ ⟨hi0, by omega⟩ ho ht
      have S3 := Lib.hid s3
      have HO := Lib.hid ho
      have HT := Lib.hid ht
      clear s3 ho ht
      go_wp2_with (go_at_call 7; refine (Up.run (step_any _ _ _ _ _ _ _)).mono ?_; rintro e w' ⟨rfl, u, rfl⟩)
      go_roundw
      case rel =>
        refine ⟨i + 1, i, tTail A B (i - 1) tail out true, decide (A < i), by omega, by omega, by go_num, by omega, by rw [show i + 1 - 1 = i by omega], by rw [show i + 1 - 1 = i by omega]; exact S3.out, ?_⟩
        unfold TimSt
        refine ⟨by (repeat' (first | (with_reducible exact Below.refl _ _) | (with_reducible assumption) | (with_reducible refine Below.setCell ?_ ?_ _) | (with_reducible refine Below.alloc ?_ ?_ _) | (with_reducible refine Below.drew ?_) | (with_reducible refine Up.base _ ?_ ?_) | (with_reducible exact LeSize.out) | exact LeSize.out | exact Nat.le_add_right_of_le LeSize.out | exact Nat.le_add_right_of_le (Nat.le_add_right_of_le LeSize.out) | (with_reducible exact Nat.le_refl _) | (simp; done) | (simp; omega))), inferInstance, ?_⟩
        simp [go_sem, d0, d1, d2, f1, f2, f3]
      case measure => simp [intOf]; omega
    · have hi2 : i = A + 1 + M + 1 := by omega
      have ho2 : out = true := by rw [ho]; simp; omega
      have ht2 : tail = B := by rw [ht, if_pos (by omega)]
      subst ho2
      obtain rfl : B = tail := ht2.symm
      clear ho ht hi2
      have h0 : 0 ≤ i - 1 := by omega
      generalize i - 1 = hh at *
      go_wp2
      go_loopw [10] (fun v wi => ∃ (j held' tail' : Int) (out' : Bool), 1 ≤ j ∧ j ≤ B + 3 ∧ v = .int .i64 j ∧ (2 ≤ j → held' = 0) ∧ out' = decide (j - 1 ≤ B) ∧ tail' = (if j - 1 ≤ B then B - (j - 1) else 0) ∧ TimSt w wi held' tail' out') (fun v _ => (B + 3 - intOf v).toNat)
      case atStart => exact ⟨1, hh, B, true, by omega, by omega, rfl, by omega, by simp; omega, by rw [if_pos (by omega)]; omega, hb, i1, f1, f2, f3, d0, d1, d2⟩
      case round =>
        clear d0 d1 d2 f1 f2 f3 i0 i1
        obtain ⟨j, held', tail', out', hj0, hj1, rfl, hh2, ho, ht, ⟨hb', i1, f1, f2, f3, d0, d1, d2⟩⟩ := hrel
        have i0 := LeSize.mk hb'.size
        by_cases hlt2 : j ≤ B + 2
        · obtain ⟨s1, s2, s3⟩ := long_down (held := held') ⟨hA0, hA1⟩ ⟨hB0, hB1⟩ ⟨hj0, by omega⟩ ho ht
          have S3 := Lib.hid s3
          have HO := Lib.hid ho
          have HT := Lib.hid ht
          clear s3 ho ht
          go_wp2_with (go_at_call 7; refine (Up.run (step_any _ _ _ _ _ _ _)).mono ?_; rintro e w' ⟨rfl, u, rfl⟩)
          go_roundw
          case rel =>
            refine ⟨j + 1, 0, tTail A B held' tail' out' false, decide (j ≤ B), by omega, by omega, by go_num, by omega, by rw [show j + 1 - 1 = j by omega], by rw [show j + 1 - 1 = j by omega]; exact S3.out, ?_⟩
            unfold TimSt
            refine ⟨by (repeat' (first | (with_reducible exact Below.refl _ _) | (with_reducible assumption) | (with_reducible refine Below.setCell ?_ ?_ _) | (with_reducible refine Below.alloc ?_ ?_ _) | (with_reducible refine Below.drew ?_) | (with_reducible refine Up.base _ ?_ ?_) | (with_reducible exact LeSize.out) | exact LeSize.out | exact Nat.le_add_right_of_le LeSize.out | exact Nat.le_add_right_of_le (Nat.le_add_right_of_le LeSize.out) | (with_reducible exact Nat.le_refl _) | (simp; done) | (simp; omega))), inferInstance, ?_⟩
            simp [go_sem, d0, d1, d2, f1, f2, f3]
          case measure => simp [intOf]; omega
        · have hj2 : j = B + 3 := by omega
          have z1 : held' = 0 := hh2 (by omega)
          have z2 : out' = false := by rw [ho]; simp; omega
          have z3 : tail' = 0 := by rw [ht, if_neg (by omega)]
          subst z1 z2 z3
          clear ho ht hj2 hh2
          go_wp2_with (go_at_call 9; refine (Up.run (awake_any _)).mono ?_; rintro e w' ⟨rfl, u, rfl⟩)
          go_ret
          exact ⟨rfl, by (repeat' (first | (with_reducible exact Below.refl _ _) | (with_reducible assumption) | (with_reducible refine Below.setCell ?_ ?_ _) | (with_reducible refine Below.alloc ?_ ?_ _) | (with_reducible refine Below.drew ?_) | (with_reducible refine Up.base _ ?_ ?_) | (with_reducible exact LeSize.out) | exact LeSize.out | exact Nat.le_add_right_of_le LeSize.out | exact Nat.le_add_right_of_le (Nat.le_add_right_of_le LeSize.out) | (with_reducible exact Nat.le_refl _) | (simp; done) | (simp; omega)))⟩

set_option maxRecDepth 100000 in
theorem DelayLong_lifted (os : Os) (started : os.Started) (H : Type) (enc : TypeId × Value → H) :
    ReturnsInHanded {} Try.checked os 6 .any (Rows.delayLongSpec.pre6 enc Try.prog Try.f6 Rows.delayLongRow.domain false) (Rows.delayLongSpec.post enc Try.prog Try.f6 false true false false) := by
  refine returnsInHanded_of_change (C := Try.checked) own started (by kernel_rfl) Try.func6
    (ChangeSpec.witness6 (enc := enc) (C := Try.checked) false ⟨#[], #[.int .i64 0, .int .i64 0, .int .i64 0], []⟩ 8 (by kernel_rfl) (by kernel_rfl) (by kernel_rfl) (by kernel_rfl)) ?_
  intro W base args ds gs before hval0 hW hcnd _
  have hval : ∀ (j : Nat) t v, Try.f6.params[j]? = some t → args[j]? = some v → Value.okWide Try.prog W .any base t v := hval0
  have hW' := hW
  obtain ⟨p, q, hA0, hV, rfl, hfz, hnd⟩ := hW
  have hA : DataW.TrodAll enc Try.prog W 0 (fun _ => true) true Try.f6.params.toList args.toList ds p := hA0
  rw [Try.params6] at hA hval
  obtain ⟨v0, vs0, d0, ds0, p0, q0, hargs, rfl, rfl, h0, r0⟩ := trodAll_cons hA
  obtain ⟨v1, vs1, d1, ds1, p1, q1, rfl, rfl, rfl, h1, r1⟩ := trodAll_cons r0
  obtain ⟨v2, vs2, d2, ds2, p2, q2, rfl, rfl, rfl, h2, r2⟩ := trodAll_cons r1
  obtain ⟨rfl, rfl, rfl⟩ := trodAll_nil r2
  obtain rfl : args = #[v0, v1, v2] := by cases args; simp_all
  obtain ⟨rfl, rfl⟩ := trodVars_none hV
  have k0 := h0
  have lt0 : ∀ x ∈ p0, x.block < W.heap.size := by obtain ⟨m, hm⟩ := k0; exact DataW.trod_lt m _ _ _ hm
  have k1 := h1
  have lt1 : ∀ x ∈ p1, x.block < W.heap.size := by obtain ⟨m, hm⟩ := k1; exact DataW.trod_lt m _ _ _ hm
  have k2 := h2
  have lt2 : ∀ x ∈ p2, x.block < W.heap.size := by obtain ⟨m, hm⟩ := k2; exact DataW.trod_lt m _ _ _ hm
  obtain ⟨a0, rfl, w0⟩ := open_int1 Try.underlying3 (hval 0 3 v0 rfl rfl)
  obtain ⟨a1, rfl, w1⟩ := open_int1 Try.underlying3 (hval 1 3 v1 rfl rfl)
  obtain ⟨a2, rfl, w2⟩ := open_int1 Try.underlying3 (hval 2 3 v2 rfl rfl)
  clear hA0 hval0
  refine (delayLong_walk a0 a1 a2 W w0 w1 w2).mono fun e W' ⟨he, bel⟩ => ?_
  subst he
  exact ⟨_, rfl, _, _, _, [], _, [], hW', trodAll_mk1 (shut_bool Try.underlying4 _), (trodAll_cons_mk (Below.trod laidOut (by kernel_rfl) (of_decide_eq_true (by kernel_rfl)) k0 bel lt0) (trodAll_cons_mk (Below.trod laidOut (by kernel_rfl) (of_decide_eq_true (by kernel_rfl)) k1 bel lt1) (trodAll_cons_mk (Below.trod laidOut (by kernel_rfl) (of_decide_eq_true (by kernel_rfl)) k2 bel lt2) trodAll_mk0))), rfl, bel.frame _, fun h => by cases h⟩

theorem DelayLong_over : Rows.delayLongRow.holds Try.pinned (OpenSpec.ofChange Rows.delayLongSpec) :=
  OpenClaim.holds_of_wide 6 Try.f6 rfl rfl rfl rfl rfl rfl rfl ⟨rfl, rfl, rfl, rfl, rfl⟩ rfl rfl rfl rfl rfl (by kernel_rfl) Try.func6 (by kernel_rfl)
    (of_decide_eq_true (by kernel_rfl)) (by unfold Func.isWrapper; first | (rw [if_pos (by decide +kernel)]; kernel_rfl) | (rw [if_neg (by decide +kernel)]; exact ⟨rfl, rfl⟩))
    (fun os started H enc _ => DelayLong_lifted os started H enc)

/-- The given statement. -/
theorem DelayLong_holds : Rows.DelayLongSaid := DelayLong_over
#print axioms DelayLong_holds
end Go.Proofs.Ytnljbnbljgmelaa
