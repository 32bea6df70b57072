/- The law DelayTells: the walk, and the given statement. -/
import Derived.Test.YtnljbnbljgmelaaDelP
namespace Go.Proofs.Ytnljbnbljgmelaa
open Go.ChangeShapes Go.WideShapes Go.ChangeAt Go.RowKit
set_option linter.unusedVariables false

set_option maxHeartbeats 2000000 in
theorem delayTells_walk (d e : Int) (a : Option Addr) (cap : Nat) (zs : List Bool) (w : World) (_ : InKind .i64 d) (_ : InKind .i64 e)
    (hl : zs.length ≤ cap ∧ cap ≤ 9223372036854775807) (hh : Hdr w a cap) (hi : Bools w a zs) :
    Calls Try.prog 5 #[.int .i64 d, .int .i64 e, .slice a zs.length cap] w fun en w' => en = .returned (.bool true) ∧ Below w.heap.size w w' := by
  have HI := Lib.hid hi
  clear hi hh
  by_cases h120 : (120 : Int) < zs.length
  · go_enter Try.func5, Try.ntmps5
    go_wp2_with (go_at_call 9; refine (Up.run (awake_any _)).mono ?_; rintro e w' ⟨rfl, u, rfl⟩)
    go_ret
    exact ⟨rfl, by (repeat' (first | (with_reducible exact Below.refl _ _) | (with_reducible assumption) | (with_reducible refine Below.setCell ?_ ?_ _) | (with_reducible refine Below.alloc ?_ ?_ _) | (with_reducible refine Below.drew ?_) | (with_reducible refine Up.base _ ?_ ?_) | (with_reducible exact LeSize.out) | exact LeSize.out | exact Nat.le_add_right_of_le LeSize.out | exact Nat.le_add_right_of_le (Nat.le_add_right_of_le LeSize.out) | (with_reducible exact Nat.le_refl _) | (simp; done) | (simp; omega)))⟩
  have hA0 : 0 ≤ d % 12 := Int.emod_nonneg _ (by decide)
  have hA1 : d % 12 < 12 := Int.emod_lt_of_pos _ (by decide)
  have hB0 : 0 ≤ e % 12 := Int.emod_nonneg _ (by decide)
  have hB1 : e % 12 < 12 := Int.emod_lt_of_pos _ (by decide)
  go_enter Try.func5, Try.ntmps5
  go_wp2_with (go_at_call 10; refine (place_any _ _ _ (by omega) (by omega)).mono ?_; rintro e w' ⟨rfl, rfl⟩)
  generalize d % 12 = A at *
  generalize e % 12 = B at *
  go_loopw [8, 9, 10] (fun r l i wr => ∃ (k : Nat) (row last tail : Int) (out : Bool), k ≤ zs.length ∧ i = .int .i64 k ∧ r = .int .i64 row ∧ l = .int .i64 last ∧ TellRel A B k row last tail out ∧ TimSt w wr row tail out) (fun _ _ i _ => zs.length - (intOf i).toNat)
  case atStart =>
    refine ⟨0, 0, -1000, 0, false, Nat.zero_le _, rfl, rfl, rfl, ⟨by omega, by omega, by omega, by omega, by simp; omega, by rw [if_neg (by omega)], by omega⟩, ?_⟩
    unfold TimSt
    refine ⟨by (repeat' (first | (with_reducible exact Below.refl _ _) | (with_reducible assumption) | (with_reducible refine Below.setCell ?_ ?_ _) | (with_reducible refine Below.alloc ?_ ?_ _) | (with_reducible refine Below.drew ?_) | (with_reducible refine Up.base _ ?_ ?_) | (with_reducible exact LeSize.out) | exact LeSize.out | exact Nat.le_add_right_of_le LeSize.out | exact Nat.le_add_right_of_le (Nat.le_add_right_of_le LeSize.out) | (with_reducible exact Nat.le_refl _) | (simp; done) | (simp; omega))), inferInstance, ?_⟩
    simp [go_sem]
  case round =>
    obtain ⟨k, row, last, tail, out, hk, rfl, rfl, rfl, hrel0, ⟨hb, i1, f1, f2, f3, d0, d1, d2⟩⟩ := hrel
    have i0 : LeSize w.heap.size wr := ⟨hb.size⟩
    by_cases hlt : k < zs.length
    · obtain ⟨b, of, rfl, hbs, hc⟩ := HI.out.cell (by omega)
      have hcell : wr.cell? ⟨b, of + k, none⟩ = some (.bool (zs.getD k false)) := by rw [hb.cell (p := ⟨b, of + k, none⟩) (by simpa using hbs)]; exact hc k hlt
      have ib : LeSize (b + 1) wr := ⟨Nat.le_trans hbs hb.size⟩
      have ib1 : LeSize b w := ⟨Nat.le_of_lt hbs⟩
      have ib2 : LeSize (b + 1) w := ⟨hbs⟩
      clear hc
      have r0 := hrel0.1
      have r1 := hrel0.2.1
      have l0 := hrel0.2.2.1
      have l1 := hrel0.2.2.2.1
      cases hz : zs.getD k false
      · rw [hz] at hcell
        clear hz
        have n1 : ¬ A < 0 := by omega
        obtain ⟨s1, s2, s3⟩ := tell_step ⟨hA0, hA1⟩ ⟨hB0, hB1⟩ (by omega) hrel0 false 0 last rfl (by rw [if_neg n1])
        have S3 := Lib.hid s3
        clear s3 hrel0
        go_wp2
        (refine wp_region_up_tail 8 (by kernel_rfl) (by kernel_rfl) ?_; simp only [List.take_succ_cons, List.take_zero, List.drop_succ_cons, List.drop_zero]; (repeat (go_big_quiet_step ((first | (go_at_call 7; exact Up.calls (step_any _ _ _ _ _ _ _)) | fail)))); refine wpQuiet_nil ?_; rintro _ ⟨u, rfl⟩)
        go_wp2
        go_roundw
        case rel =>
          refine ⟨k + 1, 0, last, tTail A B row tail out false, tOut A row tail out false, by omega, by go_num, by go_num, by go_num, S3.out, ?_⟩
          unfold TimSt
          refine ⟨by (repeat' (first | (with_reducible exact Below.refl _ _) | (with_reducible assumption) | (with_reducible refine Below.setCell ?_ ?_ _) | (with_reducible refine Below.alloc ?_ ?_ _) | (with_reducible refine Below.drew ?_) | (with_reducible refine Up.base _ ?_ ?_) | (with_reducible exact LeSize.out) | exact LeSize.out | exact Nat.le_add_right_of_le LeSize.out | exact Nat.le_add_right_of_le (Nat.le_add_right_of_le LeSize.out) | (with_reducible exact Nat.le_refl _) | (simp; done) | (simp; omega))), inferInstance, ?_⟩
          simp [go_sem, d0, d1, d2, f1, f2, f3, s2]
        case measure => simp [intOf]; omega
      · rw [hz] at hcell
        clear hz
        by_cases hA : A < row + 1
        · obtain ⟨s1, s2, s3⟩ := tell_step ⟨hA0, hA1⟩ ⟨hB0, hB1⟩ (by omega) hrel0 true (row + 1) k rfl (by rw [if_pos hA])
          have S3 := Lib.hid s3
          clear s3 hrel0
          go_wp2
          (refine wp_region_up_tail 8 (by kernel_rfl) (by kernel_rfl) ?_; simp only [List.take_succ_cons, List.take_zero, List.drop_succ_cons, List.drop_zero]; (repeat (go_big_quiet_step ((first | (go_at_call 7; exact Up.calls (step_any _ _ _ _ _ _ _)) | fail)))); refine wpQuiet_nil ?_; rintro _ ⟨u, rfl⟩)
          go_wp2
          go_roundw
          case rel =>
            refine ⟨k + 1, row + 1, k, tTail A B row tail out true, tOut A row tail out true, by omega, by go_num, by go_num, by go_num, S3.out, ?_⟩
            unfold TimSt
            refine ⟨by (repeat' (first | (with_reducible exact Below.refl _ _) | (with_reducible assumption) | (with_reducible refine Below.setCell ?_ ?_ _) | (with_reducible refine Below.alloc ?_ ?_ _) | (with_reducible refine Below.drew ?_) | (with_reducible refine Up.base _ ?_ ?_) | (with_reducible exact LeSize.out) | exact LeSize.out | exact Nat.le_add_right_of_le LeSize.out | exact Nat.le_add_right_of_le (Nat.le_add_right_of_le LeSize.out) | (with_reducible exact Nat.le_refl _) | (simp; done) | (simp; omega))), inferInstance, ?_⟩
            simp [go_sem, d0, d1, d2, f1, f2, f3, s2]
            exact hB0
          case measure => simp [intOf]; omega
        · obtain ⟨s1, s2, s3⟩ := tell_step ⟨hA0, hA1⟩ ⟨hB0, hB1⟩ (by omega) hrel0 true (row + 1) last rfl (by rw [if_neg hA])
          have S3 := Lib.hid s3
          clear s3 hrel0
          go_wp2
          (refine wp_region_up_tail 8 (by kernel_rfl) (by kernel_rfl) ?_; simp only [List.take_succ_cons, List.take_zero, List.drop_succ_cons, List.drop_zero]; (repeat (go_big_quiet_step ((first | (go_at_call 7; exact Up.calls (step_any _ _ _ _ _ _ _)) | fail)))); refine wpQuiet_nil ?_; rintro _ ⟨u, rfl⟩)
          go_wp2
          go_roundw
          case rel =>
            refine ⟨k + 1, row + 1, last, tTail A B row tail out true, tOut A row tail out true, by omega, by go_num, by go_num, by go_num, S3.out, ?_⟩
            unfold TimSt
            refine ⟨by (repeat' (first | (with_reducible exact Below.refl _ _) | (with_reducible assumption) | (with_reducible refine Below.setCell ?_ ?_ _) | (with_reducible refine Below.alloc ?_ ?_ _) | (with_reducible refine Below.drew ?_) | (with_reducible refine Up.base _ ?_ ?_) | (with_reducible exact LeSize.out) | exact LeSize.out | exact Nat.le_add_right_of_le LeSize.out | exact Nat.le_add_right_of_le (Nat.le_add_right_of_le LeSize.out) | (with_reducible exact Nat.le_refl _) | (simp; done) | (simp; omega))), inferInstance, ?_⟩
            simp [go_sem, d0, d1, d2, f1, f2, f3, s2]
          case measure => simp [intOf]; omega
    · go_wp2_with (go_at_call 9; refine (Up.run (awake_any _)).mono ?_; rintro e w' ⟨rfl, u, rfl⟩)
      go_ret
      exact ⟨rfl, by (repeat' (first | (with_reducible exact Below.refl _ _) | (with_reducible assumption) | (with_reducible refine Below.setCell ?_ ?_ _) | (with_reducible refine Below.alloc ?_ ?_ _) | (with_reducible refine Below.drew ?_) | (with_reducible refine Up.base _ ?_ ?_) | (with_reducible exact LeSize.out) | exact LeSize.out | exact Nat.le_add_right_of_le LeSize.out | exact Nat.le_add_right_of_le (Nat.le_add_right_of_le LeSize.out) | (with_reducible exact Nat.le_refl _) | (simp; done) | (simp; omega)))⟩

set_option maxRecDepth 100000 in
theorem DelayTells_lifted (os : Os) (started : os.Started) (H : Type) (enc : TypeId × Value → H) :
    ReturnsInHanded {} Try.checked os 5 .any (Rows.delayTellsSpec.pre6 enc Try.prog Try.f5 Rows.delayTellsRow.domain false) (Rows.delayTellsSpec.post enc Try.prog Try.f5 false true false false) := by
  refine returnsInHanded_of_change (C := Try.checked) own started (by kernel_rfl) Try.func5
    (ChangeSpec.witness6 (enc := enc) (C := Try.checked) false ⟨#[], #[.int .i64 0, .int .i64 0, .slice none 0 0], []⟩ 8 (by kernel_rfl) (by kernel_rfl) (by kernel_rfl) (by kernel_rfl)) ?_
  intro W base args ds gs before hval0 hW hcnd _
  have hval : ∀ (j : Nat) t v, Try.f5.params[j]? = some t → args[j]? = some v → Value.okWide Try.prog W .any base t v := hval0
  have hW' := hW
  obtain ⟨p, q, hA0, hV, rfl, hfz, hnd⟩ := hW
  have hA : DataW.TrodAll enc Try.prog W 0 (fun _ => true) true Try.f5.params.toList args.toList ds p := hA0
  rw [Try.params5] at hA hval
  obtain ⟨v0, vs0, d0, ds0, p0, q0, hargs, rfl, rfl, h0, r0⟩ := trodAll_cons hA
  obtain ⟨v1, vs1, d1, ds1, p1, q1, rfl, rfl, rfl, h1, r1⟩ := trodAll_cons r0
  obtain ⟨v2, vs2, d2, ds2, p2, q2, rfl, rfl, rfl, h2, r2⟩ := trodAll_cons r1
  obtain ⟨rfl, rfl, rfl⟩ := trodAll_nil r2
  obtain rfl : args = #[v0, v1, v2] := by cases args; simp_all
  obtain ⟨rfl, rfl⟩ := trodVars_none hV
  have k0 := h0
  have lt0 : ∀ x ∈ p0, x.block < W.heap.size := by obtain ⟨m, hm⟩ := k0; exact DataW.trod_lt m _ _ _ hm
  have k1 := h1
  have lt1 : ∀ x ∈ p1, x.block < W.heap.size := by obtain ⟨m, hm⟩ := k1; exact DataW.trod_lt m _ _ _ hm
  have k2 := h2
  have lt2 : ∀ x ∈ p2, x.block < W.heap.size := by obtain ⟨m, hm⟩ := k2; exact DataW.trod_lt m _ _ _ hm
  obtain ⟨a0, rfl, w0⟩ := open_int1 Try.underlying3 (hval 0 3 v0 rfl rfl)
  obtain ⟨a1, rfl, w1⟩ := open_int1 Try.underlying3 (hval 1 3 v1 rfl rfl)
  obtain ⟨a2, cap2, z2, rfl, hl2, hm2, hh2, hr2⟩ := open_bools1 Try.underlying27 Try.underlying4 (by kernel_rfl) (hval 2 27 v2 rfl rfl) k2
  clear hA0 hval0
  refine (delayTells_walk a0 a1 a2 cap2 z2 W w0 w1 ⟨hl2, hm2⟩ hh2 hr2).mono fun e W' ⟨he, bel⟩ => ?_
  subst he
  exact ⟨_, rfl, _, _, _, [], _, [], hW', trodAll_mk1 (shut_bool Try.underlying4 _), (trodAll_cons_mk (Below.trod laidOut (by kernel_rfl) (of_decide_eq_true (by kernel_rfl)) k0 bel lt0) (trodAll_cons_mk (Below.trod laidOut (by kernel_rfl) (of_decide_eq_true (by kernel_rfl)) k1 bel lt1) (trodAll_cons_mk (Below.trod laidOut (by kernel_rfl) (of_decide_eq_true (by kernel_rfl)) k2 bel lt2) trodAll_mk0))), rfl, bel.frame _, fun h => by cases h⟩

theorem DelayTells_over : Rows.delayTellsRow.holds Try.pinned (OpenSpec.ofChange Rows.delayTellsSpec) :=
  OpenClaim.holds_of_wide 5 Try.f5 rfl rfl rfl rfl rfl rfl rfl ⟨rfl, rfl, rfl, rfl, rfl⟩ rfl rfl rfl rfl rfl (by kernel_rfl) Try.func5 (by kernel_rfl)
    (of_decide_eq_true (by kernel_rfl)) (by unfold Func.isWrapper; first | (rw [if_pos (by decide +kernel)]; kernel_rfl) | (rw [if_neg (by decide +kernel)]; exact ⟨rfl, rfl⟩))
    (fun os started H enc _ => DelayTells_lifted os started H enc)

/-- The given statement. -/
theorem DelayTells_holds : Rows.DelayTellsSaid := DelayTells_over
#print axioms DelayTells_holds
end Go.Proofs.Ytnljbnbljgmelaa
