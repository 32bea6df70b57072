/- The law PedExact: the walk, and the given statement. -/
import Derived.Test.YtajechgbnmdpkaaPedB
namespace Go.Proofs.Ytajechgbnmdpkaa
open Go.ChangeShapes Go.WideShapes Go.ChangeAt Go.RowKit
set_option linter.unusedVariables false

/-- What is shown at tick i of a walk of W ticks that blinks for B. -/
def fsM (W B i : Int) : Int × Int := if i ≤ W then (1, i) else if i ≤ W + B then (2, i - W) else (0, 0)
theorem fs_step {W B i : Int} (hW : 1 ≤ W ∧ W ≤ 100) (hB : 1 ≤ B ∧ B ≤ 100) (hi : 1 ≤ i ∧ i ≤ W + B) (b : Bool) : ftM W B (fsM W B i).1 (fsM W B i).2 b = fsM W B (i + 1) := by
  have hm : ∀ n : Int, 0 ≤ n → n ≤ 9999 → moreM n = n + 1 := fun n h1 h2 => by unfold moreM; omega
  unfold fsM
  by_cases h1 : i ≤ W
  · rw [if_pos h1]
    simp only [ftM, if_true]
    rw [hm i (by omega) (by omega)]
    by_cases h2 : W ≤ i
    · rw [if_pos h2, if_neg (by omega), if_pos (by omega)]; congr 1; omega
    · rw [if_neg h2, if_pos (by omega)]
  · rw [if_neg h1, if_pos (by omega), if_neg (by omega)]
    simp only [ftM]
    rw [if_neg (by omega), if_pos trivial, hm (i - W) (by omega) (by omega)]
    by_cases h2 : B ≤ i - W
    · rw [if_pos h2, if_neg (by omega)]
    · rw [if_neg h2, if_pos (by omega)]; congr 1; omega
/-- The locals of PedExact in memory: the phase, what is shown. -/
def ExSt (w wr : World) (q : Nat) (A B st tm : Int) : Prop :=
  Below w.heap.size w wr ∧ LeSize (w.heap.size + 1) wr ∧ LeSize (q + 1) wr ∧ wr.frozen? ⟨q, 0, none⟩ = false ∧ wr.frozen? ⟨q, 1, none⟩ = false ∧
  (wr.cell? ⟨w.heap.size, 0, none⟩ = some (.bool false) ∧ wr.cell? ⟨w.heap.size, 1, none⟩ = some (.int .i64 0) ∧ wr.cell? ⟨w.heap.size, 2, none⟩ = some (.int .i64 0) ∧ wr.cell? ⟨w.heap.size, 3, none⟩ = some (.int .i64 0) ∧ wr.cell? ⟨w.heap.size, 4, none⟩ = some (.int .i64 0) ∧ wr.cell? ⟨w.heap.size, 5, none⟩ = some (.int .i64 0) ∧ wr.cell? ⟨w.heap.size, 6, none⟩ = some (.int .i64 0) ∧ wr.cell? ⟨w.heap.size, 7, none⟩ = some (.int .i64 0) ∧ wr.cell? ⟨w.heap.size, 8, none⟩ = some (.int .i64 (1 + A)) ∧ wr.cell? ⟨w.heap.size, 9, none⟩ = some (.int .i64 (1 + B)) ∧ wr.cell? ⟨w.heap.size, 10, none⟩ = some (.int .i64 0) ∧ wr.cell? ⟨w.heap.size, 11, none⟩ = some (.bool false) ∧ wr.cell? ⟨w.heap.size, 12, none⟩ = some (.bool false)) ∧ (wr.cell? ⟨q, 0, none⟩ = some (.int .i64 st) ∧ wr.cell? ⟨q, 1, none⟩ = some (.int .i64 tm))

set_option maxHeartbeats 4000000 in
set_option maxRecDepth 100000 in
theorem pedExact_walk (wa bl : Int) (a : Option Addr) (cap : Nat) (zs : List Bool) (w : World) (_ : InKind .i64 wa) (_ : InKind .i64 bl)
    (hl : zs.length ≤ cap ∧ cap ≤ 9223372036854775807) (hh : Hdr w a cap) (hi : Bools w a zs) :
    Calls Try.prog 3 #[.int .i64 wa, .int .i64 bl, .slice a zs.length cap] w
      fun e w' => e = .returned (.bool true) ∧ Below w.heap.size w w' := by
  have HI := Lib.hid hi
  clear hi hh
  have hA0 : 0 ≤ wa % 60 := Int.emod_nonneg _ (by decide)
  have hA1 : wa % 60 < 60 := Int.emod_lt_of_pos _ (by decide)
  have hB0 : 0 ≤ bl % 60 := Int.emod_nonneg _ (by decide)
  have hB1 : bl % 60 < 60 := Int.emod_lt_of_pos _ (by decide)
  go_enter Try.func3, Try.ntmps3
  go_wp2_with (go_at_call 7; refine (place_any _ _ _ (by omega) (by omega)).mono ?_; rintro e w' ⟨rfl, rfl⟩)
  generalize wa % 60 = A at *
  generalize bl % 60 = B at *
  have hft : ftM (1 + A) (1 + B) 0 0 true = (1, 1) := by unfold ftM; simp; omega
  refine (Up.run (fstep_any _ _ _ _ _ _ _ _ _ _ _ _ _ _ _ _ _)).mono ?_
  rw [hft]
  rintro e w' ⟨rfl, u1, rfl⟩
  clear hft
  go_wp2
  go_loopw [9] (fun v wr => ∃ k : Nat, 1 ≤ k ∧ (k : Int) ≤ 1 + A + (1 + B) + 1 ∧ v = .int .i64 k ∧ ExSt w wr u1.w.heap.size A B (fsM (1 + A) (1 + B) k).1 (fsM (1 + A) (1 + B) k).2) (fun v _ => (1 + A + (1 + B) + 1 - intOf v).toNat)
  case atStart =>
    refine ⟨1, by omega, by omega, rfl, ?_⟩
    have e1 : fsM (1 + A) (1 + B) ((1 : Nat) : Int) = (1, 1) := by unfold fsM; rw [if_pos (by omega)]; rfl
    rw [e1]
    unfold ExSt
    refine ⟨by (repeat' (first | (with_reducible exact Below.refl _ _) | (with_reducible assumption) | (with_reducible refine Below.setCell ?_ ?_ _) | (with_reducible refine Below.alloc ?_ ?_ _) | (with_reducible refine Below.drew ?_) | (with_reducible refine Up.base _ ?_ ?_) | (with_reducible exact LeSize.out) | exact LeSize.out | exact Nat.le_add_right_of_le LeSize.out | exact Nat.le_add_right_of_le (Nat.le_add_right_of_le LeSize.out) | (with_reducible exact Nat.le_refl _) | (simp; done) | (simp; omega))), inferInstance, inferInstance, ?_⟩
    simp [go_sem]
  case round =>
    obtain ⟨k, hk1, hk2, rfl, hst⟩ := hrel
    by_cases hlt : (k : Int) ≤ 1 + A + (1 + B)
    · have hs := fs_step (W := 1 + A) (B := 1 + B) (i := k) (by omega) (by omega) (by omega)
      by_cases hw : (k : Int) ≤ 1 + A
      · have e1 : fsM (1 + A) (1 + B) (k : Int) = (1, (k : Int)) := by unfold fsM; rw [if_pos hw]
        rw [e1] at hs hst
        obtain ⟨hb, i1, i2, f1, f2, ⟨c0, c1, c2, c3, c4, c5, c6, c7, c8, c9, c10, c11, c12⟩, ⟨d0, d1⟩⟩ := hst
        have o1 : foM 1 k 0 = false := by simp [foM]
        have o2 : foM 1 k (1 + B + 1) = false := by simp [foM]
        have i0 : LeSize w.heap.size wr := ⟨hb.size⟩
        have j_d0 := HasCell.of d0
        have j_d1 := HasCell.of d1
        by_cases hz : k < zs.length
        · obtain ⟨b, of, rfl, hbs, hc⟩ := HI.out.cell (by omega)
          have hcell : wr.cell? ⟨b, of + k, none⟩ = some (.bool (zs.getD k false)) := by rw [hb.cell (p := ⟨b, of + k, none⟩) (by simpa using hbs)]; exact hc k hz
          have ib : LeSize (b + 1) wr := ⟨Nat.le_trans hbs hb.size⟩
          have ib1 : LeSize b w := ⟨Nat.le_of_lt hbs⟩
          have ib2 : LeSize (b + 1) w := ⟨hbs⟩
          clear hc
          have hs1 := hs zs[k]
          have HS := Lib.hid hs
          clear hs e1
          go_wp2_with (go_at_call 9; refine (Up.run (fover_any _ _ _ _)).mono ?_; rintro e w' ⟨rfl, u, rfl⟩)
          (refine wp_region_up_tail 13 (by kernel_rfl) (by kernel_rfl) ?_; simp only [List.take_succ_cons, List.take_zero, List.drop_succ_cons, List.drop_zero]; (repeat (go_big_quiet_step ((first | (go_at_call 8; exact Up.calls (fstep_any _ _ _ _ _ _ _ _ _ _ _ _ _ _ _ _ _)) | fail)))); refine wpQuiet_nil ?_; rintro _ ⟨u, rfl⟩)
          go_wp2
          go_roundw
          case rel =>
            refine ⟨k + 1, by omega, by omega, by go_num, ?_⟩
            unfold ExSt
            refine ⟨by (repeat' (first | (with_reducible exact Below.refl _ _) | (with_reducible assumption) | (with_reducible refine Below.setCell ?_ ?_ _) | (with_reducible refine Below.alloc ?_ ?_ _) | (with_reducible refine Below.drew ?_) | (with_reducible refine Up.base _ ?_ ?_) | (with_reducible exact LeSize.out) | exact LeSize.out | exact Nat.le_add_right_of_le LeSize.out | exact Nat.le_add_right_of_le (Nat.le_add_right_of_le LeSize.out) | (with_reducible exact Nat.le_refl _) | (simp; done) | (simp; omega))), inferInstance, inferInstance, ?_⟩
            simp [go_sem, c0, c1, c2, c3, c4, c5, c6, c7, c8, c9, c10, c11, c12, d0, d1, f1, f2]
          case measure => simp [intOf]; omega
        · have hs1 := hs false
          have HS := Lib.hid hs
          clear hs e1
          go_wp2_with (go_at_call 9; refine (Up.run (fover_any _ _ _ _)).mono ?_; rintro e w' ⟨rfl, u, rfl⟩)
          (refine wp_region_up_tail 13 (by kernel_rfl) (by kernel_rfl) ?_; simp only [List.take_succ_cons, List.take_zero, List.drop_succ_cons, List.drop_zero]; (repeat (go_big_quiet_step ((first | (go_at_call 8; exact Up.calls (fstep_any _ _ _ _ _ _ _ _ _ _ _ _ _ _ _ _ _)) | fail)))); refine wpQuiet_nil ?_; rintro _ ⟨u, rfl⟩)
          go_wp2
          go_roundw
          case rel =>
            refine ⟨k + 1, by omega, by omega, by go_num, ?_⟩
            unfold ExSt
            refine ⟨by (repeat' (first | (with_reducible exact Below.refl _ _) | (with_reducible assumption) | (with_reducible refine Below.setCell ?_ ?_ _) | (with_reducible refine Below.alloc ?_ ?_ _) | (with_reducible refine Below.drew ?_) | (with_reducible refine Up.base _ ?_ ?_) | (with_reducible exact LeSize.out) | exact LeSize.out | exact Nat.le_add_right_of_le LeSize.out | exact Nat.le_add_right_of_le (Nat.le_add_right_of_le LeSize.out) | (with_reducible exact Nat.le_refl _) | (simp; done) | (simp; omega))), inferInstance, inferInstance, ?_⟩
            simp [go_sem, c0, c1, c2, c3, c4, c5, c6, c7, c8, c9, c10, c11, c12, d0, d1, f1, f2]
          case measure => simp [intOf]; omega
      · have e1 : fsM (1 + A) (1 + B) (k : Int) = (2, (k : Int) - (1 + A)) := by unfold fsM; rw [if_neg hw, if_pos (by omega)]
        rw [e1] at hs hst
        obtain ⟨hb, i1, i2, f1, f2, ⟨c0, c1, c2, c3, c4, c5, c6, c7, c8, c9, c10, c11, c12⟩, ⟨d0, d1⟩⟩ := hst
        have o1 : foM 2 (k - (1 + A)) (k - (1 + A)) = true := by simp [foM]
        have o2 : foM 2 (k - (1 + A)) (1 + B + 1) = false := by simp [foM]; omega
        have i0 : LeSize w.heap.size wr := ⟨hb.size⟩
        have j_d0 := HasCell.of d0
        have j_d1 := HasCell.of d1
        by_cases hz : k < zs.length
        · obtain ⟨b, of, rfl, hbs, hc⟩ := HI.out.cell (by omega)
          have hcell : wr.cell? ⟨b, of + k, none⟩ = some (.bool (zs.getD k false)) := by rw [hb.cell (p := ⟨b, of + k, none⟩) (by simpa using hbs)]; exact hc k hz
          have ib : LeSize (b + 1) wr := ⟨Nat.le_trans hbs hb.size⟩
          have ib1 : LeSize b w := ⟨Nat.le_of_lt hbs⟩
          have ib2 : LeSize (b + 1) w := ⟨hbs⟩
          clear hc
          have hs1 := hs zs[k]
          have HS := Lib.hid hs
          clear hs e1
          go_wp2_with (go_at_call 9; refine (Up.run (fover_any _ _ _ _)).mono ?_; rintro e w' ⟨rfl, u, rfl⟩)
          (refine wp_region_up_tail 13 (by kernel_rfl) (by kernel_rfl) ?_; simp only [List.take_succ_cons, List.take_zero, List.drop_succ_cons, List.drop_zero]; (repeat (go_big_quiet_step ((first | (go_at_call 8; exact Up.calls (fstep_any _ _ _ _ _ _ _ _ _ _ _ _ _ _ _ _ _)) | fail)))); refine wpQuiet_nil ?_; rintro _ ⟨u, rfl⟩)
          go_wp2
          go_roundw
          case rel =>
            refine ⟨k + 1, by omega, by omega, by go_num, ?_⟩
            unfold ExSt
            refine ⟨by (repeat' (first | (with_reducible exact Below.refl _ _) | (with_reducible assumption) | (with_reducible refine Below.setCell ?_ ?_ _) | (with_reducible refine Below.alloc ?_ ?_ _) | (with_reducible refine Below.drew ?_) | (with_reducible refine Up.base _ ?_ ?_) | (with_reducible exact LeSize.out) | exact LeSize.out | exact Nat.le_add_right_of_le LeSize.out | exact Nat.le_add_right_of_le (Nat.le_add_right_of_le LeSize.out) | (with_reducible exact Nat.le_refl _) | (simp; done) | (simp; omega))), inferInstance, inferInstance, ?_⟩
            simp [go_sem, c0, c1, c2, c3, c4, c5, c6, c7, c8, c9, c10, c11, c12, d0, d1, f1, f2]
          case measure => simp [intOf]; omega
        · have hs1 := hs false
          have HS := Lib.hid hs
          clear hs e1
          go_wp2_with (go_at_call 9; refine (Up.run (fover_any _ _ _ _)).mono ?_; rintro e w' ⟨rfl, u, rfl⟩)
          (refine wp_region_up_tail 13 (by kernel_rfl) (by kernel_rfl) ?_; simp only [List.take_succ_cons, List.take_zero, List.drop_succ_cons, List.drop_zero]; (repeat (go_big_quiet_step ((first | (go_at_call 8; exact Up.calls (fstep_any _ _ _ _ _ _ _ _ _ _ _ _ _ _ _ _ _)) | fail)))); refine wpQuiet_nil ?_; rintro _ ⟨u, rfl⟩)
          go_wp2
          go_roundw
          case rel =>
            refine ⟨k + 1, by omega, by omega, by go_num, ?_⟩
            unfold ExSt
            refine ⟨by (repeat' (first | (with_reducible exact Below.refl _ _) | (with_reducible assumption) | (with_reducible refine Below.setCell ?_ ?_ _) | (with_reducible refine Below.alloc ?_ ?_ _) | (with_reducible refine Below.drew ?_) | (with_reducible refine Up.base _ ?_ ?_) | (with_reducible exact LeSize.out) | exact LeSize.out | exact Nat.le_add_right_of_le LeSize.out | exact Nat.le_add_right_of_le (Nat.le_add_right_of_le LeSize.out) | (with_reducible exact Nat.le_refl _) | (simp; done) | (simp; omega))), inferInstance, inferInstance, ?_⟩
            simp [go_sem, c0, c1, c2, c3, c4, c5, c6, c7, c8, c9, c10, c11, c12, d0, d1, f1, f2]
          case measure => simp [intOf]; omega
    · have hk3 : (k : Int) = 1 + A + (1 + B) + 1 := by omega
      have e1 : fsM (1 + A) (1 + B) (k : Int) = (0, 0) := by unfold fsM; rw [if_neg (by omega), if_neg (by omega)]
      rw [e1] at hst
      obtain ⟨hb, i1, i2, f1, f2, ⟨c0, c1, c2, c3, c4, c5, c6, c7, c8, c9, c10, c11, c12⟩, ⟨d0, d1⟩⟩ := hst
      have i0 : LeSize w.heap.size wr := ⟨hb.size⟩
      have o1 : foM 0 0 1000 = true := by decide
      clear hk3 e1
      go_wp2_with (first
    | (go_at_call 9; refine (Up.run (fover_any _ _ _ _)).mono ?_; rintro e w' ⟨rfl, u, rfl⟩)
    | (go_at_call 10; refine (Up.run (awake_any _)).mono ?_; rintro e w' ⟨rfl, u, rfl⟩))
      go_ret
      exact ⟨rfl, by (repeat' (first | (with_reducible exact Below.refl _ _) | (with_reducible assumption) | (with_reducible refine Below.setCell ?_ ?_ _) | (with_reducible refine Below.alloc ?_ ?_ _) | (with_reducible refine Below.drew ?_) | (with_reducible refine Up.base _ ?_ ?_) | (with_reducible exact LeSize.out) | exact LeSize.out | exact Nat.le_add_right_of_le LeSize.out | exact Nat.le_add_right_of_le (Nat.le_add_right_of_le LeSize.out) | (with_reducible exact Nat.le_refl _) | (simp; done) | (simp; omega)))⟩

set_option maxRecDepth 100000 in
theorem PedExact_lifted (os : Os) (started : os.Started) (H : Type) (enc : TypeId × Value → H) :
    ReturnsInHanded {} Try.checked os 3 .any (Rows.pedExactSpec.pre6 enc Try.prog Try.f3 Rows.pedExactRow.domain false) (Rows.pedExactSpec.post enc Try.prog Try.f3 false true false false) := by
  refine returnsInHanded_of_change (C := Try.checked) own started (by kernel_rfl) Try.func3
    (ChangeSpec.witness6 (enc := enc) (C := Try.checked) false ⟨#[], #[.int .i64 0, .int .i64 0, .slice none 0 0], []⟩ 8 (by kernel_rfl) (by kernel_rfl) (by kernel_rfl) (by kernel_rfl)) ?_
  intro W base args ds gs before hval0 hW hcnd _
  have hval : ∀ (j : Nat) t v, Try.f3.params[j]? = some t → args[j]? = some v → Value.okWide Try.prog W .any base t v := hval0
  have hW' := hW
  obtain ⟨p, q, hA0, hV, rfl, hfz, hnd⟩ := hW
  have hA : DataW.TrodAll enc Try.prog W 0 (fun _ => true) true Try.f3.params.toList args.toList ds p := hA0
  rw [Try.params3] at hA hval
  obtain ⟨v0, vs0, d0, ds0, p0, q0, hargs, rfl, rfl, h0, r0⟩ := trodAll_cons hA
  obtain ⟨v1, vs1, d1, ds1, p1, q1, rfl, rfl, rfl, h1, r1⟩ := trodAll_cons r0
  obtain ⟨v2, vs2, d2, ds2, p2, q2, rfl, rfl, rfl, h2, r2⟩ := trodAll_cons r1
  obtain ⟨rfl, rfl, rfl⟩ := trodAll_nil r2
  obtain rfl : args = #[v0, v1, v2] := by cases args; simp_all
  obtain ⟨rfl, rfl⟩ := trodVars_none hV
  have k0 := h0
  have lt0 : ∀ x ∈ p0, x.block < W.heap.size := by obtain ⟨m, hm⟩ := k0; exact DataW.trod_lt m _ _ _ hm
  have k1 := h1
  have lt1 : ∀ x ∈ p1, x.block < W.heap.size := by obtain ⟨m, hm⟩ := k1; exact DataW.trod_lt m _ _ _ hm
  have k2 := h2
  have lt2 : ∀ x ∈ p2, x.block < W.heap.size := by obtain ⟨m, hm⟩ := k2; exact DataW.trod_lt m _ _ _ hm
  obtain ⟨a0, rfl, w0⟩ := open_int1 Try.underlying3 (hval 0 3 v0 rfl rfl)
  obtain ⟨a1, rfl, w1⟩ := open_int1 Try.underlying3 (hval 1 3 v1 rfl rfl)
  obtain ⟨a2, cap2, z2, rfl, hl2, hm2, hh2, hr2⟩ := open_bools1 Try.underlying22 Try.underlying4 (by kernel_rfl) (hval 2 22 v2 rfl rfl) k2
  clear hA0 hval0
  refine (pedExact_walk a0 a1 a2 cap2 z2 W w0 w1 ⟨hl2, hm2⟩ hh2 hr2).mono fun e W' ⟨he, bel⟩ => ?_
  subst he
  exact ⟨_, rfl, _, _, _, [], _, [], hW', trodAll_mk1 (shut_bool Try.underlying4 _), (trodAll_cons_mk (Below.trod laidOut (by kernel_rfl) (of_decide_eq_true (by kernel_rfl)) k0 bel lt0) (trodAll_cons_mk (Below.trod laidOut (by kernel_rfl) (of_decide_eq_true (by kernel_rfl)) k1 bel lt1) (trodAll_cons_mk (Below.trod laidOut (by kernel_rfl) (of_decide_eq_true (by kernel_rfl)) k2 bel lt2) trodAll_mk0))), rfl, bel.frame _, fun h => by cases h⟩

theorem PedExact_over : Rows.pedExactRow.holds Try.pinned (OpenSpec.ofChange Rows.pedExactSpec) :=
  OpenClaim.holds_of_wide 3 Try.f3 rfl rfl rfl rfl rfl rfl rfl ⟨rfl, rfl, rfl, rfl, rfl⟩ rfl rfl rfl rfl rfl (by kernel_rfl) Try.func3 (by kernel_rfl)
    (of_decide_eq_true (by kernel_rfl)) (by unfold Func.isWrapper; first | (rw [if_pos (by decide +kernel)]; kernel_rfl) | (rw [if_neg (by decide +kernel)]; exact ⟨rfl, rfl⟩))
    (fun os started H enc _ => PedExact_lifted os started H enc)

/-- The given statement. -/
theorem PedExact_holds : Rows.PedExactSaid := PedExact_over
#print axioms PedExact_holds
end Go.Proofs.Ytajechgbnmdpkaa
