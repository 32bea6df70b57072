/- The law PedCut: the walk, and the given statement. -/
import Derived.Test.YtajechgbnmdpkaaPedD
namespace Go.Proofs.Ytajechgbnmdpkaa
open Go.ChangeShapes Go.WideShapes Go.ChangeAt Go.RowKit
set_option linter.unusedVariables false

/-- What is shown n ticks behind (2, t) of a walk that blinks for B. -/
def csM (B t : Int) (n : Nat) : Int × Int := if t + n ≤ B then (2, t + n) else (0, 0)
theorem cs_step {W B t : Int} {n : Nat} (hB : 1 ≤ B ∧ B ≤ 100) (ht : 1 ≤ t) (hn : t + n ≤ B) : ftM W B 2 (t + n) false = csM B t (n + 1) := by
  have hm : moreM (t + n) = t + n + 1 := by unfold moreM; omega
  unfold csM ftM
  rw [if_neg (by omega), if_pos rfl, hm]
  by_cases h2 : B ≤ t + n
  · rw [if_pos h2, if_neg (by omega)]
  · rw [if_neg h2, if_pos (by omega)]; congr 1; omega
/-- The locals of PedCut in memory: the phase, what is shown, what is shown if it is cut. -/
def CuSt (w wr : World) (q q2 : Nat) (A B st tm : Int) : Prop :=
  Below w.heap.size w wr ∧ LeSize (w.heap.size + 1) wr ∧ LeSize (q + 1) wr ∧ LeSize (q2 + 1) wr ∧ wr.frozen? ⟨q2, 0, none⟩ = false ∧ wr.frozen? ⟨q2, 1, none⟩ = false ∧
  (wr.cell? ⟨w.heap.size, 0, none⟩ = some (.bool false) ∧ wr.cell? ⟨w.heap.size, 1, none⟩ = some (.int .i64 0) ∧ wr.cell? ⟨w.heap.size, 2, none⟩ = some (.int .i64 0) ∧ wr.cell? ⟨w.heap.size, 3, none⟩ = some (.int .i64 0) ∧ wr.cell? ⟨w.heap.size, 4, none⟩ = some (.int .i64 0) ∧ wr.cell? ⟨w.heap.size, 5, none⟩ = some (.int .i64 0) ∧ wr.cell? ⟨w.heap.size, 6, none⟩ = some (.int .i64 0) ∧ wr.cell? ⟨w.heap.size, 7, none⟩ = some (.int .i64 0) ∧ wr.cell? ⟨w.heap.size, 8, none⟩ = some (.int .i64 (1 + A)) ∧ wr.cell? ⟨w.heap.size, 9, none⟩ = some (.int .i64 (1 + B)) ∧ wr.cell? ⟨w.heap.size, 10, none⟩ = some (.int .i64 0) ∧ wr.cell? ⟨w.heap.size, 11, none⟩ = some (.bool false) ∧ wr.cell? ⟨w.heap.size, 12, none⟩ = some (.bool false)) ∧ (wr.cell? ⟨q2, 0, none⟩ = some (.int .i64 st) ∧ wr.cell? ⟨q2, 1, none⟩ = some (.int .i64 tm))

set_option maxHeartbeats 4000000 in
set_option maxRecDepth 100000 in
theorem pedCut_walk (wa bl am : Int) (w : World) (_ : InKind .i64 wa) (_ : InKind .i64 bl) (_ : InKind .i64 am) :
    Calls Try.prog 6 #[.int .i64 wa, .int .i64 bl, .int .i64 am] w
      fun e w' => e = .returned (.bool true) ∧ Below w.heap.size w w' := by
  have hA0 : 0 ≤ wa % 40 := Int.emod_nonneg _ (by decide)
  have hA1 : wa % 40 < 40 := Int.emod_lt_of_pos _ (by decide)
  have hB0 : 0 ≤ bl % 40 := Int.emod_nonneg _ (by decide)
  have hB1 : bl % 40 < 40 := Int.emod_lt_of_pos _ (by decide)
  go_enter Try.func6, Try.ntmps6
  go_wp2_with (go_at_call 7; refine (place_any _ _ _ (by omega) (by omega)).mono ?_; rintro e w' ⟨rfl, rfl⟩)
  generalize wa % 40 = A at *
  generalize bl % 40 = B at *
  have hft : ftM (1 + A) (1 + B) 0 0 true = (1, 1) := by unfold ftM; simp; omega
  refine (Up.run (fstep_any _ _ _ _ _ _ _ _ _ _ _ _ _ _ _ _ _)).mono ?_
  rw [hft]
  rintro e w' ⟨rfl, u1, rfl⟩
  clear hft
  go_wp2_with (go_at_call 7; refine (place_any _ _ _ (by omega) (by omega)).mono ?_; rintro e w' ⟨rfl, rfl⟩)
  have hK0 : 0 ≤ am % (1 + A + (1 + B)) := Int.emod_nonneg _ (by omega)
  have hK1 : am % (1 + A + (1 + B)) < 1 + A + (1 + B) := Int.emod_lt_of_pos _ (by omega)
  generalize am % (1 + A + (1 + B)) = KK at *
  obtain ⟨K, rfl⟩ := Int.eq_ofNat_of_zero_le hK0
  go_loopw [10] (fun v wr => ∃ k : Nat, k ≤ K ∧ v = .int .i64 k ∧ ExSt w wr u1.w.heap.size A B (fsM (1 + A) (1 + B) (k + 1)).1 (fsM (1 + A) (1 + B) (k + 1)).2) (fun v _ => (K - intOf v).toNat)
  case atStart =>
    refine ⟨0, Nat.zero_le _, rfl, ?_⟩
    have e1 : fsM (1 + A) (1 + B) (((0 : Nat) : Int) + 1) = (1, 1) := by unfold fsM; rw [if_pos (by omega)]; rfl
    rw [e1]
    unfold ExSt
    refine ⟨by (repeat' (first | (with_reducible exact Below.refl _ _) | (with_reducible assumption) | (with_reducible refine Below.setCell ?_ ?_ _) | (with_reducible refine Below.alloc ?_ ?_ _) | (with_reducible refine Below.drew ?_) | (with_reducible refine Up.base _ ?_ ?_) | (with_reducible exact LeSize.out) | exact LeSize.out | exact Nat.le_add_right_of_le LeSize.out | exact Nat.le_add_right_of_le (Nat.le_add_right_of_le LeSize.out) | (with_reducible exact Nat.le_refl _) | (simp; done) | (simp; omega))), inferInstance, inferInstance, ?_⟩
    simp [go_sem]
  case round =>
    obtain ⟨k, hk1, rfl, hst⟩ := hrel
    by_cases hlt : k < K
    · have hs := fs_step (W := 1 + A) (B := 1 + B) (i := (k : Int) + 1) (by omega) (by omega) (by omega) false
      obtain ⟨hb, i1, i2, f1, f2, ⟨c0, c1, c2, c3, c4, c5, c6, c7, c8, c9, c10, c11, c12⟩, ⟨d0, d1⟩⟩ := hst
      have i0 : LeSize w.heap.size wr := ⟨hb.size⟩
      have j_d0 := HasCell.of d0
      have j_d1 := HasCell.of d1
      go_wp2_with (go_at_call 8; refine (Up.run (fstep_any _ _ _ _ _ _ _ _ _ _ _ _ _ _ _ _ _)).mono ?_; rintro e w' ⟨rfl, u, rfl⟩)
      go_roundw
      case rel =>
        refine ⟨k + 1, by omega, by go_num, ?_⟩
        unfold ExSt
        refine ⟨by (repeat' (first | (with_reducible exact Below.refl _ _) | (with_reducible assumption) | (with_reducible refine Below.setCell ?_ ?_ _) | (with_reducible refine Below.alloc ?_ ?_ _) | (with_reducible refine Below.drew ?_) | (with_reducible refine Up.base _ ?_ ?_) | (with_reducible exact LeSize.out) | exact LeSize.out | exact Nat.le_add_right_of_le LeSize.out | exact Nat.le_add_right_of_le (Nat.le_add_right_of_le LeSize.out) | (with_reducible exact Nat.le_refl _) | (simp; done) | (simp; omega))), inferInstance, inferInstance, ?_⟩
        simp [go_sem, c0, c1, c2, c3, c4, c5, c6, c7, c8, c9, c10, c11, c12, d0, d1, f1, f2]
      case measure => simp [intOf]; omega
    · obtain rfl : K = k := by omega
      by_cases hw : (K : Int) + 1 ≤ 1 + A
      · have e1 : fsM (1 + A) (1 + B) ((K : Int) + 1) = (1, (K : Int) + 1) := by unfold fsM; rw [if_pos hw]
        rw [e1] at hst
        have hcut : fcM 1 ((K : Int) + 1) = (2, 1) := rfl
        clear e1
        obtain ⟨hb, i1, i2, f1, f2, ⟨c0, c1, c2, c3, c4, c5, c6, c7, c8, c9, c10, c11, c12⟩, ⟨d0, d1⟩⟩ := hst
        have i0 : LeSize w.heap.size wr := ⟨hb.size⟩
        have hcs0 : csM (1 + B) (1) 0 = (2, 1) := by unfold csM; rw [if_pos (by omega)]; rfl
        have j_d0 := HasCell.of d0
        have j_d1 := HasCell.of d1
        go_wp2_with fail
        refine (Up.run (fcut_any _ _ _)).mono ?_
        rw [hcut]
        rintro e w' ⟨rfl, u2, rfl⟩
        clear hcut
        go_wp2
        go_loopw [12] (fun v wi => ∃ n : Nat, 1 + n ≤ 1 + B + 1 ∧ v = .int .i64 n ∧ CuSt w wi u1.w.heap.size u2.w.heap.size A B (csM (1 + B) (1) n).1 (csM (1 + B) (1) n).2) (fun v _ => (1 + B + 2 - intOf v).toNat)
        case atStart =>
          refine ⟨0, by omega, rfl, ?_⟩
          rw [hcs0]
          unfold CuSt
          refine ⟨by (repeat' (first | (with_reducible exact Below.refl _ _) | (with_reducible assumption) | (with_reducible refine Below.setCell ?_ ?_ _) | (with_reducible refine Below.alloc ?_ ?_ _) | (with_reducible refine Below.drew ?_) | (with_reducible refine Up.base _ ?_ ?_) | (with_reducible exact LeSize.out) | exact LeSize.out | exact Nat.le_add_right_of_le LeSize.out | exact Nat.le_add_right_of_le (Nat.le_add_right_of_le LeSize.out) | (with_reducible exact Nat.le_refl _) | (simp; done) | (simp; omega))), inferInstance, inferInstance, inferInstance, ?_⟩
          simp [go_sem, c0, c1, c2, c3, c4, c5, c6, c7, c8, c9, c10, c11, c12]
        case round =>
          clear d0 d1 f1 f2 hcs0 j_d0 j_d1 c0 c1 c2 c3 c4 c5 c6 c7 c8 c9 c10 c11 c12
          obtain ⟨n, hn, rfl, hst⟩ := hrel
          by_cases hq : 1 + (n : Int) ≤ 1 + B
          · have e1 : csM (1 + B) (1) n = (2, 1 + (n : Int)) := by unfold csM; rw [if_pos hq]
            have hs := cs_step (W := 1 + A) (B := 1 + B) (t := 1) (n := n) (by omega) (by omega) hq
            rw [e1] at hst
            clear e1
            obtain ⟨hb2, i3, i4, i5, f1, f2, ⟨c0, c1, c2, c3, c4, c5, c6, c7, c8, c9, c10, c11, c12⟩, ⟨d0, d1⟩⟩ := hst
            have i6 := LeSize.mk hb2.size
            have j_d0 := HasCell.of d0
            have j_d1 := HasCell.of d1
            have hn100 : (n : Int) < 100 := by omega
            go_wp2_with (go_at_call 8; refine (Up.run (fstep_any _ _ _ _ _ _ _ _ _ _ _ _ _ _ _ _ _)).mono ?_; rintro e w' ⟨rfl, u, rfl⟩)
            go_roundw
            case rel =>
              refine ⟨n + 1, by omega, by go_num, ?_⟩
              unfold CuSt
              refine ⟨by (repeat' (first | (with_reducible exact Below.refl _ _) | (with_reducible assumption) | (with_reducible refine Below.setCell ?_ ?_ _) | (with_reducible refine Below.alloc ?_ ?_ _) | (with_reducible refine Below.drew ?_) | (with_reducible refine Up.base _ ?_ ?_) | (with_reducible exact LeSize.out) | exact LeSize.out | exact Nat.le_add_right_of_le LeSize.out | exact Nat.le_add_right_of_le (Nat.le_add_right_of_le LeSize.out) | (with_reducible exact Nat.le_refl _) | (simp; done) | (simp; omega))), inferInstance, inferInstance, inferInstance, ?_⟩
              simp [go_sem, c0, c1, c2, c3, c4, c5, c6, c7, c8, c9, c10, c11, c12, d0, d1, f1, f2]
            case measure => simp [intOf]; omega
          · have e1 : csM (1 + B) (1) n = (0, 0) := by unfold csM; rw [if_neg hq]
            have hn2 : ((n : Int) == 1 + B + 1 - (1)) = true := by simp; omega
            rw [e1] at hst
            clear e1
            obtain ⟨hb2, i3, i4, i5, f1, f2, ⟨c0, c1, c2, c3, c4, c5, c6, c7, c8, c9, c10, c11, c12⟩, ⟨d0, d1⟩⟩ := hst
            have i6 := LeSize.mk hb2.size
            have hz : ftM 0 5 0 0 true = (0, 0) := by decide
            have hne : (n : Int) = 1 + B + 1 - (1) := by omega
            have HNE := Lib.hid hne
            clear hne hn2
            have hq2 : ((n : Int) == 1 + B) = true := by simp; omega
            go_wp2_with (first
    | (go_at_call 8; refine (Up.run (fstep_any _ _ _ _ _ _ _ _ _ _ _ _ _ _ _ _ _)).mono ?_; rintro e w' ⟨rfl, u, rfl⟩)
    | (go_at_call 10; refine (Up.run (awake_any _)).mono ?_; rintro e w' ⟨rfl, u, rfl⟩))
            go_ret
            exact ⟨rfl, by (repeat' (first | (with_reducible exact Below.refl _ _) | (with_reducible assumption) | (with_reducible refine Below.setCell ?_ ?_ _) | (with_reducible refine Below.alloc ?_ ?_ _) | (with_reducible refine Below.drew ?_) | (with_reducible refine Up.base _ ?_ ?_) | (with_reducible exact LeSize.out) | exact LeSize.out | exact Nat.le_add_right_of_le LeSize.out | exact Nat.le_add_right_of_le (Nat.le_add_right_of_le LeSize.out) | (with_reducible exact Nat.le_refl _) | (simp; done) | (simp; omega)))⟩
      · have e1 : fsM (1 + A) (1 + B) ((K : Int) + 1) = (2, (K : Int) + 1 - (1 + A)) := by unfold fsM; rw [if_neg hw, if_pos (by omega)]
        rw [e1] at hst
        have hcut : fcM 2 ((K : Int) + 1 - (1 + A)) = (2, (K : Int) + 1 - (1 + A)) := rfl
        clear e1
        obtain ⟨hb, i1, i2, f1, f2, ⟨c0, c1, c2, c3, c4, c5, c6, c7, c8, c9, c10, c11, c12⟩, ⟨d0, d1⟩⟩ := hst
        have i0 : LeSize w.heap.size wr := ⟨hb.size⟩
        have hcs0 : csM (1 + B) ((K : Int) + 1 - (1 + A)) 0 = (2, (K : Int) + 1 - (1 + A)) := by unfold csM; rw [if_pos (by omega)]; try (congr 1; omega)
        have j_d0 := HasCell.of d0
        have j_d1 := HasCell.of d1
        go_wp2_with fail
        refine (Up.run (fcut_any _ _ _)).mono ?_
        rw [hcut]
        rintro e w' ⟨rfl, u2, rfl⟩
        clear hcut
        go_wp2
        go_loopw [12] (fun v wi => ∃ n : Nat, (K : Int) + 1 - (1 + A) + n ≤ 1 + B + 1 ∧ v = .int .i64 n ∧ CuSt w wi u1.w.heap.size u2.w.heap.size A B (csM (1 + B) ((K : Int) + 1 - (1 + A)) n).1 (csM (1 + B) ((K : Int) + 1 - (1 + A)) n).2) (fun v _ => (1 + B + 2 - intOf v).toNat)
        case atStart =>
          refine ⟨0, by omega, rfl, ?_⟩
          rw [hcs0]
          unfold CuSt
          refine ⟨by (repeat' (first | (with_reducible exact Below.refl _ _) | (with_reducible assumption) | (with_reducible refine Below.setCell ?_ ?_ _) | (with_reducible refine Below.alloc ?_ ?_ _) | (with_reducible refine Below.drew ?_) | (with_reducible refine Up.base _ ?_ ?_) | (with_reducible exact LeSize.out) | exact LeSize.out | exact Nat.le_add_right_of_le LeSize.out | exact Nat.le_add_right_of_le (Nat.le_add_right_of_le LeSize.out) | (with_reducible exact Nat.le_refl _) | (simp; done) | (simp; omega))), inferInstance, inferInstance, inferInstance, ?_⟩
          simp [go_sem, c0, c1, c2, c3, c4, c5, c6, c7, c8, c9, c10, c11, c12]
        case round =>
          clear d0 d1 f1 f2 hcs0 j_d0 j_d1 c0 c1 c2 c3 c4 c5 c6 c7 c8 c9 c10 c11 c12
          obtain ⟨n, hn, rfl, hst⟩ := hrel
          by_cases hq : (K : Int) + 1 - (1 + A) + (n : Int) ≤ 1 + B
          · have e1 : csM (1 + B) ((K : Int) + 1 - (1 + A)) n = (2, (K : Int) + 1 - (1 + A) + (n : Int)) := by unfold csM; rw [if_pos hq]
            have hs := cs_step (W := 1 + A) (B := 1 + B) (t := (K : Int) + 1 - (1 + A)) (n := n) (by omega) (by omega) hq
            rw [e1] at hst
            clear e1
            obtain ⟨hb2, i3, i4, i5, f1, f2, ⟨c0, c1, c2, c3, c4, c5, c6, c7, c8, c9, c10, c11, c12⟩, ⟨d0, d1⟩⟩ := hst
            have i6 := LeSize.mk hb2.size
            have j_d0 := HasCell.of d0
            have j_d1 := HasCell.of d1
            have hn100 : (n : Int) < 100 := by omega
            go_wp2_with (go_at_call 8; refine (Up.run (fstep_any _ _ _ _ _ _ _ _ _ _ _ _ _ _ _ _ _)).mono ?_; rintro e w' ⟨rfl, u, rfl⟩)
            go_roundw
            case rel =>
              refine ⟨n + 1, by omega, by go_num, ?_⟩
              unfold CuSt
              refine ⟨by (repeat' (first | (with_reducible exact Below.refl _ _) | (with_reducible assumption) | (with_reducible refine Below.setCell ?_ ?_ _) | (with_reducible refine Below.alloc ?_ ?_ _) | (with_reducible refine Below.drew ?_) | (with_reducible refine Up.base _ ?_ ?_) | (with_reducible exact LeSize.out) | exact LeSize.out | exact Nat.le_add_right_of_le LeSize.out | exact Nat.le_add_right_of_le (Nat.le_add_right_of_le LeSize.out) | (with_reducible exact Nat.le_refl _) | (simp; done) | (simp; omega))), inferInstance, inferInstance, inferInstance, ?_⟩
              simp [go_sem, c0, c1, c2, c3, c4, c5, c6, c7, c8, c9, c10, c11, c12, d0, d1, f1, f2]
            case measure => simp [intOf]; omega
          · have e1 : csM (1 + B) ((K : Int) + 1 - (1 + A)) n = (0, 0) := by unfold csM; rw [if_neg hq]
            have hn2 : ((n : Int) == 1 + B + 1 - ((K : Int) + 1 - (1 + A))) = true := by simp; omega
            rw [e1] at hst
            clear e1
            obtain ⟨hb2, i3, i4, i5, f1, f2, ⟨c0, c1, c2, c3, c4, c5, c6, c7, c8, c9, c10, c11, c12⟩, ⟨d0, d1⟩⟩ := hst
            have i6 := LeSize.mk hb2.size
            have hz : ftM 0 5 0 0 true = (0, 0) := by decide
            have hne : (n : Int) = 1 + B + 1 - ((K : Int) + 1 - (1 + A)) := by omega
            have HNE := Lib.hid hne
            clear hne hn2
            have hq2 : ((n : Int) == 1 + B - ((K : Int) - (1 + A))) = true := by simp; omega
            go_wp2_with (first
    | (go_at_call 8; refine (Up.run (fstep_any _ _ _ _ _ _ _ _ _ _ _ _ _ _ _ _ _)).mono ?_; rintro e w' ⟨rfl, u, rfl⟩)
    | (go_at_call 10; refine (Up.run (awake_any _)).mono ?_; rintro e w' ⟨rfl, u, rfl⟩))
            go_ret
            exact ⟨rfl, by (repeat' (first | (with_reducible exact Below.refl _ _) | (with_reducible assumption) | (with_reducible refine Below.setCell ?_ ?_ _) | (with_reducible refine Below.alloc ?_ ?_ _) | (with_reducible refine Below.drew ?_) | (with_reducible refine Up.base _ ?_ ?_) | (with_reducible exact LeSize.out) | exact LeSize.out | exact Nat.le_add_right_of_le LeSize.out | exact Nat.le_add_right_of_le (Nat.le_add_right_of_le LeSize.out) | (with_reducible exact Nat.le_refl _) | (simp; done) | (simp; omega)))⟩

set_option maxRecDepth 100000 in
theorem PedCut_lifted (os : Os) (started : os.Started) (H : Type) (enc : TypeId × Value → H) :
    ReturnsInHanded {} Try.checked os 6 .any (Rows.pedCutSpec.pre6 enc Try.prog Try.f6 Rows.pedCutRow.domain false) (Rows.pedCutSpec.post enc Try.prog Try.f6 false true false false) := by
  refine returnsInHanded_of_change (C := Try.checked) own started (by kernel_rfl) Try.func6
    (ChangeSpec.witness6 (enc := enc) (C := Try.checked) false ⟨#[], #[.int .i64 0, .int .i64 0, .int .i64 0], []⟩ 8 (by kernel_rfl) (by kernel_rfl) (by kernel_rfl) (by kernel_rfl)) ?_
  intro W base args ds gs before hval0 hW hcnd _
  have hval : ∀ (j : Nat) t v, Try.f6.params[j]? = some t → args[j]? = some v → Value.okWide Try.prog W .any base t v := hval0
  have hW' := hW
  obtain ⟨p, q, hA0, hV, rfl, hfz, hnd⟩ := hW
  have hA : DataW.TrodAll enc Try.prog W 0 (fun _ => true) true Try.f6.params.toList args.toList ds p := hA0
  rw [Try.params6] at hA hval
  obtain ⟨v0, vs0, d0, ds0, p0, q0, hargs, rfl, rfl, h0, r0⟩ := trodAll_cons hA
  obtain ⟨v1, vs1, d1, ds1, p1, q1, rfl, rfl, rfl, h1, r1⟩ := trodAll_cons r0
  obtain ⟨v2, vs2, d2, ds2, p2, q2, rfl, rfl, rfl, h2, r2⟩ := trodAll_cons r1
  obtain ⟨rfl, rfl, rfl⟩ := trodAll_nil r2
  obtain rfl : args = #[v0, v1, v2] := by cases args; simp_all
  obtain ⟨rfl, rfl⟩ := trodVars_none hV
  have k0 := h0
  have lt0 : ∀ x ∈ p0, x.block < W.heap.size := by obtain ⟨m, hm⟩ := k0; exact DataW.trod_lt m _ _ _ hm
  have k1 := h1
  have lt1 : ∀ x ∈ p1, x.block < W.heap.size := by obtain ⟨m, hm⟩ := k1; exact DataW.trod_lt m _ _ _ hm
  have k2 := h2
  have lt2 : ∀ x ∈ p2, x.block < W.heap.size := by obtain ⟨m, hm⟩ := k2; exact DataW.trod_lt m _ _ _ hm
  obtain ⟨a0, rfl, w0⟩ := open_int1 Try.underlying3 (hval 0 3 v0 rfl rfl)
  obtain ⟨a1, rfl, w1⟩ := open_int1 Try.underlying3 (hval 1 3 v1 rfl rfl)
  obtain ⟨a2, rfl, w2⟩ := open_int1 Try.underlying3 (hval 2 3 v2 rfl rfl)
  clear hA0 hval0
  refine (pedCut_walk a0 a1 a2 W w0 w1 w2).mono fun e W' ⟨he, bel⟩ => ?_
  subst he
  exact ⟨_, rfl, _, _, _, [], _, [], hW', trodAll_mk1 (shut_bool Try.underlying4 _), (trodAll_cons_mk (Below.trod laidOut (by kernel_rfl) (of_decide_eq_true (by kernel_rfl)) k0 bel lt0) (trodAll_cons_mk (Below.trod laidOut (by kernel_rfl) (of_decide_eq_true (by kernel_rfl)) k1 bel lt1) (trodAll_cons_mk (Below.trod laidOut (by kernel_rfl) (of_decide_eq_true (by kernel_rfl)) k2 bel lt2) trodAll_mk0))), rfl, bel.frame _, fun h => by cases h⟩

theorem PedCut_over : Rows.pedCutRow.holds Try.pinned (OpenSpec.ofChange Rows.pedCutSpec) :=
  OpenClaim.holds_of_wide 6 Try.f6 rfl rfl rfl rfl rfl rfl rfl ⟨rfl, rfl, rfl, rfl, rfl⟩ rfl rfl rfl rfl rfl (by kernel_rfl) Try.func6 (by kernel_rfl)
    (of_decide_eq_true (by kernel_rfl)) (by unfold Func.isWrapper; first | (rw [if_pos (by decide +kernel)]; kernel_rfl) | (rw [if_neg (by decide +kernel)]; exact ⟨rfl, rfl⟩))
    (fun os started H enc _ => PedCut_lifted os started H enc)

/-- The given statement. -/
theorem PedCut_holds : Rows.PedCutSaid := PedCut_over
#print axioms PedCut_holds
end Go.Proofs.Ytajechgbnmdpkaa
