/- The law LevelHolds: the walk, and the given statement. -/
import Derived.Test.YtmfhcmnipkokmaaLevB
namespace Go.Proofs.Ytmfhcmnipkokmaa
open Go.ChangeShapes Go.WideShapes Go.ChangeAt Go.RowKit
set_option linter.unusedVariables false

theorem key_lo : fkey 13920209183539462144 < fkey 0 := by decide +kernel
theorem key_hi : fkey 4652007308841189376 < fkey 4696837146684686336 := by decide +kernel
theorem nan_lo : fnan 13920209183539462144 = false := by decide +kernel
theorem nan_hi : fnan 4696837146684686336 = false := by decide +kernel
theorem nan_0 : fnan 0 = false := by decide +kernel
theorem nan_k : fnan 4652007308841189376 = false := by decide +kernel

theorem lev_holds {off on : Nat} (h1 : fgt off 0 = true) (h2 : flt off on = true) (h3 : fle on 4652007308841189376 = true) :
    (∀ b, levM on off b 0 off = (false, 0)) ∧ (∀ b, levM on off b 0 on = (true, 0)) ∧ (∀ x b, fgt x off = true → flt x on = true → levM on off b 0 x = (b, 0)) := by
  have k1 := key_lo
  have k2 := key_hi
  rw [fgt_key] at h1
  rw [flt_key] at h2
  rw [fle_key] at h3
  simp [nan_0, nan_k] at h1 h2 h3
  refine ⟨fun b => ?_, fun b => ?_, fun x b g1 g2 => ?_⟩
  · have e1 : badM off = false := by simp [badM, fge_key, fle_key, nan_lo, nan_hi, h2.1.1]; omega
    have e2 : fge off on = false := by simp [fge_key]; omega
    have e3 : fle off off = true := by simp [fle_key, h2.1.1]
    simp [levM, e1, e2, e3]
  · have e1 : badM on = false := by simp [badM, fge_key, fle_key, nan_lo, nan_hi, h2.1.2]; omega
    have e2 : fge on on = true := by simp [fge_key, h2.1.2]
    simp [levM, e1, e2]
  · rw [fgt_key] at g1
    rw [flt_key] at g2
    simp at g1 g2
    have e1 : badM x = false := by simp [badM, fge_key, fle_key, nan_lo, nan_hi, g2.1.1]; omega
    have e2 : fge x on = false := by simp [fge_key]; omega
    have e3 : fle x off = false := by simp [fle_key]; omega
    simp [levM, e1, e2, e3]

/-- The locals of LevelHolds in memory: the detector, the state. -/
def HoldsSt (w wr : World) (q : Nat) (don doff : Nat) (on : Bool) : Prop :=
  Below w.heap.size w wr ∧ LeSize (w.heap.size + 1) wr ∧ LeSize (q + 1) wr ∧
  wr.frozen? ⟨q, 0, none⟩ = false ∧ wr.frozen? ⟨q, 1, none⟩ = false ∧
  (wr.cell? ⟨w.heap.size, 0, none⟩ = some (.int .i64 0) ∧ wr.cell? ⟨w.heap.size, 1, none⟩ = some (.float .f64 don) ∧ wr.cell? ⟨w.heap.size, 2, none⟩ = some (.float .f64 doff) ∧ wr.cell? ⟨w.heap.size, 3, none⟩ = some (.float .f64 0) ∧ wr.cell? ⟨w.heap.size, 4, none⟩ = some (.float .f64 0) ∧ wr.cell? ⟨w.heap.size, 5, none⟩ = some (.int .i64 0) ∧ wr.cell? ⟨w.heap.size, 6, none⟩ = some (.int .i64 0)) ∧
  (wr.cell? ⟨q, 0, none⟩ = some (.bool on) ∧ wr.cell? ⟨q, 1, none⟩ = some (.int .i64 0))

set_option maxHeartbeats 2000000 in
theorem levelHolds_walk (off on : Nat) (a : Option Addr) (cap : Nat) (zs : List Nat) (first : Bool) (w : World)
    (_ : off < 18446744073709551616) (_ : on < 18446744073709551616)
    (hl : zs.length ≤ cap ∧ cap ≤ 9223372036854775807) (hh : Hdr w a cap) (hi : Floats w a zs) (hz : ∀ i, i < zs.length → zs.getD i 0 < 18446744073709551616) :
    Calls Try.prog 5 #[.float .f64 off, .float .f64 on, .slice a zs.length cap, .bool first] w
      fun e w' => e = .returned (.bool true) ∧ Below w.heap.size w w' := by
  have HI := Lib.hid hi
  clear hi hz hh
  cases h1 : fgt off 0
  · go_enter Try.func5, Try.ntmps5
    go_wp2_with (go_at_call 13; refine (Up.run (awake_any _)).mono ?_; rintro e w' ⟨rfl, u, rfl⟩)
    go_ret
    exact ⟨rfl, by (repeat' (first | (with_reducible exact Below.refl _ _) | (with_reducible assumption) | (with_reducible refine Below.setCell ?_ ?_ _) | (with_reducible refine Below.alloc ?_ ?_ _) | (with_reducible refine Below.drew ?_) | (with_reducible refine Up.base _ ?_ ?_) | (with_reducible exact LeSize.out) | exact LeSize.out | exact Nat.le_add_right_of_le LeSize.out | exact Nat.le_add_right_of_le (Nat.le_add_right_of_le LeSize.out) | (with_reducible exact Nat.le_refl _) | (simp; done) | (simp; omega)))⟩
  cases h2 : flt off on
  · go_enter Try.func5, Try.ntmps5
    go_wp2_with (go_at_call 13; refine (Up.run (awake_any _)).mono ?_; rintro e w' ⟨rfl, u, rfl⟩)
    go_ret
    exact ⟨rfl, by (repeat' (first | (with_reducible exact Below.refl _ _) | (with_reducible assumption) | (with_reducible refine Below.setCell ?_ ?_ _) | (with_reducible refine Below.alloc ?_ ?_ _) | (with_reducible refine Below.drew ?_) | (with_reducible refine Up.base _ ?_ ?_) | (with_reducible exact LeSize.out) | exact LeSize.out | exact Nat.le_add_right_of_le LeSize.out | exact Nat.le_add_right_of_le (Nat.le_add_right_of_le LeSize.out) | (with_reducible exact Nat.le_refl _) | (simp; done) | (simp; omega)))⟩
  cases h3 : fle on 4652007308841189376
  · go_enter Try.func5, Try.ntmps5
    go_wp2_with (go_at_call 13; refine (Up.run (awake_any _)).mono ?_; rintro e w' ⟨rfl, u, rfl⟩)
    go_ret
    exact ⟨rfl, by (repeat' (first | (with_reducible exact Below.refl _ _) | (with_reducible assumption) | (with_reducible refine Below.setCell ?_ ?_ _) | (with_reducible refine Below.alloc ?_ ?_ _) | (with_reducible refine Below.drew ?_) | (with_reducible refine Up.base _ ?_ ?_) | (with_reducible exact LeSize.out) | exact LeSize.out | exact Nat.le_add_right_of_le LeSize.out | exact Nat.le_add_right_of_le (Nat.le_add_right_of_le LeSize.out) | (with_reducible exact Nat.le_refl _) | (simp; done) | (simp; omega)))⟩
  by_cases h60 : (60 : Int) < zs.length
  · go_enter Try.func5, Try.ntmps5
    go_wp2_with (go_at_call 13; refine (Up.run (awake_any _)).mono ?_; rintro e w' ⟨rfl, u, rfl⟩)
    go_ret
    exact ⟨rfl, by (repeat' (first | (with_reducible exact Below.refl _ _) | (with_reducible assumption) | (with_reducible refine Below.setCell ?_ ?_ _) | (with_reducible refine Below.alloc ?_ ?_ _) | (with_reducible refine Below.drew ?_) | (with_reducible refine Up.base _ ?_ ?_) | (with_reducible exact LeSize.out) | exact LeSize.out | exact Nat.le_add_right_of_le LeSize.out | exact Nat.le_add_right_of_le (Nat.le_add_right_of_le LeSize.out) | (with_reducible exact Nat.le_refl _) | (simp; done) | (simp; omega)))⟩
  obtain ⟨g1, g2, g3⟩ := lev_holds h1 h2 h3
  have G3 := Lib.hid g3
  clear g3
  have l1 := g1 true
  have l2 := g1 false
  have l3 := g2 false
  clear g1 g2
  cases first
  · go_enter Try.func5, Try.ntmps5
    go_wp2_with fail
    refine (Up.run (step_any _ _ _ _ _ _ _ _ _ _ _)).mono ?_
    rintro e w' ⟨rfl, u1, rfl⟩
    go_wp2_with (go_at_call 7; refine (Up.run (step_any _ _ _ _ _ _ _ _ _ _ _)).mono ?_; rintro e w' ⟨rfl, u, rfl⟩)
    go_loopw [11] (fun i wr => ∃ k : Nat, k ≤ zs.length ∧ i = .int .i64 k ∧ HoldsSt w wr u1.w.heap.size on off false) (fun i _ => zs.length - (intOf i).toNat)
    case atStart =>
      refine ⟨0, Nat.zero_le _, rfl, ?_⟩
      unfold HoldsSt
      refine ⟨by (repeat' (first | (with_reducible exact Below.refl _ _) | (with_reducible assumption) | (with_reducible refine Below.setCell ?_ ?_ _) | (with_reducible refine Below.alloc ?_ ?_ _) | (with_reducible refine Below.drew ?_) | (with_reducible refine Up.base _ ?_ ?_) | (with_reducible exact LeSize.out) | exact LeSize.out | exact Nat.le_add_right_of_le LeSize.out | exact Nat.le_add_right_of_le (Nat.le_add_right_of_le LeSize.out) | (with_reducible exact Nat.le_refl _) | (simp; done) | (simp; omega))), inferInstance, inferInstance, ?_⟩
      simp [go_sem]
    case round =>
      obtain ⟨k, hk, rfl, hst⟩ := hrel
      obtain ⟨hb, i1, i2, f1, f2, ⟨c0, c1, c2, c3, c4, c5, c6⟩, ⟨d0, d1⟩⟩ := hst
      have i0 : LeSize w.heap.size wr := ⟨hb.size⟩
      by_cases hlt : k < zs.length
      · obtain ⟨b, of, rfl, hbs, hc⟩ := HI.out.cell (by omega)
        have hcell : wr.cell? ⟨b, of + k, none⟩ = some (.float .f64 (zs.getD k 0)) := by rw [hb.cell (p := ⟨b, of + k, none⟩) (by simpa using hbs)]; exact hc k hlt
        have ib : LeSize (b + 1) wr := ⟨Nat.le_trans hbs hb.size⟩
        have ib1 : LeSize b w := ⟨Nat.le_of_lt hbs⟩
        have ib2 : LeSize (b + 1) w := ⟨hbs⟩
        clear hc
        cases t1 : fgt zs[k] off
        · go_wp2
          go_roundw
          case rel => exact ⟨k + 1, by omega, by go_num, hb, i1, i2, f1, f2, ⟨c0, c1, c2, c3, c4, c5, c6⟩, d0, d1⟩
          case measure => simp [intOf]; omega
        · cases t2 : flt zs[k] on
          · go_wp2
            go_roundw
            case rel => exact ⟨k + 1, by omega, by go_num, hb, i1, i2, f1, f2, ⟨c0, c1, c2, c3, c4, c5, c6⟩, d0, d1⟩
            case measure => simp [intOf]; omega
          · have l4 := G3.out zs[k] false t1 t2
            go_wp2
            (refine wp_region_up_tail 7 (by kernel_rfl) (by kernel_rfl) ?_; simp only [List.take_succ_cons, List.take_zero, List.drop_succ_cons, List.drop_zero]; (repeat (go_big_quiet_step ((first | (go_at_call 7; exact Up.calls (step_any _ _ _ _ _ _ _ _ _ _ _)) | fail)))); refine wpQuiet_nil ?_; rintro _ ⟨u, rfl⟩)
            go_wp2
            go_roundw
            case rel =>
              refine ⟨k + 1, by omega, by go_num, ?_⟩
              unfold HoldsSt
              refine ⟨by (repeat' (first | (with_reducible exact Below.refl _ _) | (with_reducible assumption) | (with_reducible refine Below.setCell ?_ ?_ _) | (with_reducible refine Below.alloc ?_ ?_ _) | (with_reducible refine Below.drew ?_) | (with_reducible refine Up.base _ ?_ ?_) | (with_reducible exact LeSize.out) | exact LeSize.out | exact Nat.le_add_right_of_le LeSize.out | exact Nat.le_add_right_of_le (Nat.le_add_right_of_le LeSize.out) | (with_reducible exact Nat.le_refl _) | (simp; done) | (simp; omega))), inferInstance, inferInstance, ?_⟩
              simp [go_sem, c0, c1, c2, c3, c4, c5, c6, d0, d1, f1, f2]
            case measure => simp [intOf]; omega
      · go_wp2_with (go_at_call 13; refine (Up.run (awake_any _)).mono ?_; rintro e w' ⟨rfl, u, rfl⟩)
        go_ret
        exact ⟨rfl, by (repeat' (first | (with_reducible exact Below.refl _ _) | (with_reducible assumption) | (with_reducible refine Below.setCell ?_ ?_ _) | (with_reducible refine Below.alloc ?_ ?_ _) | (with_reducible refine Below.drew ?_) | (with_reducible refine Up.base _ ?_ ?_) | (with_reducible exact LeSize.out) | exact LeSize.out | exact Nat.le_add_right_of_le LeSize.out | exact Nat.le_add_right_of_le (Nat.le_add_right_of_le LeSize.out) | (with_reducible exact Nat.le_refl _) | (simp; done) | (simp; omega)))⟩
  · go_enter Try.func5, Try.ntmps5
    go_wp2_with fail
    refine (Up.run (step_any _ _ _ _ _ _ _ _ _ _ _)).mono ?_
    rintro e w' ⟨rfl, u1, rfl⟩
    go_wp2_with (go_at_call 7; refine (Up.run (step_any _ _ _ _ _ _ _ _ _ _ _)).mono ?_; rintro e w' ⟨rfl, u, rfl⟩)
    go_loopw [11] (fun i wr => ∃ k : Nat, k ≤ zs.length ∧ i = .int .i64 k ∧ HoldsSt w wr u1.w.heap.size on off true) (fun i _ => zs.length - (intOf i).toNat)
    case atStart =>
      refine ⟨0, Nat.zero_le _, rfl, ?_⟩
      unfold HoldsSt
      refine ⟨by (repeat' (first | (with_reducible exact Below.refl _ _) | (with_reducible assumption) | (with_reducible refine Below.setCell ?_ ?_ _) | (with_reducible refine Below.alloc ?_ ?_ _) | (with_reducible refine Below.drew ?_) | (with_reducible refine Up.base _ ?_ ?_) | (with_reducible exact LeSize.out) | exact LeSize.out | exact Nat.le_add_right_of_le LeSize.out | exact Nat.le_add_right_of_le (Nat.le_add_right_of_le LeSize.out) | (with_reducible exact Nat.le_refl _) | (simp; done) | (simp; omega))), inferInstance, inferInstance, ?_⟩
      simp [go_sem]
    case round =>
      obtain ⟨k, hk, rfl, hst⟩ := hrel
      obtain ⟨hb, i1, i2, f1, f2, ⟨c0, c1, c2, c3, c4, c5, c6⟩, ⟨d0, d1⟩⟩ := hst
      have i0 : LeSize w.heap.size wr := ⟨hb.size⟩
      by_cases hlt : k < zs.length
      · obtain ⟨b, of, rfl, hbs, hc⟩ := HI.out.cell (by omega)
        have hcell : wr.cell? ⟨b, of + k, none⟩ = some (.float .f64 (zs.getD k 0)) := by rw [hb.cell (p := ⟨b, of + k, none⟩) (by simpa using hbs)]; exact hc k hlt
        have ib : LeSize (b + 1) wr := ⟨Nat.le_trans hbs hb.size⟩
        have ib1 : LeSize b w := ⟨Nat.le_of_lt hbs⟩
        have ib2 : LeSize (b + 1) w := ⟨hbs⟩
        clear hc
        cases t1 : fgt zs[k] off
        · go_wp2
          go_roundw
          case rel => exact ⟨k + 1, by omega, by go_num, hb, i1, i2, f1, f2, ⟨c0, c1, c2, c3, c4, c5, c6⟩, d0, d1⟩
          case measure => simp [intOf]; omega
        · cases t2 : flt zs[k] on
          · go_wp2
            go_roundw
            case rel => exact ⟨k + 1, by omega, by go_num, hb, i1, i2, f1, f2, ⟨c0, c1, c2, c3, c4, c5, c6⟩, d0, d1⟩
            case measure => simp [intOf]; omega
          · have l4 := G3.out zs[k] true t1 t2
            go_wp2
            (refine wp_region_up_tail 7 (by kernel_rfl) (by kernel_rfl) ?_; simp only [List.take_succ_cons, List.take_zero, List.drop_succ_cons, List.drop_zero]; (repeat (go_big_quiet_step ((first | (go_at_call 7; exact Up.calls (step_any _ _ _ _ _ _ _ _ _ _ _)) | fail)))); refine wpQuiet_nil ?_; rintro _ ⟨u, rfl⟩)
            go_wp2
            go_roundw
            case rel =>
              refine ⟨k + 1, by omega, by go_num, ?_⟩
              unfold HoldsSt
              refine ⟨by (repeat' (first | (with_reducible exact Below.refl _ _) | (with_reducible assumption) | (with_reducible refine Below.setCell ?_ ?_ _) | (with_reducible refine Below.alloc ?_ ?_ _) | (with_reducible refine Below.drew ?_) | (with_reducible refine Up.base _ ?_ ?_) | (with_reducible exact LeSize.out) | exact LeSize.out | exact Nat.le_add_right_of_le LeSize.out | exact Nat.le_add_right_of_le (Nat.le_add_right_of_le LeSize.out) | (with_reducible exact Nat.le_refl _) | (simp; done) | (simp; omega))), inferInstance, inferInstance, ?_⟩
              simp [go_sem, c0, c1, c2, c3, c4, c5, c6, d0, d1, f1, f2]
            case measure => simp [intOf]; omega
      · go_wp2_with (go_at_call 13; refine (Up.run (awake_any _)).mono ?_; rintro e w' ⟨rfl, u, rfl⟩)
        go_ret
        exact ⟨rfl, by (repeat' (first | (with_reducible exact Below.refl _ _) | (with_reducible assumption) | (with_reducible refine Below.setCell ?_ ?_ _) | (with_reducible refine Below.alloc ?_ ?_ _) | (with_reducible refine Below.drew ?_) | (with_reducible refine Up.base _ ?_ ?_) | (with_reducible exact LeSize.out) | exact LeSize.out | exact Nat.le_add_right_of_le LeSize.out | exact Nat.le_add_right_of_le (Nat.le_add_right_of_le LeSize.out) | (with_reducible exact Nat.le_refl _) | (simp; done) | (simp; omega)))⟩

set_option maxRecDepth 100000 in
theorem LevelHolds_lifted (os : Os) (started : os.Started) (H : Type) (enc : TypeId × Value → H) :
    ReturnsInHanded {} Try.checked os 5 .any (Rows.levelHoldsSpec.pre6 enc Try.prog Try.f5 Rows.levelHoldsRow.domain false) (Rows.levelHoldsSpec.post enc Try.prog Try.f5 false true false false) := by
  refine returnsInHanded_of_change (C := Try.checked) own started (by kernel_rfl) Try.func5
    (ChangeSpec.witness6 (enc := enc) (C := Try.checked) false ⟨#[], #[.float .f64 0, .float .f64 0, .slice none 0 0, .bool false], []⟩ 8 (by kernel_rfl) (by kernel_rfl) (by kernel_rfl) (by kernel_rfl)) ?_
  intro W base args ds gs before hval0 hW hcnd _
  have hval : ∀ (j : Nat) t v, Try.f5.params[j]? = some t → args[j]? = some v → Value.okWide Try.prog W .any base t v := hval0
  have hW' := hW
  obtain ⟨p, q, hA0, hV, rfl, hfz, hnd⟩ := hW
  have hA : DataW.TrodAll enc Try.prog W 0 (fun _ => true) true Try.f5.params.toList args.toList ds p := hA0
  rw [Try.params5] at hA hval
  obtain ⟨v0, vs0, d0, ds0, p0, q0, hargs, rfl, rfl, h0, r0⟩ := trodAll_cons hA
  obtain ⟨v1, vs1, d1, ds1, p1, q1, rfl, rfl, rfl, h1, r1⟩ := trodAll_cons r0
  obtain ⟨v2, vs2, d2, ds2, p2, q2, rfl, rfl, rfl, h2, r2⟩ := trodAll_cons r1
  obtain ⟨v3, vs3, d3, ds3, p3, q3, rfl, rfl, rfl, h3, r3⟩ := trodAll_cons r2
  obtain ⟨rfl, rfl, rfl⟩ := trodAll_nil r3
  obtain rfl : args = #[v0, v1, v2, v3] := by cases args; simp_all
  obtain ⟨rfl, rfl⟩ := trodVars_none hV
  have k0 := h0
  have lt0 : ∀ x ∈ p0, x.block < W.heap.size := by obtain ⟨m, hm⟩ := k0; exact DataW.trod_lt m _ _ _ hm
  have k1 := h1
  have lt1 : ∀ x ∈ p1, x.block < W.heap.size := by obtain ⟨m, hm⟩ := k1; exact DataW.trod_lt m _ _ _ hm
  have k2 := h2
  have lt2 : ∀ x ∈ p2, x.block < W.heap.size := by obtain ⟨m, hm⟩ := k2; exact DataW.trod_lt m _ _ _ hm
  have k3 := h3
  have lt3 : ∀ x ∈ p3, x.block < W.heap.size := by obtain ⟨m, hm⟩ := k3; exact DataW.trod_lt m _ _ _ hm
  obtain ⟨a0, rfl, w0⟩ := open_float1 Try.underlying22 (hval 0 22 v0 rfl rfl)
  obtain ⟨a1, rfl, w1⟩ := open_float1 Try.underlying22 (hval 1 22 v1 rfl rfl)
  obtain ⟨a2, cap2, z2, rfl, hl2, hm2, hh2, hr2, iz2⟩ := open_floats1 Try.underlying31 Try.underlying22 (by kernel_rfl) (hval 2 31 v2 rfl rfl) k2
  obtain ⟨a3, rfl⟩ := open_bool1 Try.underlying4 (hval 3 4 v3 rfl rfl)
  clear hA0 hval0
  refine (levelHolds_walk a0 a1 a2 cap2 z2 a3 W w0 w1 ⟨hl2, hm2⟩ hh2 hr2 iz2).mono fun e W' ⟨he, bel⟩ => ?_
  subst he
  exact ⟨_, rfl, _, _, _, [], _, [], hW', trodAll_mk1 (shut_bool Try.underlying4 _), (trodAll_cons_mk (Below.trod laidOut (by kernel_rfl) (of_decide_eq_true (by kernel_rfl)) k0 bel lt0) (trodAll_cons_mk (Below.trod laidOut (by kernel_rfl) (of_decide_eq_true (by kernel_rfl)) k1 bel lt1) (trodAll_cons_mk (Below.trod laidOut (by kernel_rfl) (of_decide_eq_true (by kernel_rfl)) k2 bel lt2) (trodAll_cons_mk (Below.trod laidOut (by kernel_rfl) (of_decide_eq_true (by kernel_rfl)) k3 bel lt3) trodAll_mk0)))), rfl, bel.frame _, fun h => by cases h⟩

theorem LevelHolds_over : Rows.levelHoldsRow.holds Try.pinned (OpenSpec.ofChange Rows.levelHoldsSpec) :=
  OpenClaim.holds_of_wide 5 Try.f5 rfl rfl rfl rfl rfl rfl rfl ⟨rfl, rfl, rfl, rfl, rfl⟩ rfl rfl rfl rfl rfl (by kernel_rfl) Try.func5 (by kernel_rfl)
    (of_decide_eq_true (by kernel_rfl)) (by unfold Func.isWrapper; first | (rw [if_pos (by decide +kernel)]; kernel_rfl) | (rw [if_neg (by decide +kernel)]; exact ⟨rfl, rfl⟩))
    (fun os started H enc _ => LevelHolds_lifted os started H enc)

/-- The given statement. -/
theorem LevelHolds_holds : Rows.LevelHoldsSaid := LevelHolds_over
#print axioms LevelHolds_holds
end Go.Proofs.Ytmfhcmnipkokmaa
