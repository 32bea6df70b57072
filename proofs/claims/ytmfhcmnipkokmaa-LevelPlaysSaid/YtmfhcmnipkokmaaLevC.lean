/- The law LevelPlays: the walk, and the given statement. -/
import Derived.Test.YtmfhcmnipkokmaaLevB
namespace Go.Proofs.Ytmfhcmnipkokmaa
open Go.ChangeShapes Go.WideShapes Go.ChangeAt Go.RowKit
set_option linter.unusedVariables false

/-- The locals of LevelPlays in memory: the detector, the state, the reference's state. -/
def PlaysSt (w wr : World) (p : Int) (don doff dd de : Nat) (mon mof : Int) (on : Bool) (bad : Int) : Prop :=
  Below w.heap.size w wr ∧ LeSize (w.heap.size + 1) wr ∧ LeSize (w.heap.size + 1 + 1) wr ∧ LeSize (w.heap.size + 1 + 1 + 1) wr ∧
  wr.frozen? ⟨w.heap.size + 1, 0, none⟩ = false ∧ wr.frozen? ⟨w.heap.size + 1, 1, none⟩ = false ∧ wr.frozen? ⟨w.heap.size + 1 + 1, 0, none⟩ = false ∧ wr.frozen? ⟨w.heap.size + 1 + 1, 1, none⟩ = false ∧
  (wr.cell? ⟨w.heap.size, 0, none⟩ = some (.int .i64 p) ∧ wr.cell? ⟨w.heap.size, 1, none⟩ = some (.float .f64 don) ∧ wr.cell? ⟨w.heap.size, 2, none⟩ = some (.float .f64 doff) ∧ wr.cell? ⟨w.heap.size, 3, none⟩ = some (.float .f64 dd) ∧ wr.cell? ⟨w.heap.size, 4, none⟩ = some (.float .f64 de) ∧ wr.cell? ⟨w.heap.size, 5, none⟩ = some (.int .i64 mon) ∧ wr.cell? ⟨w.heap.size, 6, none⟩ = some (.int .i64 mof)) ∧
  (wr.cell? ⟨w.heap.size + 1, 0, none⟩ = some (.bool on) ∧ wr.cell? ⟨w.heap.size + 1, 1, none⟩ = some (.int .i64 bad)) ∧ (wr.cell? ⟨w.heap.size + 1 + 1, 0, none⟩ = some (.bool on) ∧ wr.cell? ⟨w.heap.size + 1 + 1, 1, none⟩ = some (.int .i64 bad))

set_option maxHeartbeats 2000000 in
theorem levelPlays_walk (p : Int) (don doff dd de : Nat) (mon mof : Int) (a : Option Addr) (cap : Nat) (zs : List Nat) (w : World)
    (_ : InKind .i64 p) (_ : don < 18446744073709551616) (_ : doff < 18446744073709551616) (_ : dd < 18446744073709551616) (_ : de < 18446744073709551616) (_ : InKind .i64 mon) (_ : InKind .i64 mof)
    (hl : zs.length ≤ cap ∧ cap ≤ 9223372036854775807) (hh : Hdr w a cap) (hi : Floats w a zs) (hz : ∀ i, i < zs.length → zs.getD i 0 < 18446744073709551616) :
    Calls Try.prog 4 #[.agg #[.int .i64 p, .float .f64 don, .float .f64 doff, .float .f64 dd, .float .f64 de, .int .i64 mon, .int .i64 mof], .slice a zs.length cap] w
      fun e w' => e = .returned (.bool true) ∧ Below w.heap.size w w' := by
  have HI := Lib.hid hi
  clear hi hz hh
  by_cases h200 : (200 : Int) < zs.length
  · go_enter Try.func4, Try.ntmps4
    go_wp2_with (go_at_call 13; refine (Up.run (awake_any _)).mono ?_; rintro e w' ⟨rfl, u, rfl⟩)
    go_ret
    exact ⟨rfl, by (repeat' (first | (with_reducible exact Below.refl _ _) | (with_reducible assumption) | (with_reducible refine Below.setCell ?_ ?_ _) | (with_reducible refine Below.alloc ?_ ?_ _) | (with_reducible refine Below.drew ?_) | (with_reducible refine Up.base _ ?_ ?_) | (with_reducible exact LeSize.out) | exact LeSize.out | exact Nat.le_add_right_of_le LeSize.out | exact Nat.le_add_right_of_le (Nat.le_add_right_of_le LeSize.out) | (with_reducible exact Nat.le_refl _) | (simp; done) | (simp; omega)))⟩
  · go_enter Try.func4, Try.ntmps4
    go_wp2
    go_loopw [7] (fun i wr => ∃ (k : Nat) (on : Bool) (bad : Int), k ≤ zs.length ∧ i = .int .i64 k ∧ PlaysSt w wr p don doff dd de mon mof on bad) (fun i _ => zs.length - (intOf i).toNat)
    case atStart =>
      refine ⟨0, false, 0, Nat.zero_le _, rfl, ?_⟩
      unfold PlaysSt
      refine ⟨by (repeat' (first | (with_reducible exact Below.refl _ _) | (with_reducible assumption) | (with_reducible refine Below.setCell ?_ ?_ _) | (with_reducible refine Below.alloc ?_ ?_ _) | (with_reducible refine Below.drew ?_) | (with_reducible refine Up.base _ ?_ ?_) | (with_reducible exact LeSize.out) | exact LeSize.out | exact Nat.le_add_right_of_le LeSize.out | exact Nat.le_add_right_of_le (Nat.le_add_right_of_le LeSize.out) | (with_reducible exact Nat.le_refl _) | (simp; done) | (simp; omega))), inferInstance, inferInstance, inferInstance, ?_⟩
      simp [go_sem]
    case round =>
      obtain ⟨k, on, bad, hk, rfl, hst⟩ := hrel
      obtain ⟨hb, i1, i2, i3, f1, f2, f3, f4, ⟨c0, c1, c2, c3, c4, c5, c6⟩, ⟨d0, d1⟩, ⟨e0, e1⟩⟩ := hst
      have i0 : LeSize w.heap.size wr := ⟨hb.size⟩
      by_cases hlt : k < zs.length
      · obtain ⟨b, off, rfl, hbs, hc⟩ := HI.out.cell (by omega)
        have hcell : wr.cell? ⟨b, off + k, none⟩ = some (.float .f64 (zs.getD k 0)) := by rw [hb.cell (p := ⟨b, off + k, none⟩) (by simpa using hbs)]; exact hc k hlt
        have ib : LeSize (b + 1) wr := ⟨Nat.le_trans hbs hb.size⟩
        have ib1 : LeSize b w := ⟨Nat.le_of_lt hbs⟩
        have ib2 : LeSize (b + 1) w := ⟨hbs⟩
        clear hc
        go_wp2
        (refine wp_region_up_tail 7 (by kernel_rfl) (by kernel_rfl) ?_; simp only [List.take_succ_cons, List.take_zero, List.drop_succ_cons, List.drop_zero]; (repeat (go_big_quiet_step ((first | (go_at_call 7; exact Up.calls (step_any _ _ _ _ _ _ _ _ _ _ _)) | fail)))); refine wpQuiet_nil ?_; rintro _ ⟨u, rfl⟩)
        go_wp2
        (refine wp_region_up_tail 7 (by kernel_rfl) (by kernel_rfl) ?_; simp only [List.take_succ_cons, List.take_zero, List.drop_succ_cons, List.drop_zero]; (repeat (go_big_quiet_step ((first | (go_at_call 8; exact Up.calls (rstep_any _ _ _ _ _ _ _ _ _ _ _)) | fail)))); refine wpQuiet_nil ?_; rintro _ ⟨u, rfl⟩)
        go_wp2
        (refine wp_region_up (by kernel_rfl) (by kernel_rfl) ?_; (repeat (go_big_quiet_step ((first | (go_at_call 11; exact Up.calls (seen_any _ _ _)) | (go_at_call 12; exact Up.calls (rseen_any _ _ _)) | fail)))); refine wpQuiet_nil ?_; rintro _ ⟨u, rfl⟩)
        go_wp2
        go_roundw
        case rel =>
          refine ⟨k + 1, (levM don doff on bad zs[k]).1, (levM don doff on bad zs[k]).2, by omega, by go_num, ?_⟩
          unfold PlaysSt
          refine ⟨by (repeat' (first | (with_reducible exact Below.refl _ _) | (with_reducible assumption) | (with_reducible refine Below.setCell ?_ ?_ _) | (with_reducible refine Below.alloc ?_ ?_ _) | (with_reducible refine Below.drew ?_) | (with_reducible refine Up.base _ ?_ ?_) | (with_reducible exact LeSize.out) | exact LeSize.out | exact Nat.le_add_right_of_le LeSize.out | exact Nat.le_add_right_of_le (Nat.le_add_right_of_le LeSize.out) | (with_reducible exact Nat.le_refl _) | (simp; done) | (simp; omega))), inferInstance, inferInstance, inferInstance, ?_⟩
          simp [go_sem, c0, c1, c2, c3, c4, c5, c6, d0, d1, e0, e1, f1, f2, f3, f4]
        case measure => simp [intOf]; omega
      · go_wp2_with (go_at_call 13; refine (Up.run (awake_any _)).mono ?_; rintro e w' ⟨rfl, u, rfl⟩)
        go_ret
        exact ⟨rfl, by (repeat' (first | (with_reducible exact Below.refl _ _) | (with_reducible assumption) | (with_reducible refine Below.setCell ?_ ?_ _) | (with_reducible refine Below.alloc ?_ ?_ _) | (with_reducible refine Below.drew ?_) | (with_reducible refine Up.base _ ?_ ?_) | (with_reducible exact LeSize.out) | exact LeSize.out | exact Nat.le_add_right_of_le LeSize.out | exact Nat.le_add_right_of_le (Nat.le_add_right_of_le LeSize.out) | (with_reducible exact Nat.le_refl _) | (simp; done) | (simp; omega)))⟩
abbrev tsLevelPlays0 : List TypeId := [3, 22, 22, 22, 22, 3, 3]
set_option maxRecDepth 100000 in
theorem LevelPlays_lifted (os : Os) (started : os.Started) (H : Type) (enc : TypeId × Value → H) :
    ReturnsInHanded {} Try.checked os 4 .any (Rows.levelPlaysSpec.pre6 enc Try.prog Try.f4 Rows.levelPlaysRow.domain false) (Rows.levelPlaysSpec.post enc Try.prog Try.f4 false true false false) := by
  refine returnsInHanded_of_change (C := Try.checked) own started (by kernel_rfl) Try.func4
    (ChangeSpec.witness6 (enc := enc) (C := Try.checked) false ⟨#[], #[.agg #[.int .i64 0, .float .f64 0, .float .f64 0, .float .f64 0, .float .f64 0, .int .i64 0, .int .i64 0], .slice none 0 0], []⟩ 8 (by kernel_rfl) (by kernel_rfl) (by kernel_rfl) (by kernel_rfl)) ?_
  intro W base args ds gs before hval0 hW hcnd _
  have hval : ∀ (j : Nat) t v, Try.f4.params[j]? = some t → args[j]? = some v → Value.okWide Try.prog W .any base t v := hval0
  have hW' := hW
  obtain ⟨p, q, hA0, hV, rfl, hfz, hnd⟩ := hW
  have hA : DataW.TrodAll enc Try.prog W 0 (fun _ => true) true Try.f4.params.toList args.toList ds p := hA0
  rw [Try.params4] at hA hval
  obtain ⟨v0, vs0, d0, ds0, p0, q0, hargs, rfl, rfl, h0, r0⟩ := trodAll_cons hA
  obtain ⟨v1, vs1, d1, ds1, p1, q1, rfl, rfl, rfl, h1, r1⟩ := trodAll_cons r0
  obtain ⟨rfl, rfl, rfl⟩ := trodAll_nil r1
  obtain rfl : args = #[v0, v1] := by cases args; simp_all
  obtain ⟨rfl, rfl⟩ := trodVars_none hV
  have k0 := h0
  have lt0 : ∀ x ∈ p0, x.block < W.heap.size := by obtain ⟨m, hm⟩ := k0; exact DataW.trod_lt m _ _ _ hm
  have k1 := h1
  have lt1 : ∀ x ∈ p1, x.block < W.heap.size := by obtain ⟨m, hm⟩ := k1; exact DataW.trod_lt m _ _ _ hm
  obtain ⟨cs0, rfl, hs0, hf0⟩ := open_flat (ts := tsLevelPlays0) (by rw [Try.underlying24]) (by kernel_rfl) (by kernel_rfl) (hval 0 24 v0 rfl rfl)
  obtain ⟨e0_0, e0_1, e0_2, e0_3, e0_4, e0_5, e0_6, rfl⟩ := arr7 cs0 hs0
  obtain ⟨a0_0, rfl, w0_0⟩ := Fit.int (t := 3) (v := e0_0) (hf0 0 (by simp)) Try.underlying3
  obtain ⟨a0_1, rfl, w0_1⟩ := Fit.float (t := 22) (v := e0_1) (hf0 1 (by simp)) Try.underlying22
  obtain ⟨a0_2, rfl, w0_2⟩ := Fit.float (t := 22) (v := e0_2) (hf0 2 (by simp)) Try.underlying22
  obtain ⟨a0_3, rfl, w0_3⟩ := Fit.float (t := 22) (v := e0_3) (hf0 3 (by simp)) Try.underlying22
  obtain ⟨a0_4, rfl, w0_4⟩ := Fit.float (t := 22) (v := e0_4) (hf0 4 (by simp)) Try.underlying22
  obtain ⟨a0_5, rfl, w0_5⟩ := Fit.int (t := 3) (v := e0_5) (hf0 5 (by simp)) Try.underlying3
  obtain ⟨a0_6, rfl, w0_6⟩ := Fit.int (t := 3) (v := e0_6) (hf0 6 (by simp)) Try.underlying3
  obtain ⟨a1, cap1, z1, rfl, hl1, hm1, hh1, hr1, iz1⟩ := open_floats1 Try.underlying31 Try.underlying22 (by kernel_rfl) (hval 1 31 v1 rfl rfl) k1
  clear hA0 hval0
  refine (levelPlays_walk a0_0 a0_1 a0_2 a0_3 a0_4 a0_5 a0_6 a1 cap1 z1 W w0_0 w0_1 w0_2 w0_3 w0_4 w0_5 w0_6 ⟨hl1, hm1⟩ hh1 hr1 iz1).mono fun e W' ⟨he, bel⟩ => ?_
  subst he
  exact ⟨_, rfl, _, _, _, [], _, [], hW', trodAll_mk1 (shut_bool Try.underlying4 _), (trodAll_cons_mk (Below.trod laidOut (by kernel_rfl) (of_decide_eq_true (by kernel_rfl)) k0 bel lt0) (trodAll_cons_mk (Below.trod laidOut (by kernel_rfl) (of_decide_eq_true (by kernel_rfl)) k1 bel lt1) trodAll_mk0)), rfl, bel.frame _, fun h => by cases h⟩

theorem LevelPlays_over : Rows.levelPlaysRow.holds Try.pinned (OpenSpec.ofChange Rows.levelPlaysSpec) :=
  OpenClaim.holds_of_wide 4 Try.f4 rfl rfl rfl rfl rfl rfl rfl ⟨rfl, rfl, rfl, rfl, rfl⟩ rfl rfl rfl rfl rfl (by kernel_rfl) Try.func4 (by kernel_rfl)
    (of_decide_eq_true (by kernel_rfl)) (by unfold Func.isWrapper; first | (rw [if_pos (by decide +kernel)]; kernel_rfl) | (rw [if_neg (by decide +kernel)]; exact ⟨rfl, rfl⟩))
    (fun os started H enc _ => LevelPlays_lifted os started H enc)

/-- The given statement. -/
theorem LevelPlays_holds : Rows.LevelPlaysSaid := LevelPlays_over
#print axioms LevelPlays_holds
end Go.Proofs.Ytmfhcmnipkokmaa
