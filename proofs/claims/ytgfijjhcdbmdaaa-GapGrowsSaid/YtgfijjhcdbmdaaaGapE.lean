/- The law GapGrows: the walk, and the given statement. -/
import Derived.Test.YtgfijjhcdbmdaaaGapC
import Derived.Test.YtgfijjhcdbmdaaaFitsZ
namespace Go.Proofs.Ytgfijjhcdbmdaaa
open Go.ChangeShapes Go.WideShapes Go.ChangeAt Go.RowKit
set_option linter.unusedVariables false

theorem grLim_bd {mx tp st : Int} (hmx : 0 ≤ mx ∧ mx ≤ 9999) (htp : 0 ≤ tp ∧ tp ≤ 9999) (hst : 0 ≤ st ∧ st ≤ 9999) (lim up dn : Int) (m : Bool) : 0 ≤ grLim mx tp st lim up dn m ∧ grLim mx tp st lim up dn m ≤ 9999 := by
  unfold grLim limM; omega
theorem phaseM_bd {pmin pgap pmax ptop pstep pyel pred pwalk pblinks prec : Int} (h : phaseM pmin pgap pmax ptop pstep pyel pred pwalk pblinks prec = true) :
    (0 ≤ pmin ∧ pmin ≤ 9999) ∧ (0 ≤ pgap ∧ pgap ≤ 9999) ∧ (0 ≤ pmax ∧ pmax ≤ 9999) ∧ (0 ≤ ptop ∧ ptop ≤ 9999) ∧ (0 ≤ pstep ∧ pstep ≤ 9999) ∧ (0 ≤ pyel ∧ pyel ≤ 9999) ∧ (0 ≤ pred ∧ pred ≤ 9999) ∧ (0 ≤ pwalk ∧ pwalk ≤ 9999) ∧ (0 ≤ pblinks ∧ pblinks ≤ 9999) ∧ (0 ≤ prec ∧ prec ≤ 3) := by
  simpa [phaseM, uptoM, and_assoc] using h
theorem cut01 (n : Int) : cutM n 0 1 = bit01 n := by unfold cutM bit01; split <;> (try split) <;> omega
theorem rcut01_any (a : Int) (w : World) :
    Calls Try.prog 30 #[.int .i64 a, .int .i64 0, .int .i64 1] w fun e w' => e = .returned (.int .i64 (bit01 a)) ∧ w = w' := by
  have := cut_any a 0 1 w
  rwa [cut01] at this
theorem limM_limM (mx tp lim : Int) : limM mx tp (limM mx tp lim) = limM mx tp lim := by unfold limM; omega
theorem limM_le {mx tp lim : Int} (hmx : 0 ≤ mx ∧ mx ≤ 9999) (htp : 0 ≤ tp ∧ tp ≤ 9999) : 0 ≤ limM mx tp lim ∧ limM mx tp lim ≤ 9999 := by unfold limM; omega
set_option maxHeartbeats 4000000 in
theorem rgrow_any (pon : Bool) (pmin pgap pmax ptop pstep pyel pred pwalk pblinks prec : Int) (plock prest : Bool) (lim up dn : Int) (m : Bool) (w : World) (hmx : 0 ≤ pmax ∧ pmax ≤ 9999) (htp : 0 ≤ ptop ∧ ptop ≤ 9999) (hst : 0 ≤ pstep ∧ pstep ≤ 9999) :
    Calls Try.prog 17 #[.agg #[.bool pon, .int .i64 pmin, .int .i64 pgap, .int .i64 pmax, .int .i64 ptop, .int .i64 pstep, .int .i64 pyel, .int .i64 pred, .int .i64 pwalk, .int .i64 pblinks, .int .i64 prec, .bool plock, .bool prest], .agg #[.int .i64 lim, .int .i64 up, .int .i64 dn], .bool m] w
      fun e w' => e = .returned (.agg #[.int .i64 (grLim pmax ptop pstep lim up dn m), .int .i64 (grUp up m), .int .i64 (grDn dn m)]) ∧ Below w.heap.size w w' := by
  have hl := limM_le (lim := lim) hmx htp
  have HP : Hid (plusM (limM pmax ptop lim) pstep = limM pmax ptop lim + pstep) := Lib.hid (by unfold plusM; (repeat' split) <;> omega)
  have HM : Hid (minusM (limM pmax ptop lim) pstep = limM pmax ptop lim - pstep) := Lib.hid (by unfold minusM; (repeat' split) <;> omega)
  rcases bit01_or up with u1 | u1
  all_goals rcases bit01_or dn with d1 | d1
  all_goals
    have U1 := Lib.hid u1
    have D1 := Lib.hid d1
    cases m
  all_goals
    go_enter Try.func17, Try.ntmps17
    go_wp2_with (first
    | (go_at_call 11; refine (Up.run (rlimit_any _ _ _ _ _ _ _ _ _ _ _ _ _ _ _ _ _)).mono ?_; rintro e w' ⟨rfl, u, rfl⟩)
    | (go_at_call 30; refine (rcut01_any _ _).mono ?_; rintro e w' ⟨rfl, rfl⟩))
    go_returns
    exact ⟨ret_tr (by simp [grLim, U1.out, D1.out, HP.out, HM.out, limM_limM]) (by simp [grUp, U1.out]) (by simp [grDn, D1.out]), by (repeat' (first | (with_reducible exact Below.refl _ _) | (with_reducible assumption) | (with_reducible refine Below.setCell ?_ ?_ _) | (with_reducible refine Below.alloc ?_ ?_ _) | (with_reducible refine Below.drew ?_) | (with_reducible refine Up.base _ ?_ ?_) | (with_reducible exact LeSize.out) | exact LeSize.out | exact Nat.le_add_right_of_le LeSize.out | exact Nat.le_add_right_of_le (Nat.le_add_right_of_le LeSize.out) | (with_reducible exact Nat.le_refl _) | (simp; done) | (simp; omega)))⟩

/-- The phase and both trends in memory. -/
def GrowSt (w wr : World) (ba bb : Nat) (pon : Bool) (pmin pgap pmax ptop pstep pyel pred pwalk pblinks prec : Int) (plock prest : Bool) (lim up dn : Int) : Prop :=
  Below w.heap.size w wr ∧ LeSize (w.heap.size + 1) wr ∧ LeSize (ba + 1) wr ∧ LeSize (bb + 1) wr ∧
  wr.frozen? ⟨ba, 0, none⟩ = false ∧ wr.frozen? ⟨ba, 1, none⟩ = false ∧ wr.frozen? ⟨ba, 2, none⟩ = false ∧ wr.frozen? ⟨bb, 0, none⟩ = false ∧ wr.frozen? ⟨bb, 1, none⟩ = false ∧ wr.frozen? ⟨bb, 2, none⟩ = false ∧
  (wr.cell? ⟨w.heap.size, 0, none⟩ = some (.bool pon) ∧ wr.cell? ⟨w.heap.size, 1, none⟩ = some (.int .i64 pmin) ∧ wr.cell? ⟨w.heap.size, 2, none⟩ = some (.int .i64 pgap) ∧ wr.cell? ⟨w.heap.size, 3, none⟩ = some (.int .i64 pmax) ∧ wr.cell? ⟨w.heap.size, 4, none⟩ = some (.int .i64 ptop) ∧ wr.cell? ⟨w.heap.size, 5, none⟩ = some (.int .i64 pstep) ∧ wr.cell? ⟨w.heap.size, 6, none⟩ = some (.int .i64 pyel) ∧ wr.cell? ⟨w.heap.size, 7, none⟩ = some (.int .i64 pred) ∧ wr.cell? ⟨w.heap.size, 8, none⟩ = some (.int .i64 pwalk) ∧ wr.cell? ⟨w.heap.size, 9, none⟩ = some (.int .i64 pblinks) ∧ wr.cell? ⟨w.heap.size, 10, none⟩ = some (.int .i64 prec) ∧ wr.cell? ⟨w.heap.size, 11, none⟩ = some (.bool plock) ∧ wr.cell? ⟨w.heap.size, 12, none⟩ = some (.bool prest)) ∧ (wr.cell? ⟨ba, 0, none⟩ = some (.int .i64 lim) ∧ wr.cell? ⟨ba, 1, none⟩ = some (.int .i64 up) ∧ wr.cell? ⟨ba, 2, none⟩ = some (.int .i64 dn)) ∧ (wr.cell? ⟨bb, 0, none⟩ = some (.int .i64 lim) ∧ wr.cell? ⟨bb, 1, none⟩ = some (.int .i64 up) ∧ wr.cell? ⟨bb, 2, none⟩ = some (.int .i64 dn))
set_option maxHeartbeats 8000000 in
set_option maxRecDepth 100000 in
theorem gapGrows_walk (pon : Bool) (pmin pgap pmax ptop pstep pyel pred pwalk pblinks prec : Int) (plock prest : Bool) (lim up dn : Int) (a : Option Addr) (cap : Nat) (zs : List Bool) (w : World) (_ : InKind .i64 pmin) (_ : InKind .i64 pgap) (_ : InKind .i64 pmax) (_ : InKind .i64 ptop) (_ : InKind .i64 pstep) (_ : InKind .i64 pyel) (_ : InKind .i64 pred) (_ : InKind .i64 pwalk) (_ : InKind .i64 pblinks) (_ : InKind .i64 prec) (hlim : InKind .i64 lim) (_ : InKind .i64 up) (_ : InKind .i64 dn) (hl : zs.length ≤ cap ∧ cap ≤ 9223372036854775807) (hh : Hdr w a cap) (hi : Bools w a zs) :
    Calls Try.prog 6 #[.agg #[.bool pon, .int .i64 pmin, .int .i64 pgap, .int .i64 pmax, .int .i64 ptop, .int .i64 pstep, .int .i64 pyel, .int .i64 pred, .int .i64 pwalk, .int .i64 pblinks, .int .i64 prec, .bool plock, .bool prest], .agg #[.int .i64 lim, .int .i64 up, .int .i64 dn], .slice a zs.length cap] w fun e w' => e = .returned (.bool true) ∧ Below w.heap.size w w' := by
  have HI := Lib.hid hi
  clear hi hh
  cases hf : phaseM pmin pgap pmax ptop pstep pyel pred pwalk pblinks prec
  · go_enter Try.func6, Try.ntmps6
    go_wp2_with (first
    | (go_at_call 16; refine (Up.run (fits_any _ _ _ _ _ _ _ _ _ _ _ _ _ _)).mono ?_; rintro e w' ⟨rfl, u, rfl⟩)
    | (go_at_call 12; refine (Up.run (awake_any _)).mono ?_; rintro e w' ⟨rfl, u, rfl⟩))
    go_ret
    exact ⟨rfl, by (repeat' (first | (with_reducible exact Below.refl _ _) | (with_reducible assumption) | (with_reducible refine Below.setCell ?_ ?_ _) | (with_reducible refine Below.alloc ?_ ?_ _) | (with_reducible refine Below.drew ?_) | (with_reducible refine Up.base _ ?_ ?_) | (with_reducible exact LeSize.out) | exact LeSize.out | exact Nat.le_add_right_of_le LeSize.out | exact Nat.le_add_right_of_le (Nat.le_add_right_of_le LeSize.out) | (with_reducible exact Nat.le_refl _) | (simp; done) | (simp; omega)))⟩
  obtain ⟨_, _, hmx, htp, hst', _⟩ := phaseM_bd hf
  by_cases h100 : (100 : Int) < zs.length
  · go_enter Try.func6, Try.ntmps6
    go_wp2_with (first
    | (go_at_call 16; refine (Up.run (fits_any _ _ _ _ _ _ _ _ _ _ _ _ _ _)).mono ?_; rintro e w' ⟨rfl, u, rfl⟩)
    | (go_at_call 12; refine (Up.run (awake_any _)).mono ?_; rintro e w' ⟨rfl, u, rfl⟩))
    go_ret
    exact ⟨rfl, by (repeat' (first | (with_reducible exact Below.refl _ _) | (with_reducible assumption) | (with_reducible refine Below.setCell ?_ ?_ _) | (with_reducible refine Below.alloc ?_ ?_ _) | (with_reducible refine Below.drew ?_) | (with_reducible refine Up.base _ ?_ ?_) | (with_reducible exact LeSize.out) | exact LeSize.out | exact Nat.le_add_right_of_le LeSize.out | exact Nat.le_add_right_of_le (Nat.le_add_right_of_le LeSize.out) | (with_reducible exact Nat.le_refl _) | (simp; done) | (simp; omega)))⟩
  go_enter Try.func6, Try.ntmps6
  go_wp2_with (go_at_call 16; refine (Up.run (fits_any _ _ _ _ _ _ _ _ _ _ _ _ _ _)).mono ?_; rintro e w' ⟨rfl, u, rfl⟩)
  clear hf
  have hlim : -9223372036854775808 ≤ lim ∧ lim ≤ 9223372036854775807 := hlim
  go_region
  · skip
    go_wp2
    go_loopw [9] (fun i wr => ∃ (k : Nat) (lim up dn : Int), k ≤ zs.length ∧ i = .int .i64 k ∧ (-9223372036854775808 ≤ lim ∧ lim ≤ 9223372036854775807) ∧ GrowSt w wr (u.w.heap.size) (u.w.heap.size + 1) pon pmin pgap pmax ptop pstep pyel pred pwalk pblinks prec plock prest lim up dn) (fun i _ => zs.length - (intOf i).toNat)
    case atStart =>
      refine ⟨0, lim, up, dn, Nat.zero_le _, rfl, ⟨hlim.1, hlim.2⟩, ?_⟩
      unfold GrowSt
      refine ⟨by (repeat' (first | (with_reducible exact Below.refl _ _) | (with_reducible assumption) | (with_reducible refine Below.setCell ?_ ?_ _) | (with_reducible refine Below.alloc ?_ ?_ _) | (with_reducible refine Below.drew ?_) | (with_reducible refine Up.base _ ?_ ?_) | (with_reducible exact LeSize.out) | exact LeSize.out | exact Nat.le_add_right_of_le LeSize.out | exact Nat.le_add_right_of_le (Nat.le_add_right_of_le LeSize.out) | (with_reducible exact Nat.le_refl _) | (simp; done) | (simp; omega))), inferInstance, inferInstance, inferInstance, ?_⟩
      simp [go_sem]
    case round =>
      obtain ⟨k, lim, up, dn, hk, rfl, hlim, hst⟩ := hrel
      obtain ⟨hb, i1, i2, i3, f1, f2, f3, f4, f5, f6, ⟨c0, c1, c2, c3, c4, c5, c6, c7, c8, c9, c10, c11, c12⟩, ⟨d0, d1, d2⟩, ⟨e0, e1, e2⟩⟩ := hst
      have i0 : LeSize w.heap.size wr := ⟨hb.size⟩
      have j_d0 := HasCell.of d0
      have j_d1 := HasCell.of d1
      have j_d2 := HasCell.of d2
      have j_e0 := HasCell.of e0
      have j_e1 := HasCell.of e1
      have j_e2 := HasCell.of e2
      by_cases hlt : k < zs.length
      · obtain ⟨b, off, rfl, hbs, hc⟩ := HI.out.cell (by omega)
        have hcell : wr.cell? ⟨b, off + k, none⟩ = some (.bool (zs.getD k false)) := by rw [hb.cell (p := ⟨b, off + k, none⟩) (by simpa using hbs)]; exact hc k hlt
        have ib : LeSize (b + 1) wr := ⟨Nat.le_trans hbs hb.size⟩
        have ib1 : LeSize b w := ⟨Nat.le_of_lt hbs⟩
        have ib2 : LeSize (b + 1) w := ⟨hbs⟩
        clear hc
        have hg := grLim_bd hmx htp hst' lim up dn zs[k]
        go_wp2
        (refine wp_region_up_tail 7 (by kernel_rfl) (by kernel_rfl) ?_; simp only [List.take_succ_cons, List.take_zero, List.drop_succ_cons, List.drop_zero]; (repeat (go_big_quiet_step ((first | (go_at_call 15; exact Up.calls (grow_any _ _ _ _ _ _ _ _ _ _ _ _ _ _ _ _ _ _ (by unfold InKind; omega) (by unfold InKind; omega) (by unfold InKind; omega) (by unfold InKind; omega))) | fail)))); refine wpQuiet_nil ?_; rintro _ ⟨u, rfl⟩)
        go_wp2
        (refine wp_region_up_tail 7 (by kernel_rfl) (by kernel_rfl) ?_; simp only [List.take_succ_cons, List.take_zero, List.drop_succ_cons, List.drop_zero]; (repeat (go_big_quiet_step ((first | (go_at_call 17; exact Up.calls (rgrow_any _ _ _ _ _ _ _ _ _ _ _ _ _ _ _ _ _ _ (by assumption) (by assumption) (by assumption))) | fail)))); refine wpQuiet_nil ?_; rintro _ ⟨u, rfl⟩)
        go_wp2
        (refine wp_region_up (by kernel_rfl) (by kernel_rfl) ?_; (repeat (go_big_quiet_step ((first | (go_at_call 10; exact Up.calls (limit_any _ _ _ _ _ _ _ _ _ _ _ _ _ _ _ _ _)) | (go_at_call 11; exact Up.calls (rlimit_any _ _ _ _ _ _ _ _ _ _ _ _ _ _ _ _ _)) | fail)))); refine wpQuiet_nil ?_; rintro _ ⟨u, rfl⟩)
        go_wp2
        go_roundw
        case rel =>
          refine ⟨k + 1, grLim pmax ptop pstep lim up dn zs[k], grUp up zs[k], grDn dn zs[k], by omega, by go_num, ⟨by omega, by omega⟩, ?_⟩
          unfold GrowSt
          refine ⟨by (repeat' (first | (with_reducible exact Below.refl _ _) | (with_reducible assumption) | (with_reducible refine Below.setCell ?_ ?_ _) | (with_reducible refine Below.alloc ?_ ?_ _) | (with_reducible refine Below.drew ?_) | (with_reducible refine Up.base _ ?_ ?_) | (with_reducible exact LeSize.out) | exact LeSize.out | exact Nat.le_add_right_of_le LeSize.out | exact Nat.le_add_right_of_le (Nat.le_add_right_of_le LeSize.out) | (with_reducible exact Nat.le_refl _) | (simp; done) | (simp; omega))), inferInstance, inferInstance, inferInstance, ?_⟩
          simp [go_sem, c0, c1, c2, c3, c4, c5, c6, c7, c8, c9, c10, c11, c12, d0, d1, d2, e0, e1, e2, f1, f2, f3, f4, f5, f6]
        case measure => simp [intOf]; omega
      · go_wp2_with (go_at_call 12; refine (Up.run (awake_any _)).mono ?_; rintro e w' ⟨rfl, u, rfl⟩)
        go_ret
        exact ⟨rfl, by (repeat' (first | (with_reducible exact Below.refl _ _) | (with_reducible assumption) | (with_reducible refine Below.setCell ?_ ?_ _) | (with_reducible refine Below.alloc ?_ ?_ _) | (with_reducible refine Below.drew ?_) | (with_reducible refine Up.base _ ?_ ?_) | (with_reducible exact LeSize.out) | exact LeSize.out | exact Nat.le_add_right_of_le LeSize.out | exact Nat.le_add_right_of_le (Nat.le_add_right_of_le LeSize.out) | (with_reducible exact Nat.le_refl _) | (simp; done) | (simp; omega)))⟩
  · skip
    go_wp2
    go_loopw [9] (fun i wr => ∃ (k : Nat) (lim up dn : Int), k ≤ zs.length ∧ i = .int .i64 k ∧ (-9223372036854775808 ≤ lim ∧ lim ≤ 9223372036854775807) ∧ GrowSt w wr (u.w.heap.size + 1) (u.w.heap.size) pon pmin pgap pmax ptop pstep pyel pred pwalk pblinks prec plock prest lim up dn) (fun i _ => zs.length - (intOf i).toNat)
    case atStart =>
      refine ⟨0, lim, up, dn, Nat.zero_le _, rfl, ⟨hlim.1, hlim.2⟩, ?_⟩
      unfold GrowSt
      refine ⟨by (repeat' (first | (with_reducible exact Below.refl _ _) | (with_reducible assumption) | (with_reducible refine Below.setCell ?_ ?_ _) | (with_reducible refine Below.alloc ?_ ?_ _) | (with_reducible refine Below.drew ?_) | (with_reducible refine Up.base _ ?_ ?_) | (with_reducible exact LeSize.out) | exact LeSize.out | exact Nat.le_add_right_of_le LeSize.out | exact Nat.le_add_right_of_le (Nat.le_add_right_of_le LeSize.out) | (with_reducible exact Nat.le_refl _) | (simp; done) | (simp; omega))), inferInstance, inferInstance, inferInstance, ?_⟩
      simp [go_sem]
    case round =>
      obtain ⟨k, lim, up, dn, hk, rfl, hlim, hst⟩ := hrel
      obtain ⟨hb, i1, i2, i3, f1, f2, f3, f4, f5, f6, ⟨c0, c1, c2, c3, c4, c5, c6, c7, c8, c9, c10, c11, c12⟩, ⟨d0, d1, d2⟩, ⟨e0, e1, e2⟩⟩ := hst
      have i0 : LeSize w.heap.size wr := ⟨hb.size⟩
      have j_d0 := HasCell.of d0
      have j_d1 := HasCell.of d1
      have j_d2 := HasCell.of d2
      have j_e0 := HasCell.of e0
      have j_e1 := HasCell.of e1
      have j_e2 := HasCell.of e2
      by_cases hlt : k < zs.length
      · obtain ⟨b, off, rfl, hbs, hc⟩ := HI.out.cell (by omega)
        have hcell : wr.cell? ⟨b, off + k, none⟩ = some (.bool (zs.getD k false)) := by rw [hb.cell (p := ⟨b, off + k, none⟩) (by simpa using hbs)]; exact hc k hlt
        have ib : LeSize (b + 1) wr := ⟨Nat.le_trans hbs hb.size⟩
        have ib1 : LeSize b w := ⟨Nat.le_of_lt hbs⟩
        have ib2 : LeSize (b + 1) w := ⟨hbs⟩
        clear hc
        have hg := grLim_bd hmx htp hst' lim up dn zs[k]
        go_wp2
        (refine wp_region_up_tail 7 (by kernel_rfl) (by kernel_rfl) ?_; simp only [List.take_succ_cons, List.take_zero, List.drop_succ_cons, List.drop_zero]; (repeat (go_big_quiet_step ((first | (go_at_call 15; exact Up.calls (grow_any _ _ _ _ _ _ _ _ _ _ _ _ _ _ _ _ _ _ (by unfold InKind; omega) (by unfold InKind; omega) (by unfold InKind; omega) (by unfold InKind; omega))) | fail)))); refine wpQuiet_nil ?_; rintro _ ⟨u, rfl⟩)
        go_wp2
        (refine wp_region_up_tail 7 (by kernel_rfl) (by kernel_rfl) ?_; simp only [List.take_succ_cons, List.take_zero, List.drop_succ_cons, List.drop_zero]; (repeat (go_big_quiet_step ((first | (go_at_call 17; exact Up.calls (rgrow_any _ _ _ _ _ _ _ _ _ _ _ _ _ _ _ _ _ _ (by assumption) (by assumption) (by assumption))) | fail)))); refine wpQuiet_nil ?_; rintro _ ⟨u, rfl⟩)
        go_wp2
        (refine wp_region_up (by kernel_rfl) (by kernel_rfl) ?_; (repeat (go_big_quiet_step ((first | (go_at_call 10; exact Up.calls (limit_any _ _ _ _ _ _ _ _ _ _ _ _ _ _ _ _ _)) | (go_at_call 11; exact Up.calls (rlimit_any _ _ _ _ _ _ _ _ _ _ _ _ _ _ _ _ _)) | fail)))); refine wpQuiet_nil ?_; rintro _ ⟨u, rfl⟩)
        go_wp2
        go_roundw
        case rel =>
          refine ⟨k + 1, grLim pmax ptop pstep lim up dn zs[k], grUp up zs[k], grDn dn zs[k], by omega, by go_num, ⟨by omega, by omega⟩, ?_⟩
          unfold GrowSt
          refine ⟨by (repeat' (first | (with_reducible exact Below.refl _ _) | (with_reducible assumption) | (with_reducible refine Below.setCell ?_ ?_ _) | (with_reducible refine Below.alloc ?_ ?_ _) | (with_reducible refine Below.drew ?_) | (with_reducible refine Up.base _ ?_ ?_) | (with_reducible exact LeSize.out) | exact LeSize.out | exact Nat.le_add_right_of_le LeSize.out | exact Nat.le_add_right_of_le (Nat.le_add_right_of_le LeSize.out) | (with_reducible exact Nat.le_refl _) | (simp; done) | (simp; omega))), inferInstance, inferInstance, inferInstance, ?_⟩
          simp [go_sem, c0, c1, c2, c3, c4, c5, c6, c7, c8, c9, c10, c11, c12, d0, d1, d2, e0, e1, e2, f1, f2, f3, f4, f5, f6]
        case measure => simp [intOf]; omega
      · go_wp2_with (go_at_call 12; refine (Up.run (awake_any _)).mono ?_; rintro e w' ⟨rfl, u, rfl⟩)
        go_ret
        exact ⟨rfl, by (repeat' (first | (with_reducible exact Below.refl _ _) | (with_reducible assumption) | (with_reducible refine Below.setCell ?_ ?_ _) | (with_reducible refine Below.alloc ?_ ?_ _) | (with_reducible refine Below.drew ?_) | (with_reducible refine Up.base _ ?_ ?_) | (with_reducible exact LeSize.out) | exact LeSize.out | exact Nat.le_add_right_of_le LeSize.out | exact Nat.le_add_right_of_le (Nat.le_add_right_of_le LeSize.out) | (with_reducible exact Nat.le_refl _) | (simp; done) | (simp; omega)))⟩

abbrev tsGapGrows0 : List TypeId := [4, 3, 3, 3, 3, 3, 3, 3, 3, 3, 3, 4, 4]
abbrev tsGapGrows1 : List TypeId := [3, 3, 3]
set_option maxRecDepth 100000 in
theorem GapGrows_lifted (os : Os) (started : os.Started) (H : Type) (enc : TypeId × Value → H) :
    ReturnsInHanded {} Try.checked os 6 .any (Rows.gapGrowsSpec.pre6 enc Try.prog Try.f6 Rows.gapGrowsRow.domain false) (Rows.gapGrowsSpec.post enc Try.prog Try.f6 false true false false) := by
  refine returnsInHanded_of_change (C := Try.checked) own started (by kernel_rfl) Try.func6
    (ChangeSpec.witness6 (enc := enc) (C := Try.checked) false ⟨#[], #[.agg #[.bool false, .int .i64 0, .int .i64 0, .int .i64 0, .int .i64 0, .int .i64 0, .int .i64 0, .int .i64 0, .int .i64 0, .int .i64 0, .int .i64 0, .bool false, .bool false], .agg #[.int .i64 0, .int .i64 0, .int .i64 0], .slice none 0 0], []⟩ 8 (by kernel_rfl) (by kernel_rfl) (by kernel_rfl) (by kernel_rfl)) ?_
  intro W base args ds gs before hval0 hW hcnd _
  have hval : ∀ (j : Nat) t v, Try.f6.params[j]? = some t → args[j]? = some v → Value.okWide Try.prog W .any base t v := hval0
  have hW' := hW
  obtain ⟨p, q, hA0, hV, rfl, hfz, hnd⟩ := hW
  have hA : DataW.TrodAll enc Try.prog W 0 (fun _ => true) true Try.f6.params.toList args.toList ds p := hA0
  rw [Try.params6] at hA hval
  obtain ⟨v0, vs0, d0, ds0, p0, q0, hargs, rfl, rfl, h0, r0⟩ := trodAll_cons hA
  obtain ⟨v1, vs1, d1, ds1, p1, q1, rfl, rfl, rfl, h1, r1⟩ := trodAll_cons r0
  obtain ⟨v2, vs2, d2, ds2, p2, q2, rfl, rfl, rfl, h2, r2⟩ := trodAll_cons r1
  obtain ⟨rfl, rfl, rfl⟩ := trodAll_nil r2
  obtain rfl : args = #[v0, v1, v2] := by cases args; simp_all
  obtain ⟨rfl, rfl⟩ := trodVars_none hV
  have k0 := h0
  have lt0 : ∀ x ∈ p0, x.block < W.heap.size := by obtain ⟨m, hm⟩ := k0; exact DataW.trod_lt m _ _ _ hm
  have k1 := h1
  have lt1 : ∀ x ∈ p1, x.block < W.heap.size := by obtain ⟨m, hm⟩ := k1; exact DataW.trod_lt m _ _ _ hm
  have k2 := h2
  have lt2 : ∀ x ∈ p2, x.block < W.heap.size := by obtain ⟨m, hm⟩ := k2; exact DataW.trod_lt m _ _ _ hm
  obtain ⟨cs0, rfl, hs0, hf0⟩ := open_flat (ts := tsGapGrows0) (by rw [Try.underlying23]) (by kernel_rfl) (by kernel_rfl) (hval 0 23 v0 rfl rfl)
  obtain ⟨e0_0, e0_1, e0_2, e0_3, e0_4, e0_5, e0_6, e0_7, e0_8, e0_9, e0_10, e0_11, e0_12, rfl⟩ := arr13 cs0 hs0
  obtain ⟨a0_0, rfl⟩ := Fit.bool (t := 4) (v := e0_0) (hf0 0 (by simp)) Try.underlying4
  obtain ⟨a0_1, rfl, w0_1⟩ := Fit.int (t := 3) (v := e0_1) (hf0 1 (by simp)) Try.underlying3
  obtain ⟨a0_2, rfl, w0_2⟩ := Fit.int (t := 3) (v := e0_2) (hf0 2 (by simp)) Try.underlying3
  obtain ⟨a0_3, rfl, w0_3⟩ := Fit.int (t := 3) (v := e0_3) (hf0 3 (by simp)) Try.underlying3
  obtain ⟨a0_4, rfl, w0_4⟩ := Fit.int (t := 3) (v := e0_4) (hf0 4 (by simp)) Try.underlying3
  obtain ⟨a0_5, rfl, w0_5⟩ := Fit.int (t := 3) (v := e0_5) (hf0 5 (by simp)) Try.underlying3
  obtain ⟨a0_6, rfl, w0_6⟩ := Fit.int (t := 3) (v := e0_6) (hf0 6 (by simp)) Try.underlying3
  obtain ⟨a0_7, rfl, w0_7⟩ := Fit.int (t := 3) (v := e0_7) (hf0 7 (by simp)) Try.underlying3
  obtain ⟨a0_8, rfl, w0_8⟩ := Fit.int (t := 3) (v := e0_8) (hf0 8 (by simp)) Try.underlying3
  obtain ⟨a0_9, rfl, w0_9⟩ := Fit.int (t := 3) (v := e0_9) (hf0 9 (by simp)) Try.underlying3
  obtain ⟨a0_10, rfl, w0_10⟩ := Fit.int (t := 3) (v := e0_10) (hf0 10 (by simp)) Try.underlying3
  obtain ⟨a0_11, rfl⟩ := Fit.bool (t := 4) (v := e0_11) (hf0 11 (by simp)) Try.underlying4
  obtain ⟨a0_12, rfl⟩ := Fit.bool (t := 4) (v := e0_12) (hf0 12 (by simp)) Try.underlying4
  obtain ⟨cs1, rfl, hs1, hf1⟩ := open_flat (ts := tsGapGrows1) (by rw [Try.underlying25]) (by kernel_rfl) (by kernel_rfl) (hval 1 25 v1 rfl rfl)
  obtain ⟨e1_0, e1_1, e1_2, rfl⟩ := arr3 cs1 hs1
  obtain ⟨a1_0, rfl, w1_0⟩ := Fit.int (t := 3) (v := e1_0) (hf1 0 (by simp)) Try.underlying3
  obtain ⟨a1_1, rfl, w1_1⟩ := Fit.int (t := 3) (v := e1_1) (hf1 1 (by simp)) Try.underlying3
  obtain ⟨a1_2, rfl, w1_2⟩ := Fit.int (t := 3) (v := e1_2) (hf1 2 (by simp)) Try.underlying3
  obtain ⟨a2, cap2, z2, rfl, hl2, hm2, hh2, hr2⟩ := open_bools1 Try.underlying32 Try.underlying4 (by kernel_rfl) (hval 2 32 v2 rfl rfl) k2
  clear hA0 hval0
  refine (gapGrows_walk a0_0 a0_1 a0_2 a0_3 a0_4 a0_5 a0_6 a0_7 a0_8 a0_9 a0_10 a0_11 a0_12 a1_0 a1_1 a1_2 a2 cap2 z2 W w0_1 w0_2 w0_3 w0_4 w0_5 w0_6 w0_7 w0_8 w0_9 w0_10 w1_0 w1_1 w1_2 ⟨hl2, hm2⟩ hh2 hr2).mono fun e W' ⟨he, bel⟩ => ?_
  subst he
  exact ⟨_, rfl, _, _, _, [], _, [], hW', trodAll_mk1 (shut_bool Try.underlying4 _), (trodAll_cons_mk (Below.trod laidOut (by kernel_rfl) (of_decide_eq_true (by kernel_rfl)) k0 bel lt0) (trodAll_cons_mk (Below.trod laidOut (by kernel_rfl) (of_decide_eq_true (by kernel_rfl)) k1 bel lt1) (trodAll_cons_mk (Below.trod laidOut (by kernel_rfl) (of_decide_eq_true (by kernel_rfl)) k2 bel lt2) trodAll_mk0))), rfl, bel.frame _, fun h => by cases h⟩

theorem GapGrows_over : Rows.gapGrowsRow.holds Try.pinned (OpenSpec.ofChange Rows.gapGrowsSpec) :=
  OpenClaim.holds_of_wide 6 Try.f6 rfl rfl rfl rfl rfl rfl rfl ⟨rfl, rfl, rfl, rfl, rfl⟩ rfl rfl rfl rfl rfl (by kernel_rfl) Try.func6 (by kernel_rfl)
    (of_decide_eq_true (by kernel_rfl)) (by unfold Func.isWrapper; first | (rw [if_pos (by decide +kernel)]; kernel_rfl) | (rw [if_neg (by decide +kernel)]; exact ⟨rfl, rfl⟩))
    (fun os started H enc _ => GapGrows_lifted os started H enc)

/-- The given statement. -/
theorem GapGrows_holds : Rows.GapGrowsSaid := GapGrows_over
#print axioms GapGrows_holds
end Go.Proofs.Ytgfijjhcdbmdaaa
