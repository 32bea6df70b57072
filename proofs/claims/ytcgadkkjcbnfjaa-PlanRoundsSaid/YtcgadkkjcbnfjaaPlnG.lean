/- Repeated calls of Next visit all phases of a set in a row of a table by numbers once, in order. -/
import Derived.Test.YtcgadkkjcbnfjaaPlnF
namespace Go.Proofs.Ytcgadkkjcbnfjaa
open Go.ChangeShapes Go.WideShapes Go.ChangeAt Go.RowKit
set_option linter.unusedVariables false
attribute [local go_sem] IsBlk.cell IsBlk.frozen

theorem tab_gr_len (zs : List Int) : 1 ≤ (tabM zs).gr.length ∧ (tabM zs).gr.length ≤ 3 := by
  show 1 ≤ (rowsM zs).2.length ∧ (rowsM zs).2.length ≤ 3
  rw [(rowsM_bd zs).2.2]
  exact groupsN_bd zs
set_option maxHeartbeats 8000000 in
set_option maxRecDepth 100000 in
theorem planRows_walk (a0 : Option Addr) (cap0 : Nat) (z0 : List Int) (a1 a2 a3 : Int) (w : World) (hc0 : z0.length ≤ cap0 ∧ cap0 ≤ 9223372036854775807) (_ : Hdr w a0 cap0) (hz0 : Ints w a0 z0) (_ : ∀ i, i < z0.length → InKind .i64 (z0.getD i 0)) (_ : InKind .i64 a1) (_ : InKind .i64 a2) (_ : InKind .i64 a3) :
    Calls Try.prog 3 #[.slice a0 z0.length cap0, .int .i64 a1, .int .i64 a2, .int .i64 a3] w fun e w' => e = .returned (.bool true) ∧ Below w.heap.size w w' := by
  have HZ : Hid (∀ w', Below w.heap.size w w' → Ints w' a0 z0) := Lib.hid fun w' hb => Row1.below hz0 hb (Nat.le_refl _)
  have HZL : Hid (z0.length ≤ 9223372036854775807) := Lib.hid (by omega)
  have z := zeroTab
  have hgl := tab_gr_len z0
  generalize ht : tabM z0 = t at *
  have hg0 := Int.emod_nonneg a1 (show (t.gr.length : Int) ≠ 0 by omega)
  have hg1 := Int.emod_lt_of_pos a1 (show (0 : Int) < t.gr.length by omega)
  have hk0 := Int.emod_nonneg a2 (show (2 : Int) ≠ 0 by omega)
  have hk1 := Int.emod_lt_of_pos a2 (show (0 : Int) < 2 by omega)
  obtain ⟨g, hg⟩ : ∃ g : Nat, a1 % t.gr.length = g := ⟨(a1 % t.gr.length).toNat, by omega⟩
  obtain ⟨k, hk⟩ : ∃ k : Nat, a2 % 2 = k := ⟨(a2 % 2).toNat, by omega⟩
  have hgn : g < t.gr.length := by omega
  have hk2 : k < 2 := by omega
  have HRZ : Hid (rowZ t.gr g k = rowOf t.gr g k) := Lib.hid (by unfold rowZ; rw [if_pos (by omega)]; simp)
  have HT0 := Lib.hid ht
  have hgI : (g : Int) < t.gr.length := by omega
  have hkI : (k : Int) < 2 := by omega
  clear hz0 hg0 hg1 hk0 hk1 ht
  go_enter Try.func3, Try.ntmps3
  go_upto_region 2 with (first | (go_at_call 6; refine (ltable_up _ _ _ _ HZL.out (HZ.out _ (by (repeat' (first | (with_reducible exact Below.refl _ _) | (with_reducible assumption) | (with_reducible refine Below.setCell ?_ ?_ _) | (with_reducible refine Below.alloc ?_ ?_ _) | (with_reducible refine Below.drew ?_) | (with_reducible refine Up.base _ ?_ ?_) | (with_reducible exact LeSize.out) | exact LeSize.out | exact Nat.le_add_right_of_le LeSize.out | exact Nat.le_add_right_of_le (Nat.le_add_right_of_le LeSize.out) | (with_reducible exact Nat.le_refl _) | (simp; done) | (simp; omega)))))).mono ?_; rintro e w' ⟨T, uT, rfl, rfl, hT⟩; rw [HT0.out] at hT) | (refine l_newTab rfl rfl rfl rfl inferInstance hT rfl ?_; go_simp))
  haveI : Sz131 T := ⟨hT.size⟩
  have HNX : Hid (∀ w' a, Below uT.w.heap.size uT.w w' → Calls Try.prog 9 #[.agg T, .int .i64 g, .int .i64 k, .int .i64 a, .int .i64 a3] w' fun e w'' => e = .returned (.int .i64 (nextZ (rowOf t.gr g k) a3 a)) ∧ Below w'.heap.size w' w'') := Lib.hid fun w' a hb => by
    have := pnext_any T t g k a a3 w' (hT.below hb (Nat.le_refl _))
    rwa [HRZ.out] at this
  obtain ⟨gv, dv, rv, bv, hTe, hI⟩ := hT
  obtain ⟨ga, gcap, H, rfl, hrow, hints⟩ := hI.gr
  have t104 : T[104]? = some (.slice ga t.gr.length gcap) := by rw [hTe, arrF_get _ _ _ (by omega)]; rfl
  have hrl := hI.lr g k
  obtain ⟨gb, goff, rfl, hgb, hgc⟩ := hrow.resolve_left (by omega)
  have hck : uT.w.cell? ⟨gb, goff + g * 2 + k, none⟩ = some (.slice (H g k).1 (rowOf t.gr g k).length (H g k).2) := hgc g hgn k hk2
  have hin : Ints uT.w (H g k).1 (rowOf t.gr g k) := hints g hgn k hk2
  clear hgc hints hrow hI hTe HRZ HT0
  generalize rowOf t.gr g k = row at *
  generalize (H g k).1 = A at *
  generalize (H g k).2 = c at *
  have HIN := Lib.hid hin
  clear hin
  haveI : LeSize (gb + 1) uT.w := ⟨hgb⟩
  go_upto_region 5 with (first | (go_at_call 7; refine (place_any _ _ _ (by omega) (by omega)).mono ?_; rintro e w' ⟨rfl, rfl⟩))
  clear hck
  go_wp2
  go_loopw [13, 14] (fun x i wr => ∃ j : Nat, j ≤ row.length ∧ i = .int .i64 j ∧ ∃ a : Int, x = .int .i64 a ∧ -1 ≤ a ∧ a < j ∧ Hid (∀ q : Nat, q < j → a < q → hasM a3 (row.getD q 0) = false) ∧ IsBlk wr uT.w.heap.size T 32 ∧ Below w.heap.size w wr ∧ Below uT.w.heap.size uT.w wr) (fun _ i _ => row.length - (intOf i).toNat)
  case atStart => exact ⟨0, Nat.zero_le _, rfl, -1, rfl, by omega, by omega, Lib.hid (fun q hq => absurd hq (Nat.not_lt_zero _)), inferInstance, by (repeat' (first | (with_reducible exact Below.refl _ _) | (with_reducible assumption) | (with_reducible refine Below.setCell ?_ ?_ _) | (with_reducible refine Below.alloc ?_ ?_ _) | (with_reducible refine Below.drew ?_) | (with_reducible refine Up.base _ ?_ ?_) | (with_reducible exact LeSize.out) | exact LeSize.out | exact Nat.le_add_right_of_le LeSize.out | exact Nat.le_add_right_of_le (Nat.le_add_right_of_le LeSize.out) | (with_reducible exact Nat.le_refl _) | (simp; done) | (simp; omega))), by (repeat' (first | (with_reducible exact Below.refl _ _) | (with_reducible assumption) | (with_reducible refine Below.setCell ?_ ?_ _) | (with_reducible refine Below.alloc ?_ ?_ _) | (with_reducible refine Below.drew ?_) | (with_reducible refine Up.base _ ?_ ?_) | (with_reducible exact LeSize.out) | exact LeSize.out | exact Nat.le_add_right_of_le LeSize.out | exact Nat.le_add_right_of_le (Nat.le_add_right_of_le LeSize.out) | (with_reducible exact Nat.le_refl _) | (simp; done) | (simp; omega)))⟩
  case round =>
    obtain ⟨j, hj, rfl, a, rfl, ha0, ha1, HN, iB, hbw, hbT⟩ := hrel
    haveI : LeSize w.heap.size wr := ⟨hbw.size⟩
    haveI : LeSize uT.w.heap.size wr := ⟨hbT.size⟩
    by_cases hlt : j < row.length
    · have hcell : ∃ yb yoff, A = some ⟨yb, yoff, none⟩ ∧ yb < uT.w.heap.size ∧ wr.cell? ⟨yb, yoff + j, none⟩ = some (.int .i64 (row.getD j 0)) := by
        obtain ⟨yb, yoff, e, hyb, hyc⟩ := HIN.out.cell (by omega)
        exact ⟨yb, yoff, e, hyb, by rw [hbT.cell (p := ⟨yb, yoff + j, none⟩) hyb]; exact hyc j hlt⟩
      obtain ⟨yb, yoff, rfl, hyb, hcell⟩ := hcell
      cases hh : hasM a3 (row.getD j 0)
      · have HN2 : Hid (∀ q : Nat, q < j + 1 → a < q → hasM a3 (row.getD q 0) = false) := Lib.hid fun q hq hq2 => by
          rcases Nat.lt_succ_iff_lt_or_eq.1 hq with h | rfl
          · exact HN.out q h hq2
          · exact hh
        generalize row.getD j 0 = x at *
        go_wp2_with (go_at_call 8; refine (rhas_any _ _ _).mono ?_; rintro e w' ⟨rfl, rfl⟩)
        go_roundw
        case rel => exact ⟨j + 1, by omega, by go_num, a, rfl, ha0, by omega, HN2, iB, hbw, hbT⟩
        case measure => simp [intOf]; omega
      · have HX := Lib.hid (nextZ_at hlt HN.out hh ha1)
        have HC : Hid (∀ w', Below uT.w.heap.size uT.w w' → Calls Try.prog 9 #[.agg T, .int .i64 g, .int .i64 k, .int .i64 a, .int .i64 a3] w' fun e w'' => e = .returned (.int .i64 j) ∧ Below w'.heap.size w' w'') := Lib.hid fun w' hb => by
          have := HNX.out w' a hb
          rwa [HX.out] at this
        generalize row.getD j 0 = x at *
        go_wp2_with (first | (go_at_call 8; refine (rhas_any _ _ _).mono ?_; rintro e w' ⟨rfl, rfl⟩) | (refine l_ltab rfl rfl rfl ?_; go_simp) | (go_at_call 9; refine (Up.run (HC.out _ (by (repeat' (first | (with_reducible exact Below.refl _ _) | (with_reducible assumption) | (with_reducible refine Below.setCell ?_ ?_ _) | (with_reducible refine Below.alloc ?_ ?_ _) | (with_reducible refine Below.drew ?_) | (with_reducible refine Up.base _ ?_ ?_) | (with_reducible exact LeSize.out) | exact LeSize.out | exact Nat.le_add_right_of_le LeSize.out | exact Nat.le_add_right_of_le (Nat.le_add_right_of_le LeSize.out) | (with_reducible exact Nat.le_refl _) | (simp; done) | (simp; omega)))))).mono ?_; rintro e w' ⟨rfl, un, rfl⟩))
        go_roundw
        case rel => exact ⟨j + 1, by omega, by go_num, j, rfl, by omega, by omega, Lib.hid (fun q hq hq2 => absurd hq (by omega)), inferInstance, by (repeat' (first | (with_reducible exact Below.refl _ _) | (with_reducible assumption) | (with_reducible refine Below.setCell ?_ ?_ _) | (with_reducible refine Below.alloc ?_ ?_ _) | (with_reducible refine Below.drew ?_) | (with_reducible refine Up.base _ ?_ ?_) | (with_reducible exact LeSize.out) | exact LeSize.out | exact Nat.le_add_right_of_le LeSize.out | exact Nat.le_add_right_of_le (Nat.le_add_right_of_le LeSize.out) | (with_reducible exact Nat.le_refl _) | (simp; done) | (simp; omega))), by (repeat' (first | (with_reducible exact Below.refl _ _) | (with_reducible assumption) | (with_reducible refine Below.setCell ?_ ?_ _) | (with_reducible refine Below.alloc ?_ ?_ _) | (with_reducible refine Below.drew ?_) | (with_reducible refine Up.base _ ?_ ?_) | (with_reducible exact LeSize.out) | exact LeSize.out | exact Nat.le_add_right_of_le LeSize.out | exact Nat.le_add_right_of_le (Nat.le_add_right_of_le LeSize.out) | (with_reducible exact Nat.le_refl _) | (simp; done) | (simp; omega)))⟩
        case measure => simp [intOf]; omega
    · obtain rfl : j = row.length := by omega
      have HX := Lib.hid (nextZ_none (r := row) (want := a3) (a := a) HN.out)
      have HC : Hid (∀ w', Below uT.w.heap.size uT.w w' → Calls Try.prog 9 #[.agg T, .int .i64 g, .int .i64 k, .int .i64 a, .int .i64 a3] w' fun e w'' => e = .returned (.int .i64 (-1)) ∧ Below w'.heap.size w' w'') := Lib.hid fun w' hb => by
        have := HNX.out w' a hb
        rwa [HX.out] at this
      go_wp2_with (first | (go_at_call 10; refine (Up.run (awake8_any _)).mono ?_; rintro e w' ⟨rfl, u, rfl⟩) | (refine l_ltab rfl rfl rfl ?_; go_simp) | (go_at_call 9; refine (Up.run (HC.out _ (by (repeat' (first | (with_reducible exact Below.refl _ _) | (with_reducible assumption) | (with_reducible refine Below.setCell ?_ ?_ _) | (with_reducible refine Below.alloc ?_ ?_ _) | (with_reducible refine Below.drew ?_) | (with_reducible refine Up.base _ ?_ ?_) | (with_reducible exact LeSize.out) | exact LeSize.out | exact Nat.le_add_right_of_le LeSize.out | exact Nat.le_add_right_of_le (Nat.le_add_right_of_le LeSize.out) | (with_reducible exact Nat.le_refl _) | (simp; done) | (simp; omega)))))).mono ?_; rintro e w' ⟨rfl, un, rfl⟩))
      go_ret
      exact ⟨rfl, by (repeat' (first | (with_reducible exact Below.refl _ _) | (with_reducible assumption) | (with_reducible refine Below.setCell ?_ ?_ _) | (with_reducible refine Below.alloc ?_ ?_ _) | (with_reducible refine Below.drew ?_) | (with_reducible refine Up.base _ ?_ ?_) | (with_reducible exact LeSize.out) | exact LeSize.out | exact Nat.le_add_right_of_le LeSize.out | exact Nat.le_add_right_of_le (Nat.le_add_right_of_le LeSize.out) | (with_reducible exact Nat.le_refl _) | (simp; done) | (simp; omega)))⟩
set_option maxRecDepth 100000 in
theorem PlanRows_lifted (os : Os) (started : os.Started) (H : Type) (enc : TypeId × Value → H) :
    ReturnsInHanded {} Try.checked os 3 .any (Rows.planRowsSpec.pre6 enc Try.prog Try.f3 Rows.planRowsRow.domain false) (Rows.planRowsSpec.post enc Try.prog Try.f3 false true false false) := by
  refine returnsInHanded_of_change (C := Try.checked) own started (by kernel_rfl) Try.func3
    (ChangeSpec.witness6 (enc := enc) (C := Try.checked) false ⟨#[], #[.slice none 0 0, .int .i64 0, .int .i64 0, .int .i64 0], []⟩ 8 (by kernel_rfl) (by kernel_rfl) (by kernel_rfl) (by kernel_rfl)) ?_
  intro W base args ds gs before hval0 hW hcnd _
  have hval : ∀ (j : Nat) t v, Try.f3.params[j]? = some t → args[j]? = some v → Value.okWide Try.prog W .any base t v := hval0
  have hW' := hW
  obtain ⟨p, q, hA0, hV, rfl, hfz, hnd⟩ := hW
  have hA : DataW.TrodAll enc Try.prog W 0 (fun _ => true) true Try.f3.params.toList args.toList ds p := hA0
  rw [Try.params3] at hA hval
  obtain ⟨v0, vs0, d0, ds0, p0, q0, hargs, rfl, rfl, h0, r0⟩ := trodAll_cons hA
  obtain ⟨v1, vs1, d1, ds1, p1, q1, rfl, rfl, rfl, h1, r1⟩ := trodAll_cons r0
  obtain ⟨v2, vs2, d2, ds2, p2, q2, rfl, rfl, rfl, h2, r2⟩ := trodAll_cons r1
  obtain ⟨v3, vs3, d3, ds3, p3, q3, rfl, rfl, rfl, h3, r3⟩ := trodAll_cons r2
  obtain ⟨rfl, rfl, rfl⟩ := trodAll_nil r3
  obtain rfl : args = #[v0, v1, v2, v3] := by cases args; simp_all
  obtain ⟨rfl, rfl⟩ := trodVars_none hV
  have k0 := h0
  have lt0 : ∀ x ∈ p0, x.block < W.heap.size := by obtain ⟨m, hm⟩ := k0; exact DataW.trod_lt m _ _ _ hm
  have k1 := h1
  have lt1 : ∀ x ∈ p1, x.block < W.heap.size := by obtain ⟨m, hm⟩ := k1; exact DataW.trod_lt m _ _ _ hm
  have k2 := h2
  have lt2 : ∀ x ∈ p2, x.block < W.heap.size := by obtain ⟨m, hm⟩ := k2; exact DataW.trod_lt m _ _ _ hm
  have k3 := h3
  have lt3 : ∀ x ∈ p3, x.block < W.heap.size := by obtain ⟨m, hm⟩ := k3; exact DataW.trod_lt m _ _ _ hm
  obtain ⟨a0, cap0, z0, rfl, hl0, hm0, hh0, hr0, iz0⟩ := open_ints1 Try.underlying22 Try.underlying3 (by kernel_rfl) (hval 0 22 v0 rfl rfl) k0
  obtain ⟨a1, rfl, w1⟩ := open_int1 Try.underlying3 (hval 1 3 v1 rfl rfl)
  obtain ⟨a2, rfl, w2⟩ := open_int1 Try.underlying3 (hval 2 3 v2 rfl rfl)
  obtain ⟨a3, rfl, w3⟩ := open_int1 Try.underlying3 (hval 3 3 v3 rfl rfl)
  clear hA0 hval0
  refine (planRows_walk a0 cap0 z0 a1 a2 a3 W ⟨hl0, hm0⟩ hh0 hr0 iz0 w1 w2 w3).mono fun e W' ⟨he, bel⟩ => ?_
  subst he
  exact ⟨_, rfl, _, _, _, [], _, [], hW', trodAll_mk1 (shut_bool Try.underlying4 _), (trodAll_cons_mk (Below.trod laidOut (by kernel_rfl) (of_decide_eq_true (by kernel_rfl)) k0 bel lt0) (trodAll_cons_mk (Below.trod laidOut (by kernel_rfl) (of_decide_eq_true (by kernel_rfl)) k1 bel lt1) (trodAll_cons_mk (Below.trod laidOut (by kernel_rfl) (of_decide_eq_true (by kernel_rfl)) k2 bel lt2) (trodAll_cons_mk (Below.trod laidOut (by kernel_rfl) (of_decide_eq_true (by kernel_rfl)) k3 bel lt3) trodAll_mk0)))), rfl, bel.frame _, fun h => by cases h⟩

theorem PlanRows_over : Rows.planRowsRow.holds Try.pinned (OpenSpec.ofChange Rows.planRowsSpec) :=
  OpenClaim.holds_of_wide 3 Try.f3 rfl rfl rfl rfl rfl rfl rfl ⟨rfl, rfl, rfl, rfl, rfl⟩ rfl rfl rfl rfl rfl (by kernel_rfl) Try.func3 (by kernel_rfl)
    (of_decide_eq_true (by kernel_rfl)) (by unfold Func.isWrapper; first | (rw [if_pos (by decide +kernel)]; kernel_rfl) | (rw [if_neg (by decide +kernel)]; exact ⟨rfl, rfl⟩))
    (fun os started H enc _ => PlanRows_lifted os started H enc)

/-- The given statement. -/
theorem PlanRows_holds : Rows.PlanRowsSaid := PlanRows_over
#print axioms PlanRows_holds
end Go.Proofs.Ytcgadkkjcbnfjaa
