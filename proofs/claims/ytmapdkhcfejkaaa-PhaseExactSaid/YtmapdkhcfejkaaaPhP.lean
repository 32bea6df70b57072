/- For a phase of a table by numbers and at most 400 cues, the colours follow each other in order, and Yellow and Clear last exactly for their ticks. -/
import Derived.Test.YtmapdkhcfejkaaaPhN
namespace Go.Proofs.Ytmapdkhcfejkaaa
open Go.ChangeShapes Go.WideShapes Go.ChangeAt Go.RowKit
set_option linter.unusedVariables false
attribute [local go_sem] IsBlk.cell IsBlk.frozen

/-- What is kept: n ticks of the colour have gone by. -/
structure ExIn (p : Phs) (r : Rn) (n : Nat) : Prop where
  c : r.c = 0 ∨ r.c = 1 ∨ r.c = 2 ∨ r.c = 3
  y : r.c = 2 → r.t = n + 1 ∧ (n : Int) + 1 ≤ p.yel
  r : r.c = 3 → r.t = n + 1 ∧ (n : Int) + 1 ≤ p.red
theorem ex_begin (p : Phs) : ExIn p (beginM p) 0 := ⟨.inl rfl, fun h => by simp [beginM] at h, fun h => by simp [beginM] at h⟩
theorem more_of {t : Int} (h0 : 0 ≤ t) (h1 : t ≤ 9999) : moreM t = t + 1 := by unfold moreM; omega
theorem dueR_c (p : Phs) (o : Rn) (k : Cu) (d : Bool) : (dueR p o k d).c = o.c := by
  unfold dueR; cases d <;> cases k.ho <;> rfl
theorem ex_step {p : Phs} {r : Rn} {n : Nat} (k : Cu) (hp : PhIn p) (hy : 1 ≤ p.yel) (h : ExIn p r n) :
    ((stepM p r k).c = r.c ∧ ExIn p (stepM p r k) (n + 1)) ∨ ((stepM p r k).t = 1 ∧ ExIn p (stepM p r k) 0 ∧
      ((r.c = 0 ∧ (stepM p r k).c = 1) ∨ (r.c = 1 ∧ (stepM p r k).c = 2) ∨ (r.c = 2 ∧ (stepM p r k).c = 3 ∧ (n : Int) + 1 = p.yel ∧ 0 < p.red) ∨ (r.c = 2 ∧ (stepM p r k).c = 0 ∧ (n : Int) + 1 = p.yel ∧ p.red = 0) ∨ (r.c = 3 ∧ (stepM p r k).c = 0 ∧ (n : Int) + 1 = p.red))) := by
  have hyl := hp.yel
  have hrd := hp.red
  obtain ⟨hc, h2, h3⟩ := h
  rcases hc with hc | hc | hc | hc
  · have e : stepM p r k = redM p r k := by simp [stepM, hc]
    rw [e]
    unfold redM
    split
    · exact .inr ⟨rfl, ⟨.inr (.inl rfl), fun h => by simp at h, fun h => by simp at h⟩, .inl ⟨hc, rfl⟩⟩
    · exact .inl ⟨hc.symm, .inl rfl, fun h => by simp [asM] at h, fun h => by simp [asM] at h⟩
  · have e : stepM p r k = grnR p r k := by simp [stepM, hc]
    rw [e]
    unfold grnR
    split
    · unfold endR
      split
      · exact .inr ⟨rfl, ⟨.inr (.inr (.inl rfl)), fun _ => ⟨rfl, by simpa using hy⟩, fun h => by simp at h⟩, .inr (.inl ⟨hc, rfl⟩)⟩
      · exact .inr ⟨rfl, ⟨.inr (.inr (.inl rfl)), fun _ => ⟨rfl, by simpa using hy⟩, fun h => by simp [asM] at h⟩, .inr (.inl ⟨hc, rfl⟩)⟩
    · have e1 : ∀ d, (dueR p (goR p r k) k d).c = 1 := fun d => by rw [dueR_c]; rfl
      exact .inl ⟨by rw [e1, hc], .inr (.inl (e1 _)), fun h => by rw [e1] at h; simp at h, fun h => by rw [e1] at h; simp at h⟩
  · have e : stepM p r k = yelM p r := by simp [stepM, hc]
    rw [e]
    obtain ⟨ht, hn⟩ := h2 hc
    unfold yelM
    split
    · rename_i hlt
      refine .inl ⟨hc.symm, .inr (.inr (.inl rfl)), fun _ => ⟨?_, ?_⟩, fun h => by simp [asM] at h⟩
      · show moreM r.t = _; rw [more_of (by omega) (by omega)]; omega
      · omega
    · split
      · exact .inr ⟨rfl, ⟨.inr (.inr (.inr rfl)), fun h => by simp [asM] at h, fun _ => ⟨rfl, by omega⟩⟩, .inr (.inr (.inl ⟨hc, rfl, by omega, by assumption⟩))⟩
      · exact .inr ⟨rfl, ⟨.inl rfl, fun h => by simp [asM] at h, fun h => by simp [asM] at h⟩, .inr (.inr (.inr (.inl ⟨hc, rfl, by omega, by omega⟩)))⟩
  · have e : stepM p r k = clrM p r := by simp [stepM, hc]
    rw [e]
    obtain ⟨ht, hn⟩ := h3 hc
    unfold clrM
    split
    · rename_i hlt
      refine .inl ⟨hc.symm, .inr (.inr (.inr rfl)), fun h => by simp [asM] at h, fun _ => ⟨?_, ?_⟩⟩
      · show moreM r.t = _; rw [more_of (by omega) (by omega)]; omega
      · omega
    · exact .inr ⟨rfl, ⟨.inl rfl, fun h => by simp [asM] at h, fun h => by simp [asM] at h⟩, .inr (.inr (.inr (.inr ⟨hc, rfl, by omega⟩)))⟩
set_option maxHeartbeats 8000000 in
set_option maxRecDepth 100000 in
theorem phaseExact_walk (a0 : Option Addr) (cap0 : Nat) (z0 : List Int) (a1 : Int) (a2 : Option Addr) (cap2 : Nat) (z2 : List Int) (w : World) (hc0 : z0.length ≤ cap0 ∧ cap0 ≤ 9223372036854775807) (_ : Hdr w a0 cap0) (hz0 : Ints w a0 z0) (_ : ∀ i, i < z0.length → InKind .i64 (z0.getD i 0)) (_ : InKind .i64 a1)
    (hc2 : z2.length ≤ cap2 ∧ cap2 ≤ 9223372036854775807) (_ : Hdr w a2 cap2) (hz2 : Ints w a2 z2) (_ : ∀ i, i < z2.length → InKind .i64 (z2.getD i 0)) :
    Calls Try.prog 4 #[.slice a0 z0.length cap0, .int .i64 a1, .slice a2 z2.length cap2] w fun e w' => e = .returned (.bool true) ∧ Below w.heap.size w w' := by
  have HZ : Hid (∀ w', Below w.heap.size w w' → Ints w' a0 z0) := Lib.hid fun w' hb => Row1.below hz0 hb (Nat.le_refl _)
  have HZL : Hid (z0.length ≤ 9223372036854775807) := Lib.hid (by omega)
  have HY := Lib.hid hz2
  have hk0 := Int.emod_nonneg a1 (show (8 : Int) ≠ 0 by omega)
  have hk1 := Int.emod_lt_of_pos a1 (show (0 : Int) < 8 by omega)
  obtain ⟨k, hk⟩ : ∃ k : Nat, a1 % 8 = k := ⟨(a1 % 8).toNat, by omega⟩
  have hk8 : k < 8 := by omega
  have hkI : (k : Int) < 8 := by omega
  have hP := tab_phIn z0 k
  have HOK : Hid (((tabM z0).ph k).on = true → PhOk ((tabM z0).ph k)) := Lib.hid fun h => by
    rcases tab_ph z0 k with ⟨_, h1⟩ | h1
    · exact h1
    · rw [h1] at h; cases h
  have HPH : Hid (∀ w' T, IsTab w' T (tabM z0) → IsPh T (k * 13) ((tabM z0).ph k)) := Lib.hid fun w' T h => h.isPh k hk8
  generalize (tabM z0).ph k = p at *
  have HPI := Lib.hid hP
  have hbt : 0 ≤ (beginM p).tl ∧ (beginM p).tl ≤ 9999 := by have := hP.max; simp only [beginM]; omega
  have HB0 := Lib.hid (ex_begin p)
  have z := zeroTab
  have f0 : (PhR p)[0]? = some (.bool p.on) := rfl
  have f6 : (PhR p)[6]? = some (.int .i64 p.yel) := rfl
  have f7 : (PhR p)[7]? = some (.int .i64 p.red) := rfl
  have g0 : ∀ r, (RnA r)[0]? = some (.int .i64 r.c) := fun r => rfl
  have g1 : ∀ r, (RnA r)[1]? = some (.int .i64 r.t) := fun r => rfl
  clear hz0 hz2 hk0 hk1 hP
  by_cases hgo : z2.length ≤ 400 ∧ p.on = true
  · obtain ⟨hlen, hon⟩ := hgo
    have hok := HOK.out hon
    have hy1 : 1 ≤ p.yel := by have := hok.yel; omega
    have hyb : p.yel ≤ 13 := hok.yel.2
    have hrb := hok.red
    clear hok HOK
    go_enter Try.func4, Try.ntmps4
    go_upto_region 2 with (first | (go_at_call 9; refine (ltable_up _ _ _ _ HZL.out (HZ.out _ (by (repeat' (first | (with_reducible exact Below.refl _ _) | (with_reducible assumption) | (with_reducible refine Below.setCell ?_ ?_ _) | (with_reducible refine Below.alloc ?_ ?_ _) | (with_reducible refine Below.drew ?_) | (with_reducible refine Up.base _ ?_ ?_) | (with_reducible exact LeSize.out) | exact LeSize.out | exact Nat.le_add_right_of_le LeSize.out | exact Nat.le_add_right_of_le (Nat.le_add_right_of_le LeSize.out) | (with_reducible exact Nat.le_refl _) | (simp; done) | (simp; omega)))))).mono ?_; rintro e w' ⟨T, uT, rfl, rfl, hT⟩) | (refine l_newTab rfl rfl rfl rfl inferInstance hT rfl ?_; go_simp))
    haveI hph := HPH.out _ _ hT
    haveI : Sz131 T := ⟨hT.size⟩
    clear hT HPH
    go_wp2_with (first | (go_at_call 10; refine (place_any _ _ _ (by omega) (by omega)).mono ?_; rintro e w' ⟨rfl, rfl⟩) | (refine l_phA rfl rfl rfl ?_; go_simp) | (refine l_newPr rfl rfl rfl rfl inferInstance rfl ?_; go_simp) | (refine l_newRn rfl rfl rfl rfl inferInstance rfl ?_; go_simp) | (refine l_lpr rfl rfl rfl ?_; go_simp) | (go_at_call 12; refine (Up.run (pbeginF_any _ _)).mono ?_; rintro e w' ⟨rfl, u9, rfl⟩))
    generalize beginM p = r0 at *
    have i8 : IsBlk (u9.w.alloc (.cells (RnA r0) 41)) (uT.w.heap.size + 1) (PhR p) 24 := inferInstance
    have i9 : IsBlk (u9.w.alloc (.cells (RnA r0) 41)) u9.w.heap.size (RnA r0) 41 := inferInstance
    have hbw : Below w.heap.size w (u9.w.alloc (.cells (RnA r0) 41)) := by (repeat' (first | (with_reducible exact Below.refl _ _) | (with_reducible assumption) | (with_reducible refine Below.setCell ?_ ?_ _) | (with_reducible refine Below.alloc ?_ ?_ _) | (with_reducible refine Below.drew ?_) | (with_reducible refine Up.base _ ?_ ?_) | (with_reducible exact LeSize.out) | exact LeSize.out | exact Nat.le_add_right_of_le LeSize.out | exact Nat.le_add_right_of_le (Nat.le_add_right_of_le LeSize.out) | (with_reducible exact Nat.le_refl _) | (simp; done) | (simp; omega)))
    have hlo := uT.bel.size
    have h89 := u9.bel.size
    simp only [World.size_alloc] at h89
    obtain ⟨b8, hb8⟩ : ∃ b, uT.w.heap.size + 1 = b := ⟨_, rfl⟩
    obtain ⟨b9, hb9⟩ : ∃ b, u9.w.heap.size = b := ⟨_, rfl⟩
    rw [hb8] at i8
    rw [hb9] at i9
    generalize (u9.w.alloc (.cells (RnA r0) 41)) = W0 at *
    rw [hb8, hb9]
    haveI : Apart b8 b9 := ⟨by omega⟩
    have hb9w : w.heap.size ≤ b9 := by omega
    clear hb8 hb9 hph hlo h89
    go_loopw [10, 11] (fun n i wr => ∃ j N : Nat, j ≤ z2.length ∧ N ≤ j ∧ i = .int .i64 j ∧ n = .int .i64 N ∧ ∃ r, IsBlk wr b8 (PhR p) 24 ∧ IsBlk wr b9 (RnA r) 41 ∧ (0 ≤ r.tl ∧ r.tl ≤ 9999) ∧ ExIn p r N ∧ Below w.heap.size w wr) (fun _ i _ => z2.length - (intOf i).toNat)
    case atStart => exact ⟨0, 0, Nat.zero_le _, Nat.le_refl _, rfl, rfl, _, i8, i9, hbt, HB0.out, hbw⟩
    case round =>
      clear i8 i9 hbt hbw HB0
      obtain ⟨j, N, hj, hN, rfl, rfl, r, i8, i9, hbt, hex, hbw⟩ := hrel
      haveI : LeSize w.heap.size wr := ⟨hbw.size⟩
      have l9 := i9.le
      have l8 := i8.le
      haveI : Apart wr.heap.size b9 := ⟨by have := l9.out; omega⟩
      by_cases hlt : j < z2.length
      · obtain ⟨yb, yoff, rfl, hyb, hyc0⟩ := HY.out.cell (by omega)
        have hcell : wr.cell? ⟨yb, yoff + j, none⟩ = some (.int .i64 (z2.getD j 0)) := by rw [hbw.cell (p := ⟨yb, yoff + j, none⟩) hyb]; exact hyc0 j hlt
        haveI : LeSize (yb + 1) wr := ⟨Nat.le_trans hyb hbw.size⟩
        generalize z2.getD j 0 = y at *
        clear hyc0
        have HST := Lib.hid (step_tl (k := cuM y) HPI.out hbt)
        have hcs := ex_step (cuM y) HPI.out hy1 hex
        clear hex
        go_wp2_with (first | (refine l_lrn rfl rfl rfl ?_; go_simp) | (refine l_newRn rfl rfl rfl rfl inferInstance rfl ?_; go_simp))
        (refine wp_region_up_tail 8 (by kernel_rfl) (by kernel_rfl) ?_; simp only [List.take_succ_cons, List.take_zero, List.drop_succ_cons, List.drop_zero]; (repeat (first | (go_big_quiet_want; refine q_lpr rfl rfl ?_; simp only [Act.put, List.setIfInBounds_toArray, List.set_cons_succ, List.set_cons_zero]; go_big_quiet_on) | (go_big_quiet_want; refine q_lrn rfl rfl ?_; simp only [Act.put, List.setIfInBounds_toArray, List.set_cons_succ, List.set_cons_zero]; go_big_quiet_on) | go_big_quiet_step ((first | (go_at_call 14; exact Up.calls (cue_any _ _)) | (go_at_call 17; exact Up.calls (pstepF_any _ _ _ _ HPI.out (by assumption))) | fail)))); refine wpQuiet_nil ?_; rintro _ ⟨u, rfl⟩)
        generalize stepM p r (cuM y) = r' at *
        go_upto_region 12 with (first | (refine l_setRn rfl rfl rfl rfl ?_; go_simp))
        have hNI : (N : Int) ≤ 400 := by omega
        rcases hcs with ⟨e1, hex⟩ | ⟨ht1, hex, hcc⟩
        · have HX := Lib.hid hex
          clear hex
          go_wp2
          go_roundw
          case rel => exact ⟨j + 1, N + 1, by omega, by omega, by go_num, by go_num, r', inferInstance, inferInstance, HST.out, HX.out, by (repeat' (first | (with_reducible exact Below.refl _ _) | (with_reducible assumption) | (with_reducible refine below_putRn ?_ ?_) | (with_reducible refine Below.setCell ?_ ?_ _) | (with_reducible refine Below.alloc ?_ ?_ _) | (with_reducible refine Below.drew ?_) | (with_reducible refine Up.base _ ?_ ?_) | (with_reducible exact LeSize.out) | exact LeSize.out | (with_reducible exact Nat.le_refl _) | omega | (simp; done) | (simp; omega)))⟩
          case measure => simp [intOf]; omega
        · have HX := Lib.hid hex
          clear hex
          rcases hcc with ⟨e1, e2⟩ | ⟨e1, e2⟩ | ⟨e1, e2, e3, e4⟩ | ⟨e1, e2, e3, e4⟩ | ⟨e1, e2, e3⟩
          all_goals
            go_wp2
            go_roundw
            case rel => exact ⟨j + 1, 0, by omega, by omega, by go_num, rfl, r', inferInstance, inferInstance, HST.out, HX.out, by (repeat' (first | (with_reducible exact Below.refl _ _) | (with_reducible assumption) | (with_reducible refine below_putRn ?_ ?_) | (with_reducible refine Below.setCell ?_ ?_ _) | (with_reducible refine Below.alloc ?_ ?_ _) | (with_reducible refine Below.drew ?_) | (with_reducible refine Up.base _ ?_ ?_) | (with_reducible exact LeSize.out) | exact LeSize.out | (with_reducible exact Nat.le_refl _) | omega | (simp; done) | (simp; omega)))⟩
            case measure => simp [intOf]; omega
      · obtain rfl : j = z2.length := by omega
        obtain ⟨hcc, hy, hr⟩ := hex
        rcases hcc with e1 | e1 | e1 | e1
        · go_wp2_with (go_at_call 11; refine (Up.run (awake18_any _)).mono ?_; rintro e w' ⟨rfl, u, rfl⟩)
          go_returns
          exact ⟨rfl, by (repeat' (first | (with_reducible exact Below.refl _ _) | (with_reducible assumption) | (with_reducible refine Below.setCell ?_ ?_ _) | (with_reducible refine Below.alloc ?_ ?_ _) | (with_reducible refine Below.drew ?_) | (with_reducible refine Up.base _ ?_ ?_) | (with_reducible exact LeSize.out) | exact LeSize.out | exact Nat.le_add_right_of_le LeSize.out | exact Nat.le_add_right_of_le (Nat.le_add_right_of_le LeSize.out) | (with_reducible exact Nat.le_refl _) | (simp; done) | (simp; omega)))⟩
        · go_wp2_with (go_at_call 11; refine (Up.run (awake18_any _)).mono ?_; rintro e w' ⟨rfl, u, rfl⟩)
          go_returns
          exact ⟨rfl, by (repeat' (first | (with_reducible exact Below.refl _ _) | (with_reducible assumption) | (with_reducible refine Below.setCell ?_ ?_ _) | (with_reducible refine Below.alloc ?_ ?_ _) | (with_reducible refine Below.drew ?_) | (with_reducible refine Up.base _ ?_ ?_) | (with_reducible exact LeSize.out) | exact LeSize.out | exact Nat.le_add_right_of_le LeSize.out | exact Nat.le_add_right_of_le (Nat.le_add_right_of_le LeSize.out) | (with_reducible exact Nat.le_refl _) | (simp; done) | (simp; omega)))⟩
        · have h1 := hy e1
          have h2 : (N : Int) < p.yel := by omega
          clear hy hr h1
          go_wp2_with (go_at_call 11; refine (Up.run (awake18_any _)).mono ?_; rintro e w' ⟨rfl, u, rfl⟩)
          go_returns
          exact ⟨rfl, by (repeat' (first | (with_reducible exact Below.refl _ _) | (with_reducible assumption) | (with_reducible refine Below.setCell ?_ ?_ _) | (with_reducible refine Below.alloc ?_ ?_ _) | (with_reducible refine Below.drew ?_) | (with_reducible refine Up.base _ ?_ ?_) | (with_reducible exact LeSize.out) | exact LeSize.out | exact Nat.le_add_right_of_le LeSize.out | exact Nat.le_add_right_of_le (Nat.le_add_right_of_le LeSize.out) | (with_reducible exact Nat.le_refl _) | (simp; done) | (simp; omega)))⟩
        · have h1 := hr e1
          have h2 : (N : Int) < p.red := by omega
          clear hy hr h1
          go_wp2_with (go_at_call 11; refine (Up.run (awake18_any _)).mono ?_; rintro e w' ⟨rfl, u, rfl⟩)
          go_returns
          exact ⟨rfl, by (repeat' (first | (with_reducible exact Below.refl _ _) | (with_reducible assumption) | (with_reducible refine Below.setCell ?_ ?_ _) | (with_reducible refine Below.alloc ?_ ?_ _) | (with_reducible refine Below.drew ?_) | (with_reducible refine Up.base _ ?_ ?_) | (with_reducible exact LeSize.out) | exact LeSize.out | exact Nat.le_add_right_of_le LeSize.out | exact Nat.le_add_right_of_le (Nat.le_add_right_of_le LeSize.out) | (with_reducible exact Nat.le_refl _) | (simp; done) | (simp; omega)))⟩
  · have HON : Hid (p.on = true → 400 < z2.length) := Lib.hid fun h => by by_cases hl : z2.length ≤ 400; exact absurd ⟨hl, h⟩ hgo; omega
    clear hgo
    go_enter Try.func4, Try.ntmps4
    go_upto_region 2 with (first | (go_at_call 9; refine (ltable_up _ _ _ _ HZL.out (HZ.out _ (by (repeat' (first | (with_reducible exact Below.refl _ _) | (with_reducible assumption) | (with_reducible refine Below.setCell ?_ ?_ _) | (with_reducible refine Below.alloc ?_ ?_ _) | (with_reducible refine Below.drew ?_) | (with_reducible refine Up.base _ ?_ ?_) | (with_reducible exact LeSize.out) | exact LeSize.out | exact Nat.le_add_right_of_le LeSize.out | exact Nat.le_add_right_of_le (Nat.le_add_right_of_le LeSize.out) | (with_reducible exact Nat.le_refl _) | (simp; done) | (simp; omega)))))).mono ?_; rintro e w' ⟨T, uT, rfl, rfl, hT⟩) | (refine l_newTab rfl rfl rfl rfl inferInstance hT rfl ?_; go_simp))
    haveI hph := HPH.out _ _ hT
    haveI : Sz131 T := ⟨hT.size⟩
    clear hT HPH
    rcases Bool.eq_false_or_eq_true p.on with hon | hon
    · have hlen2 := HON.out hon
      go_wp2_with (first | (go_at_call 10; refine (place_any _ _ _ (by omega) (by omega)).mono ?_; rintro e w' ⟨rfl, rfl⟩) | (refine l_phA rfl rfl rfl ?_; go_simp) | (refine l_newPr rfl rfl rfl rfl inferInstance rfl ?_; go_simp) | (go_at_call 11; refine (Up.run (awake18_any _)).mono ?_; rintro e w' ⟨rfl, u, rfl⟩))
      go_returns
      exact ⟨rfl, by (repeat' (first | (with_reducible exact Below.refl _ _) | (with_reducible assumption) | (with_reducible refine Below.setCell ?_ ?_ _) | (with_reducible refine Below.alloc ?_ ?_ _) | (with_reducible refine Below.drew ?_) | (with_reducible refine Up.base _ ?_ ?_) | (with_reducible exact LeSize.out) | exact LeSize.out | exact Nat.le_add_right_of_le LeSize.out | exact Nat.le_add_right_of_le (Nat.le_add_right_of_le LeSize.out) | (with_reducible exact Nat.le_refl _) | (simp; done) | (simp; omega)))⟩
    · go_wp2_with (first | (go_at_call 10; refine (place_any _ _ _ (by omega) (by omega)).mono ?_; rintro e w' ⟨rfl, rfl⟩) | (refine l_phA rfl rfl rfl ?_; go_simp) | (refine l_newPr rfl rfl rfl rfl inferInstance rfl ?_; go_simp) | (go_at_call 11; refine (Up.run (awake18_any _)).mono ?_; rintro e w' ⟨rfl, u, rfl⟩))
      go_returns
      exact ⟨rfl, by (repeat' (first | (with_reducible exact Below.refl _ _) | (with_reducible assumption) | (with_reducible refine Below.setCell ?_ ?_ _) | (with_reducible refine Below.alloc ?_ ?_ _) | (with_reducible refine Below.drew ?_) | (with_reducible refine Up.base _ ?_ ?_) | (with_reducible exact LeSize.out) | exact LeSize.out | exact Nat.le_add_right_of_le LeSize.out | exact Nat.le_add_right_of_le (Nat.le_add_right_of_le LeSize.out) | (with_reducible exact Nat.le_refl _) | (simp; done) | (simp; omega)))⟩
set_option maxRecDepth 100000 in
theorem PhaseExact_lifted (os : Os) (started : os.Started) (H : Type) (enc : TypeId × Value → H) :
    ReturnsInHanded {} Try.checked os 4 .any (Rows.phaseExactSpec.pre6 enc Try.prog Try.f4 Rows.phaseExactRow.domain false) (Rows.phaseExactSpec.post enc Try.prog Try.f4 false true false false) := by
  refine returnsInHanded_of_change (C := Try.checked) own started (by kernel_rfl) Try.func4
    (ChangeSpec.witness6 (enc := enc) (C := Try.checked) false ⟨#[], #[.slice none 0 0, .int .i64 0, .slice none 0 0], []⟩ 8 (by kernel_rfl) (by kernel_rfl) (by kernel_rfl) (by kernel_rfl)) ?_
  intro W base args ds gs before hval0 hW hcnd _
  have hval : ∀ (j : Nat) t v, Try.f4.params[j]? = some t → args[j]? = some v → Value.okWide Try.prog W .any base t v := hval0
  have hW' := hW
  obtain ⟨p, q, hA0, hV, rfl, hfz, hnd⟩ := hW
  have hA : DataW.TrodAll enc Try.prog W 0 (fun _ => true) true Try.f4.params.toList args.toList ds p := hA0
  rw [Try.params4] at hA hval
  obtain ⟨v0, vs0, d0, ds0, p0, q0, hargs, rfl, rfl, h0, r0⟩ := trodAll_cons hA
  obtain ⟨v1, vs1, d1, ds1, p1, q1, rfl, rfl, rfl, h1, r1⟩ := trodAll_cons r0
  obtain ⟨v2, vs2, d2, ds2, p2, q2, rfl, rfl, rfl, h2, r2⟩ := trodAll_cons r1
  obtain ⟨rfl, rfl, rfl⟩ := trodAll_nil r2
  obtain rfl : args = #[v0, v1, v2] := by cases args; simp_all
  obtain ⟨rfl, rfl⟩ := trodVars_none hV
  have k0 := h0
  have lt0 : ∀ x ∈ p0, x.block < W.heap.size := by obtain ⟨m, hm⟩ := k0; exact DataW.trod_lt m _ _ _ hm
  have k1 := h1
  have lt1 : ∀ x ∈ p1, x.block < W.heap.size := by obtain ⟨m, hm⟩ := k1; exact DataW.trod_lt m _ _ _ hm
  have k2 := h2
  have lt2 : ∀ x ∈ p2, x.block < W.heap.size := by obtain ⟨m, hm⟩ := k2; exact DataW.trod_lt m _ _ _ hm
  obtain ⟨a0, cap0, z0, rfl, hl0, hm0, hh0, hr0, iz0⟩ := open_ints1 Try.underlying22 Try.underlying3 (by kernel_rfl) (hval 0 22 v0 rfl rfl) k0
  obtain ⟨a1, rfl, w1⟩ := open_int1 Try.underlying3 (hval 1 3 v1 rfl rfl)
  obtain ⟨a2, cap2, z2, rfl, hl2, hm2, hh2, hr2, iz2⟩ := open_ints1 Try.underlying22 Try.underlying3 (by kernel_rfl) (hval 2 22 v2 rfl rfl) k2
  clear hA0 hval0
  refine (phaseExact_walk a0 cap0 z0 a1 a2 cap2 z2 W ⟨hl0, hm0⟩ hh0 hr0 iz0 w1 ⟨hl2, hm2⟩ hh2 hr2 iz2).mono fun e W' ⟨he, bel⟩ => ?_
  subst he
  exact ⟨_, rfl, _, _, _, [], _, [], hW', trodAll_mk1 (shut_bool Try.underlying4 _), (trodAll_cons_mk (Below.trod laidOut (by kernel_rfl) (of_decide_eq_true (by kernel_rfl)) k0 bel lt0) (trodAll_cons_mk (Below.trod laidOut (by kernel_rfl) (of_decide_eq_true (by kernel_rfl)) k1 bel lt1) (trodAll_cons_mk (Below.trod laidOut (by kernel_rfl) (of_decide_eq_true (by kernel_rfl)) k2 bel lt2) trodAll_mk0))), rfl, bel.frame _, fun h => by cases h⟩

theorem PhaseExact_over : Rows.phaseExactRow.holds Try.pinned (OpenSpec.ofChange Rows.phaseExactSpec) :=
  OpenClaim.holds_of_wide 4 Try.f4 rfl rfl rfl rfl rfl rfl rfl ⟨rfl, rfl, rfl, rfl, rfl⟩ rfl rfl rfl rfl rfl (by kernel_rfl) Try.func4 (by kernel_rfl)
    (of_decide_eq_true (by kernel_rfl)) (by unfold Func.isWrapper; first | (rw [if_pos (by decide +kernel)]; kernel_rfl) | (rw [if_neg (by decide +kernel)]; exact ⟨rfl, rfl⟩))
    (fun os started H enc _ => PhaseExact_lifted os started H enc)

/-- The given statement. -/
theorem PhaseExact_holds : Rows.PhaseExactSaid := PhaseExact_over
#print axioms PhaseExact_holds
end Go.Proofs.Ytmapdkhcfejkaaa
