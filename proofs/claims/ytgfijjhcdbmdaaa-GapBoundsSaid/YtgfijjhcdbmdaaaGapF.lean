/- For a table by numbers, the limit of a phase changes by its step after two green times of a kind in succession, stays from Max to Top, and does not change otherwise. -/
import Derived.Test.YtgfijjhcdbmdaaaTabR
import Derived.Test.YtgfijjhcdbmdaaaGapC
import Derived.Test.YtgfijjhcdbmdaaaGapR
import Derived.Test.YtgfijjhcdbmdaaaFitsZ
namespace Go.Proofs.Ytgfijjhcdbmdaaa
open Go.ChangeShapes Go.WideShapes Go.ChangeAt Go.RowKit
set_option linter.unusedVariables false
attribute [local go_sem] IsBlk.cell IsBlk.frozen

/-- What the trend holds behind j greens, the last N of one kind. -/
def TrIn (row : List Bool) (j N : Nat) (up dn : Int) : Prop :=
  (j = 0 → N = 0) ∧ up = (if j = 0 then 0 else if row.getD (j - 1) false then ((N % 2 : Nat) : Int) else 0) ∧ dn = (if j = 0 then 0 else if row.getD (j - 1) false then 0 else ((N % 2 : Nat) : Int))
theorem trIn_step {row : List Bool} {j N N1 : Nat} {up dn : Int} (h : TrIn row j N up dn) (h1 : N1 = if j = 0 then N else if row.getD j false = row.getD (j - 1) false then N else 0) :
    (row.getD j false = true → bit01 up = ((N1 % 2 : Nat) : Int)) ∧ (row.getD j false = false → bit01 dn = ((N1 % 2 : Nat) : Int)) ∧ TrIn row (j + 1) (N1 + 1) (grUp up (row.getD j false)) (grDn dn (row.getD j false)) := by
  obtain ⟨h0, hu, hd⟩ := h
  unfold TrIn grUp grDn
  rw [show j + 1 - 1 = j by omega]
  generalize row.getD j false = m at *
  generalize row.getD (j - 1) false = m0 at *
  have hb0 : bit01 0 = 0 := rfl
  have hb1 : bit01 1 = 1 := rfl
  have hj1 : ¬(j + 1 = 0) := by omega
  rw [if_neg hj1, if_neg hj1]
  subst hu hd
  by_cases hj : j = 0
  · have h00 := h0 hj
    rw [if_pos hj] at h1
    subst h1
    rw [h00]
    simp only [hj, if_true]
    cases m <;> simp [hb0]
  · rw [if_neg hj] at h1
    rw [if_neg hj, if_neg hj]
    have hx : N % 2 = 0 ∨ N % 2 = 1 := by omega
    rcases hx with hx | hx
    · have hy : (N + 1) % 2 = 1 := by omega
      cases m <;> cases m0 <;> simp at h1 <;> subst h1 <;> simp [hx, hy, hb0, hb1]
    · have hy : (N + 1) % 2 = 0 := by omega
      cases m <;> cases m0 <;> simp at h1 <;> subst h1 <;> simp [hx, hy, hb0, hb1]
theorem blk_conv {w : World} {b : Nat} {C C' : Array Value} {t : TypeId} [h : IsBlk w b C t] (e : C = C') : IsBlk w b C' t := ⟨by rw [← e]; exact h.out⟩
theorem gr_true {mx tp st lim up dn : Int} (h1 : mx ≤ lim ∧ lim ≤ tp) (h2 : 0 ≤ mx ∧ tp ≤ 9999) (h3 : 0 ≤ st ∧ st ≤ 9999) : grLim mx tp st lim up dn true = if bit01 up = 1 then (if lim + st < tp then lim + st else tp) else lim := by
  have e : limM mx tp lim = lim := by unfold limM; omega
  unfold grLim
  rw [e]
  have hp : plusM lim st = lim + st := by unfold plusM; (repeat' split) <;> omega
  simp only [if_true, hp]
  split
  · unfold limM; split <;> omega
  · exact e
theorem gr_false {mx tp st lim up dn : Int} (h1 : mx ≤ lim ∧ lim ≤ tp) (h2 : 0 ≤ mx ∧ tp ≤ 9999) (h3 : 0 ≤ st ∧ st ≤ 9999) : grLim mx tp st lim up dn false = if bit01 dn = 1 then (if mx < lim - st then lim - st else mx) else lim := by
  have e : limM mx tp lim = lim := by unfold limM; omega
  unfold grLim
  rw [e]
  have hp : minusM lim st = lim - st := by unfold minusM; (repeat' split) <;> omega
  simp only [Bool.false_eq_true, if_false, hp]
  split
  · unfold limM; split <;> omega
  · exact e
set_option maxHeartbeats 8000000 in
set_option maxRecDepth 100000 in
theorem gapBounds_walk (a0 : Option Addr) (cap0 : Nat) (z0 : List Int) (a1 : Int) (a2 : Option Addr) (cap2 : Nat) (z2 : List Bool) (w : World) (hc0 : z0.length ≤ cap0 ∧ cap0 ≤ 9223372036854775807) (_ : Hdr w a0 cap0) (hz0 : Ints w a0 z0) (_ : ∀ i, i < z0.length → InKind .i64 (z0.getD i 0)) (_ : InKind .i64 a1)
    (hc2 : z2.length ≤ cap2 ∧ cap2 ≤ 9223372036854775807) (_ : Hdr w a2 cap2) (hz2 : Bools w a2 z2) :
    Calls Try.prog 4 #[.slice a0 z0.length cap0, .int .i64 a1, .slice a2 z2.length cap2] w fun e w' => e = .returned (.bool true) ∧ Below w.heap.size w w' := by
  have HZ : Hid (∀ w', Below w.heap.size w w' → Ints w' a0 z0) := Lib.hid fun w' hb => Row1.below hz0 hb (Nat.le_refl _)
  have HZL : Hid (z0.length ≤ 9223372036854775807) := Lib.hid (by omega)
  have HY := Lib.hid hz2
  have hk0 := Int.emod_nonneg a1 (show (8 : Int) ≠ 0 by omega)
  have hk1 := Int.emod_lt_of_pos a1 (show (0 : Int) < 8 by omega)
  obtain ⟨k, hk⟩ : ∃ k : Nat, a1 % 8 = k := ⟨(a1 % 8).toNat, by omega⟩
  have hk8 : k < 8 := by omega
  have hkI : (k : Int) < 8 := by omega
  have hP := tab_phIn z0 k
  have HPH : Hid (∀ w' T, IsTab w' T (tabM z0) → IsPh T (k * 13) ((tabM z0).ph k)) := Lib.hid fun w' T h => h.isPh k hk8
  generalize (tabM z0).ph k = p at *
  obtain ⟨on, mn, gp, mx, tp, st, yl, rd, wk, bk, rc, lk, rs⟩ := p
  obtain ⟨hmn, hgp, hmx, htp, hst, hyl, hrd, hwk, hbk⟩ := hP
  simp only at hmn hgp hmx htp hst hyl hrd hwk hbk
  haveI iq : IsPq #[.bool on, .int .i64 mn, .int .i64 gp, .int .i64 mx, .int .i64 tp, .int .i64 st, .int .i64 yl, .int .i64 rd, .int .i64 wk, .int .i64 bk, .int .i64 rc, .bool lk, .bool rs] ⟨on, mn, gp, mx, tp, st, yl, rd, wk, bk, rc, lk, rs⟩ := ⟨rfl⟩
  have z := zeroTab
  clear hz0 hz2 hk0 hk1
  by_cases hgo : z2.length ≤ 100 ∧ on = true
  · obtain ⟨hlen, rfl⟩ := hgo
    go_enter Try.func4, Try.ntmps4
    go_upto_region 2 with (first | (go_at_call 13; refine (ltable_up _ _ _ _ HZL.out (HZ.out _ (by (repeat' (first | (with_reducible exact Below.refl _ _) | (with_reducible assumption) | (with_reducible refine Below.setCell ?_ ?_ _) | (with_reducible refine Below.alloc ?_ ?_ _) | (with_reducible refine Below.drew ?_) | (with_reducible refine Up.base _ ?_ ?_) | (with_reducible exact LeSize.out) | exact LeSize.out | exact Nat.le_add_right_of_le LeSize.out | exact Nat.le_add_right_of_le (Nat.le_add_right_of_le LeSize.out) | (with_reducible exact Nat.le_refl _) | (simp; done) | (simp; omega)))))).mono ?_; rintro e w' ⟨T, uT, rfl, rfl, hT⟩) | (refine l_newTab rfl rfl rfl rfl inferInstance hT rfl ?_; go_simp))
    haveI hph := HPH.out _ _ hT
    haveI : Sz131 T := ⟨hT.size⟩
    clear hT HPH
    go_wp2_with (first | (go_at_call 14; refine (place_any _ _ _ (by omega) (by omega)).mono ?_; rintro e w' ⟨rfl, rfl⟩) | (refine l_ph rfl rfl rfl ?_; go_simp) | (refine l_lpq rfl rfl rfl ?_; go_simp) | (go_at_call 9; refine (Up.run (gbegin_any _ _ _ _ _ _ _ _ _ _ _ _ _ _)).mono ?_; rintro e w' ⟨rfl, u, rfl⟩))
    have i8 : IsBlk (u.w.alloc (.cells #[.int .i64 mx, .int .i64 0, .int .i64 0] 25)) (uT.w.heap.size + 1) #[.bool true, .int .i64 mn, .int .i64 gp, .int .i64 mx, .int .i64 tp, .int .i64 st, .int .i64 yl, .int .i64 rd, .int .i64 wk, .int .i64 bk, .int .i64 rc, .bool lk, .bool rs] 23 := inferInstance
    have i9 : IsBlk (u.w.alloc (.cells #[.int .i64 mx, .int .i64 0, .int .i64 0] 25)) u.w.heap.size #[.int .i64 mx, .int .i64 0, .int .i64 0] 25 := inferInstance
    have hbw : Below w.heap.size w (u.w.alloc (.cells #[.int .i64 mx, .int .i64 0, .int .i64 0] 25)) := by (repeat' (first | (with_reducible exact Below.refl _ _) | (with_reducible assumption) | (with_reducible refine Below.setCell ?_ ?_ _) | (with_reducible refine Below.alloc ?_ ?_ _) | (with_reducible refine Below.drew ?_) | (with_reducible refine Up.base _ ?_ ?_) | (with_reducible exact LeSize.out) | exact LeSize.out | exact Nat.le_add_right_of_le LeSize.out | exact Nat.le_add_right_of_le (Nat.le_add_right_of_le LeSize.out) | (with_reducible exact Nat.le_refl _) | (simp; done) | (simp; omega)))
    have hlo := uT.bel.size
    have h89 := u.bel.size
    simp only [World.size_alloc] at h89
    obtain ⟨b8, hb8⟩ : ∃ b, uT.w.heap.size + 1 = b := ⟨_, rfl⟩
    obtain ⟨b9, hb9⟩ : ∃ b, u.w.heap.size = b := ⟨_, rfl⟩
    rw [hb8] at i8
    rw [hb9] at i9
    generalize (u.w.alloc (.cells #[.int .i64 mx, .int .i64 0, .int .i64 0] 25)) = W0 at *
    rw [hb8, hb9]
    haveI : Apart b8 b9 := ⟨by omega⟩
    have hb9w : w.heap.size ≤ b9 := by omega
    clear hb8 hb9 hlo h89
    go_loopw [10, 11] (fun n i wr => ∃ j N : Nat, j ≤ z2.length ∧ N ≤ j ∧ i = .int .i64 j ∧ n = .int .i64 N ∧ ∃ lim up dn, IsBlk wr b8 #[.bool true, .int .i64 mn, .int .i64 gp, .int .i64 mx, .int .i64 tp, .int .i64 st, .int .i64 yl, .int .i64 rd, .int .i64 wk, .int .i64 bk, .int .i64 rc, .bool lk, .bool rs] 23 ∧ IsBlk wr b9 #[.int .i64 lim, .int .i64 up, .int .i64 dn] 25 ∧ (mx ≤ lim ∧ lim ≤ tp) ∧ TrIn z2 j N up dn ∧ Below w.heap.size w wr) (fun _ i _ => z2.length - (intOf i).toNat)
    case atStart => exact ⟨0, 0, Nat.zero_le _, Nat.le_refl _, rfl, rfl, _, _, _, i8, i9, ⟨Int.le_refl _, htp.1⟩, ⟨fun _ => rfl, rfl, rfl⟩, hbw⟩
    case round =>
      clear i8 i9 hbw
      obtain ⟨j, N, hj, hN, rfl, rfl, lim, up, dn, i8, i9, hlm, htr, hbw⟩ := hrel
      haveI : LeSize w.heap.size wr := ⟨hbw.size⟩
      have l9 := i9.le
      have l8 := i8.le
      by_cases hlt : j < z2.length
      · obtain ⟨yb, yoff, rfl, hyb, hyc0⟩ := HY.out.cell (by omega)
        have hyc : ∀ i, i < z2.length → wr.cell? ⟨yb, yoff + i, none⟩ = some (.bool (z2.getD i false)) := fun i hi => by rw [hbw.cell (p := ⟨yb, yoff + i, none⟩) hyb]; exact hyc0 i hi
        clear hyc0
        haveI : LeSize (yb + 1) wr := ⟨Nat.le_trans hyb hbw.size⟩
        have hne1 : (b9 = yb) = False := by simp; omega
        have hne2 : (yb = b9) = False := by simp; omega
        have hcell := hyc j hlt
        have HC : Hid (∀ N1, (N1 = if j = 0 then N else if z2.getD j false = z2.getD (j - 1) false then N else 0) → (z2.getD j false = true → bit01 up = ((N1 % 2 : Nat) : Int)) ∧ (z2.getD j false = false → bit01 dn = ((N1 % 2 : Nat) : Int)) ∧ TrIn z2 (j + 1) (N1 + 1) (grUp up (z2.getD j false)) (grDn dn (z2.getD j false))) := Lib.hid fun N1 h => trIn_step htr h
        have hT1 := gr_true (up := up) (dn := dn) hlm (by omega) (show 0 ≤ st ∧ st ≤ 9999 by omega)
        have hF1 := gr_false (up := up) (dn := dn) hlm (by omega) (show 0 ≤ st ∧ st ≤ 9999 by omega)
        have HN0 : Hid (j = 0 → N = 0) := Lib.hid htr.1
        clear htr
        cases j with
        | zero =>
          obtain rfl := HN0.out rfl
          clear hyc
          simp only [Nat.add_zero] at hcell
          rw [show ((0 : Nat) : Int) = 0 from rfl]
          generalize z2.getD 0 false = m at *
          cases m
          · obtain ⟨hg1, hg2, hg3⟩ := HC.out 0 (by simp)
            rw [hg2 rfl] at hF1
            rw [if_neg (by decide)] at hF1
            have HG := Lib.hid hg3
            have HL := Lib.hid hF1
            clear hg1 hg2 hg3 HC hT1 hF1
            have hLL : limM mx tp (lim) = lim := by unfold limM; omega
            go_wp2
            (refine wp_region_up_tail 7 (by kernel_rfl) (by kernel_rfl) ?_; simp only [List.take_succ_cons, List.take_zero, List.drop_succ_cons, List.drop_zero]; (repeat (first | (go_big_quiet_want; refine q_lpq rfl rfl ?_; simp only [Act.put, List.setIfInBounds_toArray, List.set_cons_succ, List.set_cons_zero]; go_big_quiet_on) | go_big_quiet_step ((first | (go_at_call 15; exact Up.calls (grow_any _ _ _ _ _ _ _ _ _ _ _ _ _ _ _ _ _ _ (by unfold InKind; omega) (by unfold InKind; omega) (by unfold InKind; omega) (by unfold InKind; omega))) | fail)))); refine wpQuiet_nil ?_; rintro _ ⟨u, rfl⟩)
            rw [HL.out]
            go_wp2
            (refine wp_region_up (by kernel_rfl) (by kernel_rfl) ?_; (repeat (first | go_big_quiet_step ((first | fail)))); refine wpQuiet_nil ?_; rintro _ ⟨u, rfl⟩)
            go_wp2_with (go_at_call 10; refine (Up.run (limit_any _ _ _ _ _ _ _ _ _ _ _ _ _ _ _ _ _)).mono ?_; rintro e w' ⟨rfl, u, rfl⟩)
            go_roundw
            case rel => exact ⟨_, 0 + 1, by omega, by omega, by first | rfl | go_num, by first | rfl | go_num, lim, grUp up false, grDn dn false, blk_conv (by first | rfl | simp), blk_conv (by first | rfl | simp), by omega, HG.out, by (repeat' (first | (with_reducible exact Below.refl _ _) | (with_reducible assumption) | (with_reducible refine Below.setCell ?_ ?_ _) | (with_reducible refine Below.alloc ?_ ?_ _) | (with_reducible refine Below.drew ?_) | (with_reducible refine Up.base _ ?_ ?_) | (with_reducible exact LeSize.out) | exact LeSize.out | exact Nat.le_add_right_of_le LeSize.out | exact Nat.le_add_right_of_le (Nat.le_add_right_of_le LeSize.out) | (with_reducible exact Nat.le_refl _) | (simp; done) | (simp; omega)))⟩
            case measure => simp [intOf]; omega
          · obtain ⟨hg1, hg2, hg3⟩ := HC.out 0 (by simp)
            rw [hg1 rfl] at hT1
            rw [if_neg (by decide)] at hT1
            have HG := Lib.hid hg3
            have HL := Lib.hid hT1
            clear hg1 hg2 hg3 HC hF1 hT1
            have hLL : limM mx tp (lim) = lim := by unfold limM; omega
            go_wp2
            (refine wp_region_up_tail 7 (by kernel_rfl) (by kernel_rfl) ?_; simp only [List.take_succ_cons, List.take_zero, List.drop_succ_cons, List.drop_zero]; (repeat (first | (go_big_quiet_want; refine q_lpq rfl rfl ?_; simp only [Act.put, List.setIfInBounds_toArray, List.set_cons_succ, List.set_cons_zero]; go_big_quiet_on) | go_big_quiet_step ((first | (go_at_call 15; exact Up.calls (grow_any _ _ _ _ _ _ _ _ _ _ _ _ _ _ _ _ _ _ (by unfold InKind; omega) (by unfold InKind; omega) (by unfold InKind; omega) (by unfold InKind; omega))) | fail)))); refine wpQuiet_nil ?_; rintro _ ⟨u, rfl⟩)
            rw [HL.out]
            go_wp2
            (refine wp_region_up (by kernel_rfl) (by kernel_rfl) ?_; (repeat (first | go_big_quiet_step ((first | fail)))); refine wpQuiet_nil ?_; rintro _ ⟨u, rfl⟩)
            go_wp2_with (go_at_call 10; refine (Up.run (limit_any _ _ _ _ _ _ _ _ _ _ _ _ _ _ _ _ _)).mono ?_; rintro e w' ⟨rfl, u, rfl⟩)
            go_roundw
            case rel => exact ⟨_, 0 + 1, by omega, by omega, by first | rfl | go_num, by first | rfl | go_num, lim, grUp up true, grDn dn true, blk_conv (by first | rfl | simp), blk_conv (by first | rfl | simp), by omega, HG.out, by (repeat' (first | (with_reducible exact Below.refl _ _) | (with_reducible assumption) | (with_reducible refine Below.setCell ?_ ?_ _) | (with_reducible refine Below.alloc ?_ ?_ _) | (with_reducible refine Below.drew ?_) | (with_reducible refine Up.base _ ?_ ?_) | (with_reducible exact LeSize.out) | exact LeSize.out | exact Nat.le_add_right_of_le LeSize.out | exact Nat.le_add_right_of_le (Nat.le_add_right_of_le LeSize.out) | (with_reducible exact Nat.le_refl _) | (simp; done) | (simp; omega)))⟩
            case measure => simp [intOf]; omega
        | succ j =>
          have hcell0 := hyc j (by omega)
          have hpos : (0 : Int) < (j : Int) + 1 := by omega
          rw [show ((j + 1 : Nat) : Int) = (j : Int) + 1 by omega]
          clear hyc
          rw [show j + 1 - 1 = j by omega] at HC
          generalize z2.getD (j + 1) false = m at *
          generalize z2.getD j false = m0 at *
          cases m <;> cases m0
          · obtain ⟨hg1, hg2, hg3⟩ := HC.out N (by simp)
            rw [hg2 rfl] at hF1
            rcases (show N % 2 = 0 ∨ N % 2 = 1 by omega) with hx | hx
            · rw [hx, if_neg (by decide)] at hF1
              have hr : Int.tmod ((N : Int) + 1) 2 = 1 := by rw [Int.tmod_eq_emod_of_nonneg (by omega)]; omega
              have HG := Lib.hid hg3
              have HL := Lib.hid hF1
              clear hg1 hg2 hg3 HC hT1 hF1
              have hLL : limM mx tp (lim) = lim := by unfold limM; omega
              go_wp2
              (refine wp_region_up_tail 7 (by kernel_rfl) (by kernel_rfl) ?_; simp only [List.take_succ_cons, List.take_zero, List.drop_succ_cons, List.drop_zero]; (repeat (first | (go_big_quiet_want; refine q_lpq rfl rfl ?_; simp only [Act.put, List.setIfInBounds_toArray, List.set_cons_succ, List.set_cons_zero]; go_big_quiet_on) | go_big_quiet_step ((first | (go_at_call 15; exact Up.calls (grow_any _ _ _ _ _ _ _ _ _ _ _ _ _ _ _ _ _ _ (by unfold InKind; omega) (by unfold InKind; omega) (by unfold InKind; omega) (by unfold InKind; omega))) | fail)))); refine wpQuiet_nil ?_; rintro _ ⟨u, rfl⟩)
              rw [HL.out]
              go_wp2
              (refine wp_region_up (by kernel_rfl) (by kernel_rfl) ?_; (repeat (first | go_big_quiet_step ((first | fail)))); refine wpQuiet_nil ?_; rintro _ ⟨u, rfl⟩)
              go_wp2_with (go_at_call 10; refine (Up.run (limit_any _ _ _ _ _ _ _ _ _ _ _ _ _ _ _ _ _)).mono ?_; rintro e w' ⟨rfl, u, rfl⟩)
              go_roundw
              case rel => exact ⟨_, N + 1, by omega, by omega, by first | rfl | go_num, by first | rfl | go_num, lim, grUp up false, grDn dn false, blk_conv (by first | rfl | simp), blk_conv (by first | rfl | simp), by omega, HG.out, by (repeat' (first | (with_reducible exact Below.refl _ _) | (with_reducible assumption) | (with_reducible refine Below.setCell ?_ ?_ _) | (with_reducible refine Below.alloc ?_ ?_ _) | (with_reducible refine Below.drew ?_) | (with_reducible refine Up.base _ ?_ ?_) | (with_reducible exact LeSize.out) | exact LeSize.out | exact Nat.le_add_right_of_le LeSize.out | exact Nat.le_add_right_of_le (Nat.le_add_right_of_le LeSize.out) | (with_reducible exact Nat.le_refl _) | (simp; done) | (simp; omega)))⟩
              case measure => simp [intOf]; omega
            · rw [hx, if_pos (by decide)] at hF1
              have hr : Int.tmod ((N : Int) + 1) 2 = 0 := by rw [Int.tmod_eq_emod_of_nonneg (by omega)]; omega
              by_cases hc : mx < lim - st
              · rw [if_pos hc] at hF1
                have HG := Lib.hid hg3
                have HL := Lib.hid hF1
                clear hg1 hg2 hg3 HC hT1 hF1
                have hLL : limM mx tp (lim - st) = lim - st := by unfold limM; omega
                go_wp2
                (refine wp_region_up_tail 7 (by kernel_rfl) (by kernel_rfl) ?_; simp only [List.take_succ_cons, List.take_zero, List.drop_succ_cons, List.drop_zero]; (repeat (first | (go_big_quiet_want; refine q_lpq rfl rfl ?_; simp only [Act.put, List.setIfInBounds_toArray, List.set_cons_succ, List.set_cons_zero]; go_big_quiet_on) | go_big_quiet_step ((first | (go_at_call 15; exact Up.calls (grow_any _ _ _ _ _ _ _ _ _ _ _ _ _ _ _ _ _ _ (by unfold InKind; omega) (by unfold InKind; omega) (by unfold InKind; omega) (by unfold InKind; omega))) | fail)))); refine wpQuiet_nil ?_; rintro _ ⟨u, rfl⟩)
                rw [HL.out]
                go_wp2
                (refine wp_region_up (by kernel_rfl) (by kernel_rfl) ?_; (repeat (first | go_big_quiet_step ((first | fail)))); refine wpQuiet_nil ?_; rintro _ ⟨u, rfl⟩)
                go_wp2_with (go_at_call 10; refine (Up.run (limit_any _ _ _ _ _ _ _ _ _ _ _ _ _ _ _ _ _)).mono ?_; rintro e w' ⟨rfl, u, rfl⟩)
                go_roundw
                case rel => exact ⟨_, N + 1, by omega, by omega, by first | rfl | go_num, by first | rfl | go_num, lim - st, grUp up false, grDn dn false, blk_conv (by first | rfl | simp), blk_conv (by first | rfl | simp), by omega, HG.out, by (repeat' (first | (with_reducible exact Below.refl _ _) | (with_reducible assumption) | (with_reducible refine Below.setCell ?_ ?_ _) | (with_reducible refine Below.alloc ?_ ?_ _) | (with_reducible refine Below.drew ?_) | (with_reducible refine Up.base _ ?_ ?_) | (with_reducible exact LeSize.out) | exact LeSize.out | exact Nat.le_add_right_of_le LeSize.out | exact Nat.le_add_right_of_le (Nat.le_add_right_of_le LeSize.out) | (with_reducible exact Nat.le_refl _) | (simp; done) | (simp; omega)))⟩
                case measure => simp [intOf]; omega
              · rw [if_neg hc] at hF1
                have HG := Lib.hid hg3
                have HL := Lib.hid hF1
                clear hg1 hg2 hg3 HC hT1 hF1
                have hLL : limM mx tp (mx) = mx := by unfold limM; omega
                go_wp2
                (refine wp_region_up_tail 7 (by kernel_rfl) (by kernel_rfl) ?_; simp only [List.take_succ_cons, List.take_zero, List.drop_succ_cons, List.drop_zero]; (repeat (first | (go_big_quiet_want; refine q_lpq rfl rfl ?_; simp only [Act.put, List.setIfInBounds_toArray, List.set_cons_succ, List.set_cons_zero]; go_big_quiet_on) | go_big_quiet_step ((first | (go_at_call 15; exact Up.calls (grow_any _ _ _ _ _ _ _ _ _ _ _ _ _ _ _ _ _ _ (by unfold InKind; omega) (by unfold InKind; omega) (by unfold InKind; omega) (by unfold InKind; omega))) | fail)))); refine wpQuiet_nil ?_; rintro _ ⟨u, rfl⟩)
                rw [HL.out]
                go_wp2
                (refine wp_region_up (by kernel_rfl) (by kernel_rfl) ?_; (repeat (first | go_big_quiet_step ((first | fail)))); refine wpQuiet_nil ?_; rintro _ ⟨u, rfl⟩)
                go_wp2_with (go_at_call 10; refine (Up.run (limit_any _ _ _ _ _ _ _ _ _ _ _ _ _ _ _ _ _)).mono ?_; rintro e w' ⟨rfl, u, rfl⟩)
                go_roundw
                case rel => exact ⟨_, N + 1, by omega, by omega, by first | rfl | go_num, by first | rfl | go_num, mx, grUp up false, grDn dn false, blk_conv (by first | rfl | simp), blk_conv (by first | rfl | simp), by omega, HG.out, by (repeat' (first | (with_reducible exact Below.refl _ _) | (with_reducible assumption) | (with_reducible refine Below.setCell ?_ ?_ _) | (with_reducible refine Below.alloc ?_ ?_ _) | (with_reducible refine Below.drew ?_) | (with_reducible refine Up.base _ ?_ ?_) | (with_reducible exact LeSize.out) | exact LeSize.out | exact Nat.le_add_right_of_le LeSize.out | exact Nat.le_add_right_of_le (Nat.le_add_right_of_le LeSize.out) | (with_reducible exact Nat.le_refl _) | (simp; done) | (simp; omega)))⟩
                case measure => simp [intOf]; omega
          · obtain ⟨hg1, hg2, hg3⟩ := HC.out 0 (by simp)
            rw [hg2 rfl] at hF1
            rw [if_neg (by decide)] at hF1
            have HG := Lib.hid hg3
            have HL := Lib.hid hF1
            clear hg1 hg2 hg3 HC hT1 hF1
            have hLL : limM mx tp (lim) = lim := by unfold limM; omega
            go_wp2
            (refine wp_region_up_tail 7 (by kernel_rfl) (by kernel_rfl) ?_; simp only [List.take_succ_cons, List.take_zero, List.drop_succ_cons, List.drop_zero]; (repeat (first | (go_big_quiet_want; refine q_lpq rfl rfl ?_; simp only [Act.put, List.setIfInBounds_toArray, List.set_cons_succ, List.set_cons_zero]; go_big_quiet_on) | go_big_quiet_step ((first | (go_at_call 15; exact Up.calls (grow_any _ _ _ _ _ _ _ _ _ _ _ _ _ _ _ _ _ _ (by unfold InKind; omega) (by unfold InKind; omega) (by unfold InKind; omega) (by unfold InKind; omega))) | fail)))); refine wpQuiet_nil ?_; rintro _ ⟨u, rfl⟩)
            rw [HL.out]
            go_wp2
            (refine wp_region_up (by kernel_rfl) (by kernel_rfl) ?_; (repeat (first | go_big_quiet_step ((first | fail)))); refine wpQuiet_nil ?_; rintro _ ⟨u, rfl⟩)
            go_wp2_with (go_at_call 10; refine (Up.run (limit_any _ _ _ _ _ _ _ _ _ _ _ _ _ _ _ _ _)).mono ?_; rintro e w' ⟨rfl, u, rfl⟩)
            go_roundw
            case rel => exact ⟨_, 0 + 1, by omega, by omega, by first | rfl | go_num, by first | rfl | go_num, lim, grUp up false, grDn dn false, blk_conv (by first | rfl | simp), blk_conv (by first | rfl | simp), by omega, HG.out, by (repeat' (first | (with_reducible exact Below.refl _ _) | (with_reducible assumption) | (with_reducible refine Below.setCell ?_ ?_ _) | (with_reducible refine Below.alloc ?_ ?_ _) | (with_reducible refine Below.drew ?_) | (with_reducible refine Up.base _ ?_ ?_) | (with_reducible exact LeSize.out) | exact LeSize.out | exact Nat.le_add_right_of_le LeSize.out | exact Nat.le_add_right_of_le (Nat.le_add_right_of_le LeSize.out) | (with_reducible exact Nat.le_refl _) | (simp; done) | (simp; omega)))⟩
            case measure => simp [intOf]; omega
          · obtain ⟨hg1, hg2, hg3⟩ := HC.out 0 (by simp)
            rw [hg1 rfl] at hT1
            rw [if_neg (by decide)] at hT1
            have HG := Lib.hid hg3
            have HL := Lib.hid hT1
            clear hg1 hg2 hg3 HC hF1 hT1
            have hLL : limM mx tp (lim) = lim := by unfold limM; omega
            go_wp2
            (refine wp_region_up_tail 7 (by kernel_rfl) (by kernel_rfl) ?_; simp only [List.take_succ_cons, List.take_zero, List.drop_succ_cons, List.drop_zero]; (repeat (first | (go_big_quiet_want; refine q_lpq rfl rfl ?_; simp only [Act.put, List.setIfInBounds_toArray, List.set_cons_succ, List.set_cons_zero]; go_big_quiet_on) | go_big_quiet_step ((first | (go_at_call 15; exact Up.calls (grow_any _ _ _ _ _ _ _ _ _ _ _ _ _ _ _ _ _ _ (by unfold InKind; omega) (by unfold InKind; omega) (by unfold InKind; omega) (by unfold InKind; omega))) | fail)))); refine wpQuiet_nil ?_; rintro _ ⟨u, rfl⟩)
            rw [HL.out]
            go_wp2
            (refine wp_region_up (by kernel_rfl) (by kernel_rfl) ?_; (repeat (first | go_big_quiet_step ((first | fail)))); refine wpQuiet_nil ?_; rintro _ ⟨u, rfl⟩)
            go_wp2_with (go_at_call 10; refine (Up.run (limit_any _ _ _ _ _ _ _ _ _ _ _ _ _ _ _ _ _)).mono ?_; rintro e w' ⟨rfl, u, rfl⟩)
            go_roundw
            case rel => exact ⟨_, 0 + 1, by omega, by omega, by first | rfl | go_num, by first | rfl | go_num, lim, grUp up true, grDn dn true, blk_conv (by first | rfl | simp), blk_conv (by first | rfl | simp), by omega, HG.out, by (repeat' (first | (with_reducible exact Below.refl _ _) | (with_reducible assumption) | (with_reducible refine Below.setCell ?_ ?_ _) | (with_reducible refine Below.alloc ?_ ?_ _) | (with_reducible refine Below.drew ?_) | (with_reducible refine Up.base _ ?_ ?_) | (with_reducible exact LeSize.out) | exact LeSize.out | exact Nat.le_add_right_of_le LeSize.out | exact Nat.le_add_right_of_le (Nat.le_add_right_of_le LeSize.out) | (with_reducible exact Nat.le_refl _) | (simp; done) | (simp; omega)))⟩
            case measure => simp [intOf]; omega
          · obtain ⟨hg1, hg2, hg3⟩ := HC.out N (by simp)
            rw [hg1 rfl] at hT1
            rcases (show N % 2 = 0 ∨ N % 2 = 1 by omega) with hx | hx
            · rw [hx, if_neg (by decide)] at hT1
              have hr : Int.tmod ((N : Int) + 1) 2 = 1 := by rw [Int.tmod_eq_emod_of_nonneg (by omega)]; omega
              have HG := Lib.hid hg3
              have HL := Lib.hid hT1
              clear hg1 hg2 hg3 HC hF1 hT1
              have hLL : limM mx tp (lim) = lim := by unfold limM; omega
              go_wp2
              (refine wp_region_up_tail 7 (by kernel_rfl) (by kernel_rfl) ?_; simp only [List.take_succ_cons, List.take_zero, List.drop_succ_cons, List.drop_zero]; (repeat (first | (go_big_quiet_want; refine q_lpq rfl rfl ?_; simp only [Act.put, List.setIfInBounds_toArray, List.set_cons_succ, List.set_cons_zero]; go_big_quiet_on) | go_big_quiet_step ((first | (go_at_call 15; exact Up.calls (grow_any _ _ _ _ _ _ _ _ _ _ _ _ _ _ _ _ _ _ (by unfold InKind; omega) (by unfold InKind; omega) (by unfold InKind; omega) (by unfold InKind; omega))) | fail)))); refine wpQuiet_nil ?_; rintro _ ⟨u, rfl⟩)
              rw [HL.out]
              go_wp2
              (refine wp_region_up (by kernel_rfl) (by kernel_rfl) ?_; (repeat (first | go_big_quiet_step ((first | fail)))); refine wpQuiet_nil ?_; rintro _ ⟨u, rfl⟩)
              go_wp2_with (go_at_call 10; refine (Up.run (limit_any _ _ _ _ _ _ _ _ _ _ _ _ _ _ _ _ _)).mono ?_; rintro e w' ⟨rfl, u, rfl⟩)
              go_roundw
              case rel => exact ⟨_, N + 1, by omega, by omega, by first | rfl | go_num, by first | rfl | go_num, lim, grUp up true, grDn dn true, blk_conv (by first | rfl | simp), blk_conv (by first | rfl | simp), by omega, HG.out, by (repeat' (first | (with_reducible exact Below.refl _ _) | (with_reducible assumption) | (with_reducible refine Below.setCell ?_ ?_ _) | (with_reducible refine Below.alloc ?_ ?_ _) | (with_reducible refine Below.drew ?_) | (with_reducible refine Up.base _ ?_ ?_) | (with_reducible exact LeSize.out) | exact LeSize.out | exact Nat.le_add_right_of_le LeSize.out | exact Nat.le_add_right_of_le (Nat.le_add_right_of_le LeSize.out) | (with_reducible exact Nat.le_refl _) | (simp; done) | (simp; omega)))⟩
              case measure => simp [intOf]; omega
            · rw [hx, if_pos (by decide)] at hT1
              have hr : Int.tmod ((N : Int) + 1) 2 = 0 := by rw [Int.tmod_eq_emod_of_nonneg (by omega)]; omega
              by_cases hc : lim + st < tp
              · rw [if_pos hc] at hT1
                have HG := Lib.hid hg3
                have HL := Lib.hid hT1
                clear hg1 hg2 hg3 HC hF1 hT1
                have hLL : limM mx tp (lim + st) = lim + st := by unfold limM; omega
                go_wp2
                (refine wp_region_up_tail 7 (by kernel_rfl) (by kernel_rfl) ?_; simp only [List.take_succ_cons, List.take_zero, List.drop_succ_cons, List.drop_zero]; (repeat (first | (go_big_quiet_want; refine q_lpq rfl rfl ?_; simp only [Act.put, List.setIfInBounds_toArray, List.set_cons_succ, List.set_cons_zero]; go_big_quiet_on) | go_big_quiet_step ((first | (go_at_call 15; exact Up.calls (grow_any _ _ _ _ _ _ _ _ _ _ _ _ _ _ _ _ _ _ (by unfold InKind; omega) (by unfold InKind; omega) (by unfold InKind; omega) (by unfold InKind; omega))) | fail)))); refine wpQuiet_nil ?_; rintro _ ⟨u, rfl⟩)
                rw [HL.out]
                go_wp2
                (refine wp_region_up (by kernel_rfl) (by kernel_rfl) ?_; (repeat (first | go_big_quiet_step ((first | fail)))); refine wpQuiet_nil ?_; rintro _ ⟨u, rfl⟩)
                go_wp2_with (go_at_call 10; refine (Up.run (limit_any _ _ _ _ _ _ _ _ _ _ _ _ _ _ _ _ _)).mono ?_; rintro e w' ⟨rfl, u, rfl⟩)
                go_roundw
                case rel => exact ⟨_, N + 1, by omega, by omega, by first | rfl | go_num, by first | rfl | go_num, lim + st, grUp up true, grDn dn true, blk_conv (by first | rfl | simp), blk_conv (by first | rfl | simp), by omega, HG.out, by (repeat' (first | (with_reducible exact Below.refl _ _) | (with_reducible assumption) | (with_reducible refine Below.setCell ?_ ?_ _) | (with_reducible refine Below.alloc ?_ ?_ _) | (with_reducible refine Below.drew ?_) | (with_reducible refine Up.base _ ?_ ?_) | (with_reducible exact LeSize.out) | exact LeSize.out | exact Nat.le_add_right_of_le LeSize.out | exact Nat.le_add_right_of_le (Nat.le_add_right_of_le LeSize.out) | (with_reducible exact Nat.le_refl _) | (simp; done) | (simp; omega)))⟩
                case measure => simp [intOf]; omega
              · rw [if_neg hc] at hT1
                have HG := Lib.hid hg3
                have HL := Lib.hid hT1
                clear hg1 hg2 hg3 HC hF1 hT1
                have hLL : limM mx tp (tp) = tp := by unfold limM; omega
                go_wp2
                (refine wp_region_up_tail 7 (by kernel_rfl) (by kernel_rfl) ?_; simp only [List.take_succ_cons, List.take_zero, List.drop_succ_cons, List.drop_zero]; (repeat (first | (go_big_quiet_want; refine q_lpq rfl rfl ?_; simp only [Act.put, List.setIfInBounds_toArray, List.set_cons_succ, List.set_cons_zero]; go_big_quiet_on) | go_big_quiet_step ((first | (go_at_call 15; exact Up.calls (grow_any _ _ _ _ _ _ _ _ _ _ _ _ _ _ _ _ _ _ (by unfold InKind; omega) (by unfold InKind; omega) (by unfold InKind; omega) (by unfold InKind; omega))) | fail)))); refine wpQuiet_nil ?_; rintro _ ⟨u, rfl⟩)
                rw [HL.out]
                go_wp2
                (refine wp_region_up (by kernel_rfl) (by kernel_rfl) ?_; (repeat (first | go_big_quiet_step ((first | fail)))); refine wpQuiet_nil ?_; rintro _ ⟨u, rfl⟩)
                go_wp2_with (go_at_call 10; refine (Up.run (limit_any _ _ _ _ _ _ _ _ _ _ _ _ _ _ _ _ _)).mono ?_; rintro e w' ⟨rfl, u, rfl⟩)
                go_roundw
                case rel => exact ⟨_, N + 1, by omega, by omega, by first | rfl | go_num, by first | rfl | go_num, tp, grUp up true, grDn dn true, blk_conv (by first | rfl | simp), blk_conv (by first | rfl | simp), by omega, HG.out, by (repeat' (first | (with_reducible exact Below.refl _ _) | (with_reducible assumption) | (with_reducible refine Below.setCell ?_ ?_ _) | (with_reducible refine Below.alloc ?_ ?_ _) | (with_reducible refine Below.drew ?_) | (with_reducible refine Up.base _ ?_ ?_) | (with_reducible exact LeSize.out) | exact LeSize.out | exact Nat.le_add_right_of_le LeSize.out | exact Nat.le_add_right_of_le (Nat.le_add_right_of_le LeSize.out) | (with_reducible exact Nat.le_refl _) | (simp; done) | (simp; omega)))⟩
                case measure => simp [intOf]; omega
      · obtain rfl : j = z2.length := by omega
        have hL : limM mx tp lim = lim := by unfold limM; omega
        go_wp2
        (refine wp_region_up (by kernel_rfl) (by kernel_rfl) ?_; (repeat (first | (go_big_quiet_want; refine q_lpq rfl rfl ?_; simp only [Act.put, List.setIfInBounds_toArray, List.set_cons_succ, List.set_cons_zero]; go_big_quiet_on) | go_big_quiet_step ((first | (go_at_call 10; exact Up.calls (limit_any _ _ _ _ _ _ _ _ _ _ _ _ _ _ _ _ _)) | (go_at_call 12; exact Up.calls (awake_any _)) | fail)))); refine wpQuiet_nil ?_; rintro _ ⟨u, rfl⟩)
        go_wp2
        go_returns
        exact ⟨rfl, by (repeat' (first | (with_reducible exact Below.refl _ _) | (with_reducible assumption) | (with_reducible refine Below.setCell ?_ ?_ _) | (with_reducible refine Below.alloc ?_ ?_ _) | (with_reducible refine Below.drew ?_) | (with_reducible refine Up.base _ ?_ ?_) | (with_reducible exact LeSize.out) | exact LeSize.out | exact Nat.le_add_right_of_le LeSize.out | exact Nat.le_add_right_of_le (Nat.le_add_right_of_le LeSize.out) | (with_reducible exact Nat.le_refl _) | (simp; done) | (simp; omega)))⟩
  · have HON : Hid (z2.length ≤ 100 → on = false) := Lib.hid fun h => by cases on; rfl; exact absurd ⟨h, rfl⟩ hgo
    clear hgo
    go_enter Try.func4, Try.ntmps4
    go_upto_region 2 with (first | (go_at_call 13; refine (ltable_up _ _ _ _ HZL.out (HZ.out _ (by (repeat' (first | (with_reducible exact Below.refl _ _) | (with_reducible assumption) | (with_reducible refine Below.setCell ?_ ?_ _) | (with_reducible refine Below.alloc ?_ ?_ _) | (with_reducible refine Below.drew ?_) | (with_reducible refine Up.base _ ?_ ?_) | (with_reducible exact LeSize.out) | exact LeSize.out | exact Nat.le_add_right_of_le LeSize.out | exact Nat.le_add_right_of_le (Nat.le_add_right_of_le LeSize.out) | (with_reducible exact Nat.le_refl _) | (simp; done) | (simp; omega)))))).mono ?_; rintro e w' ⟨T, uT, rfl, rfl, hT⟩) | (refine l_newTab rfl rfl rfl rfl inferInstance hT rfl ?_; go_simp))
    haveI hph := HPH.out _ _ hT
    haveI : Sz131 T := ⟨hT.size⟩
    clear hT HPH
    by_cases hlen : z2.length ≤ 100
    · obtain rfl := HON.out hlen
      go_wp2_with (first | (go_at_call 14; refine (place_any _ _ _ (by omega) (by omega)).mono ?_; rintro e w' ⟨rfl, rfl⟩) | (refine l_ph rfl rfl rfl ?_; go_simp) | (go_at_call 12; refine (Up.run (awake_any _)).mono ?_; rintro e w' ⟨rfl, u, rfl⟩))
      go_returns
      exact ⟨rfl, by (repeat' (first | (with_reducible exact Below.refl _ _) | (with_reducible assumption) | (with_reducible refine Below.setCell ?_ ?_ _) | (with_reducible refine Below.alloc ?_ ?_ _) | (with_reducible refine Below.drew ?_) | (with_reducible refine Up.base _ ?_ ?_) | (with_reducible exact LeSize.out) | exact LeSize.out | exact Nat.le_add_right_of_le LeSize.out | exact Nat.le_add_right_of_le (Nat.le_add_right_of_le LeSize.out) | (with_reducible exact Nat.le_refl _) | (simp; done) | (simp; omega)))⟩
    · have hlen2 : 100 < z2.length := by omega
      clear hlen
      go_wp2_with (first | (go_at_call 14; refine (place_any _ _ _ (by omega) (by omega)).mono ?_; rintro e w' ⟨rfl, rfl⟩) | (refine l_ph rfl rfl rfl ?_; go_simp) | (go_at_call 12; refine (Up.run (awake_any _)).mono ?_; rintro e w' ⟨rfl, u, rfl⟩))
      go_returns
      exact ⟨rfl, by (repeat' (first | (with_reducible exact Below.refl _ _) | (with_reducible assumption) | (with_reducible refine Below.setCell ?_ ?_ _) | (with_reducible refine Below.alloc ?_ ?_ _) | (with_reducible refine Below.drew ?_) | (with_reducible refine Up.base _ ?_ ?_) | (with_reducible exact LeSize.out) | exact LeSize.out | exact Nat.le_add_right_of_le LeSize.out | exact Nat.le_add_right_of_le (Nat.le_add_right_of_le LeSize.out) | (with_reducible exact Nat.le_refl _) | (simp; done) | (simp; omega)))⟩
set_option maxRecDepth 100000 in
theorem GapBounds_lifted (os : Os) (started : os.Started) (H : Type) (enc : TypeId × Value → H) :
    ReturnsInHanded {} Try.checked os 4 .any (Rows.gapBoundsSpec.pre6 enc Try.prog Try.f4 Rows.gapBoundsRow.domain false) (Rows.gapBoundsSpec.post enc Try.prog Try.f4 false true false false) := by
  refine returnsInHanded_of_change (C := Try.checked) own started (by kernel_rfl) Try.func4
    (ChangeSpec.witness6 (enc := enc) (C := Try.checked) false ⟨#[], #[.slice none 0 0, .int .i64 0, .slice none 0 0], []⟩ 8 (by kernel_rfl) (by kernel_rfl) (by kernel_rfl) (by kernel_rfl)) ?_
  intro W base args ds gs before hval0 hW hcnd _
  have hval : ∀ (j : Nat) t v, Try.f4.params[j]? = some t → args[j]? = some v → Value.okWide Try.prog W .any base t v := hval0
  have hW' := hW
  obtain ⟨p, q, hA0, hV, rfl, hfz, hnd⟩ := hW
  have hA : DataW.TrodAll enc Try.prog W 0 (fun _ => true) true Try.f4.params.toList args.toList ds p := hA0
  rw [Try.params4] at hA hval
  obtain ⟨v0, vs0, d0, ds0, p0, q0, hargs, rfl, rfl, h0, r0⟩ := trodAll_cons hA
  obtain ⟨v1, vs1, d1, ds1, p1, q1, rfl, rfl, rfl, h1, r1⟩ := trodAll_cons r0
  obtain ⟨v2, vs2, d2, ds2, p2, q2, rfl, rfl, rfl, h2, r2⟩ := trodAll_cons r1
  obtain ⟨rfl, rfl, rfl⟩ := trodAll_nil r2
  obtain rfl : args = #[v0, v1, v2] := by cases args; simp_all
  obtain ⟨rfl, rfl⟩ := trodVars_none hV
  have k0 := h0
  have lt0 : ∀ x ∈ p0, x.block < W.heap.size := by obtain ⟨m, hm⟩ := k0; exact DataW.trod_lt m _ _ _ hm
  have k1 := h1
  have lt1 : ∀ x ∈ p1, x.block < W.heap.size := by obtain ⟨m, hm⟩ := k1; exact DataW.trod_lt m _ _ _ hm
  have k2 := h2
  have lt2 : ∀ x ∈ p2, x.block < W.heap.size := by obtain ⟨m, hm⟩ := k2; exact DataW.trod_lt m _ _ _ hm
  obtain ⟨a0, cap0, z0, rfl, hl0, hm0, hh0, hr0, iz0⟩ := open_ints1 Try.underlying31 Try.underlying3 (by kernel_rfl) (hval 0 31 v0 rfl rfl) k0
  obtain ⟨a1, rfl, w1⟩ := open_int1 Try.underlying3 (hval 1 3 v1 rfl rfl)
  obtain ⟨a2, cap2, z2, rfl, hl2, hm2, hh2, hr2⟩ := open_bools1 Try.underlying32 Try.underlying4 (by kernel_rfl) (hval 2 32 v2 rfl rfl) k2
  clear hA0 hval0
  refine (gapBounds_walk a0 cap0 z0 a1 a2 cap2 z2 W ⟨hl0, hm0⟩ hh0 hr0 iz0 w1 ⟨hl2, hm2⟩ hh2 hr2).mono fun e W' ⟨he, bel⟩ => ?_
  subst he
  exact ⟨_, rfl, _, _, _, [], _, [], hW', trodAll_mk1 (shut_bool Try.underlying4 _), (trodAll_cons_mk (Below.trod laidOut (by kernel_rfl) (of_decide_eq_true (by kernel_rfl)) k0 bel lt0) (trodAll_cons_mk (Below.trod laidOut (by kernel_rfl) (of_decide_eq_true (by kernel_rfl)) k1 bel lt1) (trodAll_cons_mk (Below.trod laidOut (by kernel_rfl) (of_decide_eq_true (by kernel_rfl)) k2 bel lt2) trodAll_mk0))), rfl, bel.frame _, fun h => by cases h⟩

theorem GapBounds_over : Rows.gapBoundsRow.holds Try.pinned (OpenSpec.ofChange Rows.gapBoundsSpec) :=
  OpenClaim.holds_of_wide 4 Try.f4 rfl rfl rfl rfl rfl rfl rfl ⟨rfl, rfl, rfl, rfl, rfl⟩ rfl rfl rfl rfl rfl (by kernel_rfl) Try.func4 (by kernel_rfl)
    (of_decide_eq_true (by kernel_rfl)) (by unfold Func.isWrapper; first | (rw [if_pos (by decide +kernel)]; kernel_rfl) | (rw [if_neg (by decide +kernel)]; exact ⟨rfl, rfl⟩))
    (fun os started H enc _ => GapBounds_lifted os started H enc)

/-- The given statement. -/
theorem GapBounds_holds : Rows.GapBoundsSaid := GapBounds_over
#print axioms GapBounds_holds
end Go.Proofs.Ytgfijjhcdbmdaaa
