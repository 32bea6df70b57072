/- The contracts of the reference's bounds: Over, Wait. -/
import Derived.Test.YtbnbakienajhmaaTabK
namespace Go.Proofs.Ytbnbakienajhmaa
open Go.RowKit
set_option linter.unusedVariables false
attribute [local go_sem] IsBlk.cell IsBlk.frozen

set_option maxHeartbeats 8000000 in
set_option maxRecDepth 100000 in
theorem rover_any (T : Array Value) (t : Tab) (w : World) (hT : IsTab w T t) :
    Calls Try.prog 57 #[.agg T] w fun e w' => e = .returned (.int .i64 (overZ t)) ∧ Below w.heap.size w w' := by
  haveI : Sz131 T := ⟨hT.size⟩
  have HT : Hid (∀ w', Below w.heap.size w w' → IsTab w' T t) := Lib.hid fun w' hb => hT.below hb (Nat.le_refl _)
  obtain ⟨ra, rcap, t114, hrow, hl64⟩ := hT.rails
  have t119 := hT.rev'
  have HP : Hid (∀ p, p < 8 → IsPh T (p * 13) (t.ph p)) := Lib.hid fun p hp => hT.isPh p hp
  by_cases hz : t.ra.length = 0
  · rw [show overZ t = 0 by simp [overZ, hz]]
    rw [hz] at t114
    clear hrow hT
    go_enter Try.func57, Try.ntmps57
    go_wp2
    go_ret
    exact ⟨rfl, by (repeat' (first | (with_reducible exact Below.refl _ _) | (with_reducible assumption) | (with_reducible refine Below.setCell ?_ ?_ _) | (with_reducible refine Below.alloc ?_ ?_ _) | (with_reducible refine Below.drew ?_) | (with_reducible refine Up.base _ ?_ ?_) | (with_reducible exact LeSize.out) | exact LeSize.out | exact Nat.le_add_right_of_le LeSize.out | exact Nat.le_add_right_of_le (Nat.le_add_right_of_le LeSize.out) | (with_reducible exact Nat.le_refl _) | (simp; done) | (simp; omega)))⟩
  have hz' : ((t.ra.length : Int) == 0) = false := beq_eq_false_iff_ne.2 (by omega)
  obtain ⟨rb, roff, rfl, hbl, hc⟩ := hrow.resolve_left (by omega)
  haveI : LeSize (rb + 1) w := ⟨hbl⟩
  have HR8 : Hid (∀ k r, t.ra[k]? = some r → w.cell? ⟨rb, roff + k * 11 + 8, none⟩ = some (.int .i64 r.stay)) := Lib.hid fun k r h => by
    have := hc k (List.getElem?_eq_some_iff.1 h).1 8 (by omega)
    simpa [cellK, h, rlC] using this
  obtain ⟨R, hR⟩ : ∃ R, overZ t = R := ⟨_, rfl⟩
  have HR := Lib.hid (show sumZ [mostZ (ovL t t.ra), mostZ (mnL t (listM (onM t))), clearZ t, t.rev, 30] = R by rw [← hR]; simp [overZ, hz])
  rw [hR]
  have hlen : (listM (onM t)).length ≤ 8 := setL_length (onM t) 8
  have HM : Hid (∀ (i : Nat) (x : Int), (listM (onM t))[i]? = some x → ∃ p : Nat, x = p ∧ p < 8) := Lib.hid fun i x h => mem_list_bd h
  clear hR hrow hc hz hT
  go_enter Try.func57, Try.ntmps57
  go_wp2
  go_loopw [3, 5] (fun l i wr => ∃ k : Nat, k ≤ t.ra.length ∧ i = .int .i64 k ∧ OwnInts wr (w.heap.size + 1) l (ovL t (t.ra.take k)) ∧ Below (w.heap.size + 1) (w.alloc (.cells T 32)) wr) (fun _ i _ => t.ra.length - (intOf i).toNat)
  case atStart => exact ⟨0, Nat.zero_le _, rfl, OwnInts.nil _ _, Below.refl _ _⟩
  case round =>
    obtain ⟨k, hk, rfl, hown, hb⟩ := hrel
    obtain ⟨ur, rfl⟩ : ∃ ur : Up (w.alloc (.cells T 32)), wr = ur.w := ⟨⟨wr, hb.mono (by simp)⟩, rfl⟩
    have hpl := ovL_len t (t.ra.take k)
    have hfl : (ovL t (t.ra.take k)).length ≤ 1000000 := by simp at hpl; omega
    by_cases hlt : k < t.ra.length
    · obtain ⟨r, hr⟩ : ∃ r, t.ra[k]? = some r := ⟨_, List.getElem?_eq_getElem hlt⟩
      have hct := ovL_take t t.ra k r hr
      have hc8 := HR8.out k r hr
      obtain ⟨er, her⟩ : ∃ er, entryR t r = er := ⟨_, rfl⟩
      have HE : Hid (∀ w', Below w.heap.size w w' → Calls Try.prog 73 #[.agg T, .int .i64 k] w' fun e w'' => e = .returned (.int .i64 er) ∧ Below w'.heap.size w' w'') := Lib.hid fun w' h => by rw [← her]; exact rentry_any T t k r w' (HT.out _ h) hr
      rw [her] at hct
      generalize r.stay = sy at *
      have HCT := Lib.hid hct
      have hltI : (k : Int) < t.ra.length := by omega
      clear hct her hr
      obtain ⟨la, ll, lc, rfl⟩ := hown.slice
      go_wp2
      (refine wp_region_noPanic ?_; refine wp_region_envF [] [0, 1, 2, 3, 4, 5, 6, 7, 8, 9, 10, 11, 12] [13, 14] [10, 12] [(11, 10)] noRc (by kernel_rfl) (by kernel_rfl) (fun _ _ _ _ _ h => (h : False).elim) noRc_stable ?_; simp only [pickO, List.filterMap_cons, List.filterMap_nil, List.getElem?_cons_succ, List.getElem?_cons_zero]; refine wpAddr_nil ?_)
      (repeat (first | (refine wpEH_skip rfl rfl ?_; simp only [Act.put, List.setIfInBounds_toArray, List.set_cons_succ, List.set_cons_zero]) | (refine wpEH_want rfl rfl ?_; intro Z hZs hZi hZn K hK; (first | (refine z_ltab rfl rfl ?_; simp only [Act.put, List.setIfInBounds_toArray, List.set_cons_succ, List.set_cons_zero]; go_big_quiet_on) | (go_big_quiet_op; (first | go_big_quiet_on | go_big_quiet_call ((first | (go_at_call 73; exact UpZ.calls hZs (HE.out _ (by (repeat' (first | (with_reducible exact Below.refl _ _) | (with_reducible assumption) | (with_reducible refine Below.setCell ?_ ?_ _) | (with_reducible refine Below.alloc ?_ ?_ _) | (with_reducible refine Below.drew ?_) | (with_reducible refine Up.base _ ?_ ?_) | (with_reducible exact LeSize.out) | exact LeSize.out | exact Nat.le_add_right_of_le LeSize.out | exact Nat.le_add_right_of_le (Nat.le_add_right_of_le LeSize.out) | (with_reducible exact Nat.le_refl _) | (simp; done) | (simp; omega)))))) | fail))))); clear hZs hZi hZn Z)))
      (refine wpEH_build 2 (.cells #[.int .i64 er, .int .i64 sy] 3) rfl rfl (fun w => (by simp [go_sem] <;> rfl)) ?_; intro q10 p10 hq10 hp10; simp only [Act.put, List.setIfInBounds_toArray, List.set_cons_succ, List.set_cons_zero])
      (repeat (first | (refine wpEH_skip rfl rfl ?_; simp only [Act.put, List.setIfInBounds_toArray, List.set_cons_succ, List.set_cons_zero]) | (refine wpEH_want rfl rfl ?_; intro Z hZs hZi hZn K hK; (first | (go_big_quiet_op; (first | go_big_quiet_on | go_big_quiet_call ((first | (go_at_call 53; exact UpZ.pure (vsum_any _ _ [er, sy] _ (by simp) (ints_built [er, sy] (hp10 _ (env_at (h := 10) (hZi _ (UpZ.z _)) rfl rfl))))) | fail))))); clear hZs hZi hZn Z)))
      (refine wpEH_build 1 (.cells #[.int .i64 (sumZ [er, sy])] 3) rfl rfl (fun w => (by simp [go_sem] <;> rfl)) ?_; intro q12 p12 hq12 hp12; simp only [Act.put, List.setIfInBounds_toArray, List.set_cons_succ, List.set_cons_zero])
      (refine wpEH_nil ?_; intro u hinv; have hO12 := (hp12 _ (hinv 12 _ rfl)).out; have lO12 := laid_le hO12; clear hinv; clear hp12 p12; go_simp)
      have o3 := hown.up u
      have hbu : Below (w.heap.size + 1) (w.alloc (.cells T 32)) u.w := hb.trans (u.bel.mono (by have := hb.size; simpa using this))
      have hbs : w.heap.size + 1 ≤ u.w.heap.size := by have := hbu.size; simpa using this
      refine wpList_app_int rfl _ _ rfl (w.heap.size + 1) rfl o3 (b := q12) (y := sumZ [er, sy]) rfl (laid_cell hO12 0 rfl) hfl hbs ?_
      intro v' w1 hown' hg
      have hb1 := o3.grown0 hbu hbs (Nat.le_refl _) hg
      clear o3 hg hown
      go_wp2
      refine NoPanic.normal ?_
      go_wp2
      go_roundw
      case rel => exact ⟨k + 1, by omega, by go_num, by rw [HCT.out]; exact hown', hb1⟩
      case measure => simp [intOf]; omega
    · obtain rfl : k = t.ra.length := by omega
      rw [List.take_length] at hown
      have hovl := ovL_len t t.ra
      generalize ovL t t.ra = ov at *
      have HOVL := Lib.hid hovl
      clear hovl hpl
      obtain ⟨oa, ocap, rfl, hoi⟩ := hown.opened
      clear hown
      go_wp2_with (first | (refine l_ltab rfl rfl rfl ?_; go_simp) | (go_at_call 21; refine (Up.run (ron_any _ _ _ (HT.out _ (by (repeat' (first | (with_reducible exact Below.refl _ _) | (with_reducible assumption) | (with_reducible refine Below.setCell ?_ ?_ _) | (with_reducible refine Below.alloc ?_ ?_ _) | (with_reducible refine Below.drew ?_) | (with_reducible refine Up.base _ ?_ ?_) | (with_reducible exact LeSize.out) | exact LeSize.out | exact Nat.le_add_right_of_le LeSize.out | exact Nat.le_add_right_of_le (Nat.le_add_right_of_le LeSize.out) | (with_reducible exact Nat.le_refl _) | (simp; done) | (simp; omega))))))).mono ?_; rintro e w' ⟨rfl, uo, rfl⟩) | (go_at_call 13; refine (rlist_up _ _).mono ?_; rintro e w' ⟨la, lcap, ul, rfl, rfl, hli⟩))
      generalize listM (onM t) = xs at *
      have HL := Lib.hid hli
      clear hli
      go_loopw [4, 37] (fun l i wr => ∃ k : Nat, k ≤ xs.length ∧ i = .int .i64 k ∧ OwnInts wr ul.w.heap.size l (mnL t (xs.take k)) ∧ Below ul.w.heap.size ul.w wr) (fun _ i _ => xs.length - (intOf i).toNat)
      case atStart => exact ⟨0, Nat.zero_le _, rfl, OwnInts.nil _ _, Below.refl _ _⟩
      case round =>
        obtain ⟨k, hk, rfl, hown, hb2⟩ := hrel
        obtain ⟨u2, rfl⟩ : ∃ u2 : Up ul.w, wr = u2.w := ⟨⟨wr, hb2⟩, rfl⟩
        have hpl := mnL_len t (xs.take k)
        have hfl2 : (mnL t (xs.take k)).length ≤ 1000000 := by simp at hpl; omega
        by_cases hlt : k < xs.length
        · have hx : xs[k]? = some xs[k] := List.getElem?_eq_getElem hlt
          obtain ⟨p, hp, hp8⟩ := HM.out k _ hx
          rw [hp] at hx
          obtain ⟨b, off, rfl, hbl2, hc⟩ := (Row1.up u2 HL.out).cell (by omega)
          have hck := hc k hlt
          rw [show xs.getD k 0 = (p : Int) by rw [List.getD_eq_getElem?_getD, hx]; rfl] at hck
          have hct := mnL_take t xs k p hx
          have hph := HP.out p hp8
          generalize t.ph p = x at *
          have p1 := hph.out 1 (by omega)
          have p8 := hph.out 8 (by omega)
          have p9 := hph.out 9 (by omega)
          simp only [phC, List.getD_cons_succ, List.getD_cons_zero] at p1 p8 p9
          have HCT := Lib.hid hct
          have hpI : (p : Int) < 8 := by omega
          clear hc hx hct hp hph
          obtain ⟨la2, ll2, lc2, rfl⟩ := hown.slice
          go_wp2
          (refine wp_region_noPanic ?_; refine wp_region_envF [] [0, 1, 2, 3, 4, 5, 6, 7, 8, 9, 10, 11, 12, 13, 14, 15, 16, 17, 18, 19] [20, 21] [17, 19] [(18, 17)] noRc (by kernel_rfl) (by kernel_rfl) (fun _ _ _ _ _ h => (h : False).elim) noRc_stable ?_; simp only [pickO, List.filterMap_cons, List.filterMap_nil, List.getElem?_cons_succ, List.getElem?_cons_zero]; refine wpAddr_nil ?_)
          (repeat (first | (refine wpEH_skip rfl rfl ?_; simp only [Act.put, List.setIfInBounds_toArray, List.set_cons_succ, List.set_cons_zero]) | (refine wpEH_want rfl rfl ?_; intro Z hZs hZi hZn K hK; (first | (go_big_quiet_op; (first | go_big_quiet_on | go_big_quiet_call ((first | (go_at_call 72; exact UpZ.pure (zcap_any _ _)) | fail))))); clear hZs hZi hZn Z)))
          (refine wpEH_build 2 (.cells #[.int .i64 x.walk, .int .i64 x.blinks] 3) rfl rfl (fun w => (by simp [go_sem] <;> rfl)) ?_; intro q17 p17 hq17 hp17; simp only [Act.put, List.setIfInBounds_toArray, List.set_cons_succ, List.set_cons_zero])
          (repeat (first | (refine wpEH_skip rfl rfl ?_; simp only [Act.put, List.setIfInBounds_toArray, List.set_cons_succ, List.set_cons_zero]) | (refine wpEH_want rfl rfl ?_; intro Z hZs hZi hZn K hK; (first | (go_big_quiet_op; (first | go_big_quiet_on | go_big_quiet_call ((first | (go_at_call 53; exact UpZ.pure (vsum_any _ _ [x.walk, x.blinks] _ (by simp) (ints_built [x.walk, x.blinks] (hp17 _ (env_at (h := 17) (hZi _ (UpZ.z _)) rfl rfl))))) | fail))))); clear hZs hZi hZn Z)))
          (refine wpEH_build 2 (.cells #[.int .i64 (capZ x.min), .int .i64 (sumZ [x.walk, x.blinks])] 3) rfl rfl (fun w => (by simp [go_sem] <;> rfl)) ?_; intro q19 p19 hq19 hp19; simp only [Act.put, List.setIfInBounds_toArray, List.set_cons_succ, List.set_cons_zero])
          (refine wpEH_nil ?_; intro u hinv; have hO19 := (hp19 _ (hinv 19 _ rfl)).out; have lO19 := laid_le hO19; clear hinv; clear hp19 p19; go_simp)
          have o3 := hown.up u
          have hbu : Below ul.w.heap.size ul.w u.w := hb2.trans (u.bel.mono hb2.size)
          refine wpList_app_two rfl _ _ rfl ul.w.heap.size rfl o3 (b := q19) (y := capZ x.min) (z := sumZ [x.walk, x.blinks]) rfl (laid_cell hO19 0 rfl) (laid_cell hO19 1 rfl) hfl2 hbu.size ?_
          intro v' w1 hown' hg
          have hb1 := o3.grown0 hbu hbu.size (Nat.le_refl _) hg
          clear o3 hg hown
          go_wp2
          refine NoPanic.normal ?_
          go_wp2
          go_roundw
          case rel => exact ⟨k + 1, by omega, by go_num, by rw [HCT.out]; exact hown', hb1⟩
          case measure => simp [intOf]; omega
        · obtain rfl : k = xs.length := by omega
          rw [List.take_length] at hown
          have hml := mnL_len t xs
          generalize mnL t xs = mn at *
          have HML := Lib.hid hml
          clear hml hpl
          obtain ⟨ma, mcap, rfl, hmi⟩ := hown.opened
          clear hown
          obtain ⟨cl, hcl⟩ : ∃ cl, clearZ t = cl := ⟨_, rfl⟩
          have HC : Hid (∀ w', Below w.heap.size w w' → Calls Try.prog 75 #[.agg T] w' fun e w'' => e = .returned (.int .i64 cl) ∧ Below w'.heap.size w' w'') := Lib.hid fun w' h => by rw [← hcl]; exact rclear_any T t w' (HT.out _ h)
          rw [hcl] at HR
          generalize t.rev = rv at *
          have hi1 : Ints u2.w oa ov := Row1.up u2 (Row1.up ul (Row1.up uo hoi))
          have HM1 : Hid (∀ w', Below u2.w.heap.size u2.w w' → Calls Try.prog 74 #[.slice oa ov.length ocap] w' fun e w'' => e = .returned (.int .i64 (mostZ ov)) ∧ w' = w'') := Lib.hid fun w' h => vmost_any _ _ _ _ (by have := HOVL.out; omega) (Row1.below hi1 h (Nat.le_refl _))
          have HM2 : Hid (∀ w', Below u2.w.heap.size u2.w w' → Calls Try.prog 74 #[.slice ma mn.length mcap] w' fun e w'' => e = .returned (.int .i64 (mostZ mn)) ∧ w' = w'') := Lib.hid fun w' h => vmost_any _ _ _ _ (by have := HML.out; omega) (Row1.below hmi h (Nat.le_refl _))
          generalize mostZ ov = m1 at *
          generalize mostZ mn = m2 at *
          generalize ov.length = ol at *
          generalize mn.length = ml at *
          clear hi1 hmi hoi hb hb2
          go_wp2
          (refine wp_region_noPanic ?_; refine wp_region_envF [] [0, 1, 2, 3, 4, 5, 6, 7, 8, 9] [10] [8] [(9, 8)] noRc (by kernel_rfl) (by kernel_rfl) (fun _ _ _ _ _ h => (h : False).elim) noRc_stable ?_; simp only [pickO, List.filterMap_cons, List.filterMap_nil, List.getElem?_cons_succ, List.getElem?_cons_zero]; refine wpAddr_nil ?_)
          (repeat (first | (refine wpEH_skip rfl rfl ?_; simp only [Act.put, List.setIfInBounds_toArray, List.set_cons_succ, List.set_cons_zero]) | (refine wpEH_want rfl rfl ?_; intro Z hZs hZi hZn K hK; (first | (refine z_ltab rfl rfl ?_; simp only [Act.put, List.setIfInBounds_toArray, List.set_cons_succ, List.set_cons_zero]; go_big_quiet_on) | (go_big_quiet_op; (first | go_big_quiet_on | go_big_quiet_call ((first | (go_at_call 74; first | with_reducible exact UpZ.pure (HM1.out _ (UpZ.up _).bel) | with_reducible exact UpZ.pure (HM2.out _ (UpZ.up _).bel)) | (go_at_call 75; exact UpZ.calls hZs (HC.out _ (by (repeat' (first | (with_reducible exact Below.refl _ _) | (with_reducible assumption) | (with_reducible refine Below.setCell ?_ ?_ _) | (with_reducible refine Below.alloc ?_ ?_ _) | (with_reducible refine Below.drew ?_) | (with_reducible refine Up.base _ ?_ ?_) | (with_reducible exact LeSize.out) | exact LeSize.out | exact Nat.le_add_right_of_le LeSize.out | exact Nat.le_add_right_of_le (Nat.le_add_right_of_le LeSize.out) | (with_reducible exact Nat.le_refl _) | (simp; done) | (simp; omega)))))) | fail))))); clear hZs hZi hZn Z)))
          (refine wpEH_build 5 (.cells #[.int .i64 m1, .int .i64 m2, .int .i64 cl, .int .i64 rv, .int .i64 30] 3) rfl rfl (fun w => (by simp [go_sem] <;> rfl)) ?_; intro q8 p8 hq8 hp8; simp only [Act.put, List.setIfInBounds_toArray, List.set_cons_succ, List.set_cons_zero])
          (repeat (first | (refine wpEH_skip rfl rfl ?_; simp only [Act.put, List.setIfInBounds_toArray, List.set_cons_succ, List.set_cons_zero]) | (refine wpEH_want rfl rfl ?_; intro Z hZs hZi hZn K hK; (first | (go_big_quiet_op; (first | go_big_quiet_on | go_big_quiet_call ((first | (go_at_call 53; exact UpZ.pure (vsum_any _ _ [m1, m2, cl, rv, 30] _ (by simp) (ints_built [m1, m2, cl, rv, 30] (hp8 _ (env_at (h := 8) (hZi _ (UpZ.z _)) rfl rfl))))) | fail))))); clear hZs hZi hZn Z)))
          (refine wpEH_nil ?_; intro u hinv; clear hinv; go_simp)
          go_wp2
          refine NoPanic.normal ?_
          go_wp2
          go_ret
          exact ⟨ret_int HR.out, by (repeat' (first | (with_reducible exact Below.refl _ _) | (with_reducible assumption) | (with_reducible refine Below.setCell ?_ ?_ _) | (with_reducible refine Below.alloc ?_ ?_ _) | (with_reducible refine Below.drew ?_) | (with_reducible refine Up.base _ ?_ ?_) | (with_reducible exact LeSize.out) | exact LeSize.out | exact Nat.le_add_right_of_le LeSize.out | exact Nat.le_add_right_of_le (Nat.le_add_right_of_le LeSize.out) | (with_reducible exact Nat.le_refl _) | (simp; done) | (simp; omega)))⟩
end Go.Proofs.Ytbnbakienajhmaa
