/- Part Qu of the proof: TopB. -/
import Derived.Test.YtodgfjgljcinlaaGreatQt
namespace Go.Proofs.YtodgfjgljcinlaaGreat
set_option maxHeartbeats 8000000
set_option maxRecDepth 100000
set_option linter.unusedVariables false
section
open Go.RowKit
attribute [local go_sem] IsBlk.cell IsBlk.frozen
theorem iu (w : World) : ag w aj ee := by
 refine ⟨.slice none 0 0, .slice none 0 0, .slice none 0 0, .slice none 0 0, jD, ⟨none, 0, fun _ _ => (none, 0), rfl, .inl rfl, fun i hi => absurd hi (by simp [ee])⟩, ⟨none, 0, rfl, .inl rfl⟩, ⟨none, 0, rfl, .inl rfl⟩, ⟨none, 0, rfl, .inl rfl⟩, by simp [ee], fun i j => by simp [ak, ee], by simp [ee], by simp [ee], by simp [ee]⟩
theorem oq {t : Tab} (h : (dR t).1 = 0) : aL t = (0, 0) := by
 by_cases hc : (aL t).1 = 0
 ·exact dF hc
 ·exact absurd (by rw [← fY hc]; exact h) hc
theorem rA (t : Tab) (j : Nat) (hj : j < 8) : 0 ≤ df t j ∧ df t j < 2147483647 := by
 by_cases h : (dR t).1 = 0
 ·have hc := oq h
  have hbi : df t j = if aT (eB t) j then cm t j else 0 := by
   unfold df pl
   rw [if_pos h, if_pos hj]
  rw [hbi]
  cases hon : aT (eB t) j
  ·simp
  ·simp only [if_true]
   refine ⟨(tR t j).1, ?_⟩
   have hfull : bq (cm t j) = false := by
    cases hf : bq (cm t j)
    ·rfl
    ·exfalso
     have hne : ((ci (eB t)).find? fun p => bq (cm t p)) ≠ none := fun e => by
      rw [List.find?_eq_none] at e
      exact e j (ql.2 hon) hf
     unfold dR at h
     rw [hc] at h
     simp only [ne_eq, not_true_eq_false, if_false] at h
     split at h
     ·simp at h
     ·rename_i e; exact hne e
   unfold bq at hfull
   simp at hfull; omega
 ·rw [fu h]; show (0 : Int) ≤ 0 ∧ (0 : Int) < 2147483647; omega
theorem eR (c a : Int) (w : World) : Sem.run Tryz.prog (Instr.field 37 (.agg #[.int .i64 c, .int .i64 a]) 0) w = .ok (.int .i64 c) w := by kernel_rfl
theorem ks (a : Option Addr) (cap : Nat) (zs : List Int) (own : Bool) (w : World) (hl : zs.length ≤ cap ∧ cap ≤ 9223372036854775807) (hh : wN w a cap) (hi : bj w a zs) (hz : ∀ i, i < zs.length → db .u8 (zs.getD i 0)) :
  Calls Tryz.prog 3 #[.slice a zs.length cap, .bool own] w fun e w' => e = .returned (.bool true) ∧ Below w.heap.size w w' := by
 have hby : aH zs := fun x hx => by
  obtain ⟨i, hi, rfl⟩ := List.getElem_of_mem hx
  have := hz i hi
  rw [List.getD_eq_getElem?_getD, List.getElem?_eq_getElem hi] at this
  simp only [Option.getD_some] at this
  generalize zs[i] = x at *
  unfold db at this; simp only at this; omega
 by_cases h12 : (1200 : Int) < zs.length
 ·go_enter Tryz.func3, Tryz.ntmps3
  go_wp2_with (go_at_call 13; refine (Up.run (cH _)).mono ?_; rintro e w' ⟨rfl, uaw, rfl⟩)
  go_ret
  exact ⟨rfl, by exact yd⟩
 have hR : ug w (.slice a zs.length cap) zs := ⟨a, cap, rfl, hi, (fun ha => by
  rcases hh with ⟨_, h0⟩ | ⟨b, off, e, _⟩
  ·exact ⟨by omega, h0⟩
  ·rw [ha] at e; cases e), hl.1, hl.2⟩
 have HSE := Lib.hid (wD w (by omega) hR hby)
 have HI := Lib.hid hi
 have HBY := Lib.hid hby
 clear hi hz hh hR hby
 cases own
 all_goals
  go_enter Tryz.func3, Tryz.ntmps3
  go_upto_region 5 with (go_at_call 14; refine HSE.out.mono ?_; rintro e w1 ⟨v1, rfl, hR1, hb1⟩)
 ·have hpre : Below w.heap.size w w ∧ bj w a zs := ⟨Below.refl _ _, HI.out⟩
  have hcp := hl
  have hyb := HBY.out
  have hyl : zs.length ≤ 1200 := by omega
  clear HSE HI HBY
  refine eQ (fun W' => Below w.heap.size w W' ∧ bj W' a zs) ⟨hpre.1, hpre.2⟩ ?_
  clear hpre
  rintro W ⟨hw, hB⟩
  haveI : LeSize w.heap.size W := ⟨hw.size⟩
  have HD := Lib.hid (fU a cap zs W (by omega) hcp.2 hcp.1 hB hyb)
  cases hdec : d8 zs with
  | none =>
   rw [hdec] at HD
   have hzo := iu
   have hzs : Hid (aj.size = 131) := Lib.hid rfl
   have hbt := gx
   go_wp2_with fail
   go_at_call 15
   refine HD.out.mono ?_
   obtain ⟨Z, hZ⟩ : ∃ Z, aj = Z := ⟨_, rfl⟩
   rintro e w5 ⟨c, f, he, hc, hf0, hfl, hb5⟩
   rw [hZ] at he
   subst he
   clear HD
   have hzZ : ∀ w, ag w Z ee := fun w => by rw [← hZ]; exact iu w
   have HZS : Hid (Z.size = 131) := Lib.hid (by rw [← hZ]; rfl)
   have hone : Z.all (·.oneCell') = true := by rw [← hZ]; exact jm
   haveI : Sz131 Z := ⟨HZS.out⟩
   clear hZ
   have hcb : (c != 0) = true := by simpa using hc
   have hw5 : Below w.heap.size w w5 := hw.trans (hb5.mono hw.size)
   haveI : LeSize w.heap.size w5 := ⟨hw5.size⟩
   haveI : Apart w5.heap.size (w5.heap.size + 1) := ⟨by omega⟩
   haveI : Apart (w5.heap.size + 1) w5.heap.size := ⟨by omega⟩
   clear hc hb5
   go_upto_region 6 with (first | (refine ac (o := 0) (cs := Z) (C := aj) 34 rfl rfl rfl rfl (by rw [HZS.out]; decide) (by rw [HZS.out]; exact du) hone ?_; go_simp))
   refine eQ (fun W' => Below w5.heap.size w5 W' ∧ IsBlk W' w5.heap.size Z 34 ∧ IsBlk W' (w5.heap.size + 1) #[.int .i64 c, .int .i64 f] 37) ⟨by (repeat' (first | (with_reducible exact Below.refl _ _) | (with_reducible assumption) | (with_reducible refine al _ _ ?_ ?_) | (with_reducible refine Below.setCell ?_ ?_ _) | (with_reducible refine Below.alloc ?_ ?_ _) | (with_reducible refine Below.drew ?_) | (with_reducible refine Up.base _ ?_ ?_) | (with_reducible exact LeSize.out) | exact LeSize.out | exact Nat.le_add_right_of_le LeSize.out | (with_reducible exact Nat.le_refl _) | (simp; done) | (simp; omega))), IsBlk.cast inferInstance (yp (by rw [HZS.out]; rfl)), IsBlk.cast inferInstance rfl⟩ ?_
   rintro W6 ⟨h56, iT6, iF6⟩
   have hw6 : Below w.heap.size w W6 := hw5.trans (h56.mono hw5.size)
   haveI : LeSize w.heap.size W6 := ⟨hw6.size⟩
   haveI : LeSize (w5.heap.size + 1) W6 := ⟨(Array.getElem?_eq_some_iff.1 iT6.out).1⟩
   haveI : LeSize (w5.heap.size + 1 + 1) W6 := ⟨(Array.getElem?_eq_some_iff.1 iF6.out).1⟩
   have hS := jR Z aj ee W6 (hzZ _) (iu _)
   clear h56 hw5
   go_wp2_with (first | (refine aJ rfl rfl rfl ?_; go_simp) | (refine jn rfl rfl rfl ?_; go_simp) | (go_at_call 16; refine (Up.run hS).mono ?_; rintro e w' ⟨rfl, u6, rfl⟩) | (go_at_call 13; refine (Up.run (cH _)).mono ?_; rintro e w' ⟨rfl, uaw, rfl⟩))
   go_ret
   exact ⟨rfl, by exact yd⟩
  | some t =>
   rw [hdec] at HD
   obtain ⟨hE, hm, _⟩ := ab1 hyb hdec
   have HE := Lib.hid hE
   have HM := Lib.hid hm
   clear hE hm
   have HBD : Hid (∀ j : Nat, j < 8 → 0 ≤ df t j ∧ df t j < 2147483647) := Lib.hid (rA t)
   go_wp2_with fail
   go_at_call 15
   refine HD.out.mono ?_
   rintro e w5 ⟨T, rfl, hT, hb5⟩
   clear HD
   have hw5 : Below w.heap.size w w5 := hw.trans (hb5.mono hw.size)
   have hB5 : bj w5 a zs := bk.below hB hb5 (Nat.le_refl _)
   haveI : LeSize w.heap.size w5 := ⟨hw5.size⟩
   haveI : Apart w5.heap.size (w5.heap.size + 1) := ⟨by omega⟩
   haveI : Apart (w5.heap.size + 1) w5.heap.size := ⟨by omega⟩
   haveI : Sz131 T := ⟨hT.size⟩
   have hone := hT.one
   have HS5 := Lib.hid hT.size
   clear hb5 hB hdec
   go_upto_region 6 with (first | (refine ac (o := 0) (cs := T) (C := aj) 34 rfl rfl rfl rfl (by rw [HS5.out]; decide) (by rw [HS5.out]; exact du) hone ?_; go_simp))
   refine eQ (fun W' => Below w5.heap.size w5 W' ∧ IsBlk W' w5.heap.size T 34 ∧ IsBlk W' (w5.heap.size + 1) #[.int .i64 0, .int .i64 0] 37) ⟨by (repeat' (first | (with_reducible exact Below.refl _ _) | (with_reducible assumption) | (with_reducible refine al _ _ ?_ ?_) | (with_reducible refine Below.setCell ?_ ?_ _) | (with_reducible refine Below.alloc ?_ ?_ _) | (with_reducible refine Below.drew ?_) | (with_reducible refine Up.base _ ?_ ?_) | (with_reducible exact LeSize.out) | exact LeSize.out | exact Nat.le_add_right_of_le LeSize.out | (with_reducible exact Nat.le_refl _) | (simp; done) | (simp; omega))), IsBlk.cast inferInstance (yp (by rw [HS5.out]; rfl)), IsBlk.cast inferInstance rfl⟩ ?_
   rintro W6 ⟨h56, iT6, iF6⟩
   have hw6 : Below w.heap.size w W6 := hw5.trans (h56.mono hw5.size)
   have hT6 : ag W6 T t := hT.below h56 (Nat.le_refl _)
   have hB6 : bj W6 a zs := bk.below hB5 h56 (Nat.le_refl _)
   haveI : LeSize w.heap.size W6 := ⟨hw6.size⟩
   clear h56 hw5 hT hB5 hone
   have HENC := Lib.hid (aaz T t W6 hT6 HM.out)
   rw [← HE.out] at HENC
   go_wp2_with (first | (refine aJ rfl rfl rfl ?_; go_simp))
   go_at_call 17
   refine HENC.out.mono ?_
   clear HENC
   rintro e w7 ⟨v, rfl, hO, hb7⟩
   obtain ⟨a7, cap7, rfl, hB7⟩ := hO.opened
   clear hO
   have hw7 : Below w.heap.size w w7 := hw6.trans (hb7.mono hw6.size)
   have hT7 : ag w7 T t := hT6.below hb7 (Nat.le_refl _)
   have hC7 : bj w7 a zs := bk.below hB6 hb7 (Nat.le_refl _)
   haveI iT7 : IsBlk w7 w5.heap.size T 34 := ⟨by rw [hb7.block _ (Array.getElem?_eq_some_iff.1 iT6.out).1]; exact iT6.out⟩
   haveI : LeSize w.heap.size w7 := ⟨hw7.size⟩
   clear hb7 iT6 iF6 hw6 hT6 hB6
   go_wp2_with (first | (refine aJ rfl rfl rfl ?_; go_simp))
   go_at_call 18
   refine (jt T t w7 hT7).mono ?_
   unfold rj
   have HBG : Hid (∀ j : Nat, j < 8 → (cx (df t))[j]? = some (.int .i64 (df t j))) := Lib.hid fun j hj => cY _ j (by omega)
   have hBs : (cx (df t)).size = 12 := aE _ _
   have hB1 : (cx (df t)).all (·.oneCell') = true := lN _
   generalize cx (df t) = BD at *
   have HBS := Lib.hid hBs
   clear hBs
   rintro e w9 ⟨rfl, hb9⟩
   have hw9 : Below w.heap.size w w9 := hw7.trans (hb9.mono hw7.size)
   have hT9 : ag w9 T t := hT7.below hb9 (Nat.le_refl _)
   have hC9 : bj w9 a zs := bk.below hC7 hb9 (Nat.le_refl _)
   have hD9 : bj w9 a7 zs := bk.below hB7 hb9 (Nat.le_refl _)
   haveI iT9 : IsBlk w9 w5.heap.size T 34 := ⟨by rw [hb9.block _ (Array.getElem?_eq_some_iff.1 iT7.out).1]; exact iT7.out⟩
   haveI : LeSize w.heap.size w9 := ⟨hw9.size⟩
   have hl5 := (Array.getElem?_eq_some_iff.1 iT9.out).1
   haveI : Apart w9.heap.size (w9.heap.size + 1) := ⟨by omega⟩
   haveI : Apart (w9.heap.size + 1) w9.heap.size := ⟨by omega⟩
   haveI : Apart w5.heap.size w9.heap.size := ⟨by omega⟩
   haveI : Apart w5.heap.size (w9.heap.size + 1) := ⟨by omega⟩
   have hF : Hid ((aL t = (0, 0)) ∨ ((aL t).1 ≠ 0 ∧ dR t = aL t)) := Lib.hid (by
    by_cases h : (aL t).1 = 0
    ·exact .inl (dF h)
    ·exact .inr ⟨h, fY h⟩)
   have HK0 : ∀ W', Below w9.heap.size w9 W' → Calls Tryz.prog 20 #[.agg T] W' fun e w' => e = .returned (fh (aL t)) ∧ Below W'.heap.size W' w' := fun W' h => eL T t W' (hT9.below h (Nat.le_refl _))
   have HSB : Hid (∀ W', Below w9.heap.size w9 W' → Calls Tryz.prog 19 #[.slice a zs.length cap, .slice a7 zs.length cap7] W' fun e w' => e = .returned (.bool true) ∧ Below W'.heap.size W' w') := Lib.hid fun W' h => go a a7 cap cap7 zs W' (by omega) (bk.below hC9 h (Nat.le_refl _)) (bk.below hD9 h (Nat.le_refl _))
   unfold fh at HK0
   generalize aL t = FC at *
   generalize dR t = FA at *
   clear hb9 iT7 hw7 hT7 hC7 hB7 hT9 hC9 hD9
   obtain ⟨fc, fa⟩ := FC
   obtain ⟨gc, ga⟩ := FA
   simp only at HK0
   have HK := Lib.hid HK0
   clear HK0
   go_upto_region 10 with (first | (refine ac (o := 0) (cs := BD) (C := #[.int .i64 0, .int .i64 0, .int .i64 0, .int .i64 0, .int .i64 0, .int .i64 0, .int .i64 0, .int .i64 0, .int .i64 0, .int .i64 0, .int .i64 0, .int .i64 0]) 45 rfl rfl rfl rfl (by rw [HBS.out]; decide) (by rw [HBS.out]; kernel_rfl) hB1 ?_; go_simp))
   refine eQ (fun W' => Below w9.heap.size w9 W' ∧ IsBlk W' w5.heap.size T 34 ∧ IsBlk W' w9.heap.size BD 45 ∧ IsBlk W' (w9.heap.size + 1) #[.int .i64 gc, .int .i64 ga] 37) ⟨by (repeat' (first | (with_reducible exact Below.refl _ _) | (with_reducible assumption) | (with_reducible refine al _ _ ?_ ?_) | (with_reducible refine Below.setCell ?_ ?_ _) | (with_reducible refine Below.alloc ?_ ?_ _) | (with_reducible refine Below.drew ?_) | (with_reducible refine Up.base _ ?_ ?_) | (with_reducible exact LeSize.out) | exact LeSize.out | exact Nat.le_add_right_of_le LeSize.out | (with_reducible exact Nat.le_refl _) | (simp; done) | (simp; omega))), inferInstance, IsBlk.cast inferInstance (yp (by rw [HBS.out]; rfl)), IsBlk.cast inferInstance rfl⟩ ?_
   rintro W ⟨hWW, iT, iB, iF⟩
   have hwW : Below w.heap.size w W := hw9.trans (hWW.mono hw9.size)
   haveI : LeSize w.heap.size W := ⟨hwW.size⟩
   haveI : LeSize w9.heap.size W := ⟨hWW.size⟩
   haveI : LeSize (w5.heap.size + 1) W := ⟨(Array.getElem?_eq_some_iff.1 iT.out).1⟩
   haveI : LeSize (w9.heap.size + 1) W := ⟨(Array.getElem?_eq_some_iff.1 iB.out).1⟩
   haveI : LeSize (w9.heap.size + 1 + 1) W := ⟨(Array.getElem?_eq_some_iff.1 iF.out).1⟩
   go_wp2
   go_loopw [11] (fun i wr => ∃ j : Nat, j ≤ 8 ∧ i = .int .i64 j ∧ wr = W) (fun i _ => 8 - (intOf i).toNat)
   case atStart => exact ⟨0, by omega, rfl, rfl⟩
   case round =>
    obtain ⟨j, hj, rfl, rfl⟩ := hrel
    by_cases hlt : j < 8
    ·have hjI : (j : Int) < 8 := by omega
     have hx := HBD.out j hlt
     have hg := HBG.out j hlt
     generalize df t j = x at *
     obtain ⟨x0, x1⟩ := hx
     go_wp2
     go_roundw
     case rel => exact ⟨j + 1, by omega, by go_num, by first | trivial | rfl⟩
     case measure => simp [intOf]; omega
    ·obtain rfl : j = 8 := by omega
     clear HBG HBD
     rcases hF.out with hF1 | ⟨hF1, hG⟩
     ·have hfd := eR fc fa
      obtain ⟨rfl, rfl⟩ := Prod.mk.inj hF1
      have HCK := HK
      clear HK hF hF1
      go_wp2
      (refine ai (by kernel_rfl) (by kernel_rfl) ?_; (repeat (first | (go_big_quiet_want; refine di rfl rfl ?_; simp only [Act.put, List.setIfInBounds_toArray, List.set_cons_succ, List.set_cons_zero]; go_big_quiet_on) | go_big_quiet_step ((first | (go_at_call 19; (with_reducible refine Up.calls (HSB.out _ ?_)); all_goals try exact yd) | (go_at_call 20; (with_reducible refine Up.calls (HCK.out _ ?_)); all_goals try exact yd) | (go_at_call 13; exact Up.calls (cH _)) | fail)))); refine wpQuiet_nil ?_; rintro _ ⟨u, rfl⟩)
      go_wp2
      go_ret
      exact ⟨rfl, by exact yd⟩
     ·have hfd := eR fc fa
      obtain ⟨rfl, rfl⟩ := Prod.mk.inj hG
      have HCK := HK
      have hcb : (gc == 0) = false := by simpa using hF1
      clear HK hF hF1 hG
      go_wp2
      (refine ai (by kernel_rfl) (by kernel_rfl) ?_; (repeat (first | (go_big_quiet_want; refine di rfl rfl ?_; simp only [Act.put, List.setIfInBounds_toArray, List.set_cons_succ, List.set_cons_zero]; go_big_quiet_on) | go_big_quiet_step ((first | (go_at_call 19; (with_reducible refine Up.calls (HSB.out _ ?_)); all_goals try exact yd) | (go_at_call 20; (with_reducible refine Up.calls (HCK.out _ ?_)); all_goals try exact yd) | (go_at_call 13; exact Up.calls (cH _)) | fail)))); refine wpQuiet_nil ?_; rintro _ ⟨u, rfl⟩)
      go_wp2
      go_ret
      exact ⟨rfl, by exact yd⟩
 ·obtain ⟨a1, cap1, rfl, hB1, _, hcp⟩ := hR1
  have hpre := (⟨hb1, hB1⟩ : Below w.heap.size w w1 ∧ bj w1 a1 (ep zs))
  have hyb : aH (ep zs) := jX HBY.out
  have hyl : (ep zs).length ≤ 1300 := by unfold ep; rw [List.length_append, aA]; omega
  clear HSE HI HBY hb1 hB1 hl h12
  generalize ep zs = ys at *
  refine eQ (fun W' => Below w.heap.size w W' ∧ bj W' a1 ys) ⟨hpre.1, hpre.2⟩ ?_
  clear hpre
  rintro W ⟨hw, hB⟩
  haveI : LeSize w.heap.size W := ⟨hw.size⟩
  have HD := Lib.hid (fU a1 cap1 ys W (by omega) hcp.2 hcp.1 hB hyb)
  cases hdec : d8 ys with
  | none =>
   rw [hdec] at HD
   have hzo := iu
   have hzs : Hid (aj.size = 131) := Lib.hid rfl
   have hbt := gx
   go_wp2_with fail
   go_at_call 15
   refine HD.out.mono ?_
   obtain ⟨Z, hZ⟩ : ∃ Z, aj = Z := ⟨_, rfl⟩
   rintro e w5 ⟨c, f, he, hc, hf0, hfl, hb5⟩
   rw [hZ] at he
   subst he
   clear HD
   have hzZ : ∀ w, ag w Z ee := fun w => by rw [← hZ]; exact iu w
   have HZS : Hid (Z.size = 131) := Lib.hid (by rw [← hZ]; rfl)
   have hone : Z.all (·.oneCell') = true := by rw [← hZ]; exact jm
   haveI : Sz131 Z := ⟨HZS.out⟩
   clear hZ
   have hcb : (c != 0) = true := by simpa using hc
   have hw5 : Below w.heap.size w w5 := hw.trans (hb5.mono hw.size)
   haveI : LeSize w.heap.size w5 := ⟨hw5.size⟩
   haveI : Apart w5.heap.size (w5.heap.size + 1) := ⟨by omega⟩
   haveI : Apart (w5.heap.size + 1) w5.heap.size := ⟨by omega⟩
   clear hc hb5
   go_upto_region 6 with (first | (refine ac (o := 0) (cs := Z) (C := aj) 34 rfl rfl rfl rfl (by rw [HZS.out]; decide) (by rw [HZS.out]; exact du) hone ?_; go_simp))
   refine eQ (fun W' => Below w5.heap.size w5 W' ∧ IsBlk W' w5.heap.size Z 34 ∧ IsBlk W' (w5.heap.size + 1) #[.int .i64 c, .int .i64 f] 37) ⟨by (repeat' (first | (with_reducible exact Below.refl _ _) | (with_reducible assumption) | (with_reducible refine al _ _ ?_ ?_) | (with_reducible refine Below.setCell ?_ ?_ _) | (with_reducible refine Below.alloc ?_ ?_ _) | (with_reducible refine Below.drew ?_) | (with_reducible refine Up.base _ ?_ ?_) | (with_reducible exact LeSize.out) | exact LeSize.out | exact Nat.le_add_right_of_le LeSize.out | (with_reducible exact Nat.le_refl _) | (simp; done) | (simp; omega))), IsBlk.cast inferInstance (yp (by rw [HZS.out]; rfl)), IsBlk.cast inferInstance rfl⟩ ?_
   rintro W6 ⟨h56, iT6, iF6⟩
   have hw6 : Below w.heap.size w W6 := hw5.trans (h56.mono hw5.size)
   haveI : LeSize w.heap.size W6 := ⟨hw6.size⟩
   haveI : LeSize (w5.heap.size + 1) W6 := ⟨(Array.getElem?_eq_some_iff.1 iT6.out).1⟩
   haveI : LeSize (w5.heap.size + 1 + 1) W6 := ⟨(Array.getElem?_eq_some_iff.1 iF6.out).1⟩
   have hS := jR Z aj ee W6 (hzZ _) (iu _)
   clear h56 hw5
   go_wp2_with (first | (refine aJ rfl rfl rfl ?_; go_simp) | (refine jn rfl rfl rfl ?_; go_simp) | (go_at_call 16; refine (Up.run hS).mono ?_; rintro e w' ⟨rfl, u6, rfl⟩) | (go_at_call 13; refine (Up.run (cH _)).mono ?_; rintro e w' ⟨rfl, uaw, rfl⟩))
   go_ret
   exact ⟨rfl, by exact yd⟩
  | some t =>
   rw [hdec] at HD
   obtain ⟨hE, hm, _⟩ := ab1 hyb hdec
   have HE := Lib.hid hE
   have HM := Lib.hid hm
   clear hE hm
   have HBD : Hid (∀ j : Nat, j < 8 → 0 ≤ df t j ∧ df t j < 2147483647) := Lib.hid (rA t)
   go_wp2_with fail
   go_at_call 15
   refine HD.out.mono ?_
   rintro e w5 ⟨T, rfl, hT, hb5⟩
   clear HD
   have hw5 : Below w.heap.size w w5 := hw.trans (hb5.mono hw.size)
   have hB5 : bj w5 a1 ys := bk.below hB hb5 (Nat.le_refl _)
   haveI : LeSize w.heap.size w5 := ⟨hw5.size⟩
   haveI : Apart w5.heap.size (w5.heap.size + 1) := ⟨by omega⟩
   haveI : Apart (w5.heap.size + 1) w5.heap.size := ⟨by omega⟩
   haveI : Sz131 T := ⟨hT.size⟩
   have hone := hT.one
   have HS5 := Lib.hid hT.size
   clear hb5 hB hdec
   go_upto_region 6 with (first | (refine ac (o := 0) (cs := T) (C := aj) 34 rfl rfl rfl rfl (by rw [HS5.out]; decide) (by rw [HS5.out]; exact du) hone ?_; go_simp))
   refine eQ (fun W' => Below w5.heap.size w5 W' ∧ IsBlk W' w5.heap.size T 34 ∧ IsBlk W' (w5.heap.size + 1) #[.int .i64 0, .int .i64 0] 37) ⟨by (repeat' (first | (with_reducible exact Below.refl _ _) | (with_reducible assumption) | (with_reducible refine al _ _ ?_ ?_) | (with_reducible refine Below.setCell ?_ ?_ _) | (with_reducible refine Below.alloc ?_ ?_ _) | (with_reducible refine Below.drew ?_) | (with_reducible refine Up.base _ ?_ ?_) | (with_reducible exact LeSize.out) | exact LeSize.out | exact Nat.le_add_right_of_le LeSize.out | (with_reducible exact Nat.le_refl _) | (simp; done) | (simp; omega))), IsBlk.cast inferInstance (yp (by rw [HS5.out]; rfl)), IsBlk.cast inferInstance rfl⟩ ?_
   rintro W6 ⟨h56, iT6, iF6⟩
   have hw6 : Below w.heap.size w W6 := hw5.trans (h56.mono hw5.size)
   have hT6 : ag W6 T t := hT.below h56 (Nat.le_refl _)
   have hB6 : bj W6 a1 ys := bk.below hB5 h56 (Nat.le_refl _)
   haveI : LeSize w.heap.size W6 := ⟨hw6.size⟩
   clear h56 hw5 hT hB5 hone
   have HENC := Lib.hid (aaz T t W6 hT6 HM.out)
   rw [← HE.out] at HENC
   go_wp2_with (first | (refine aJ rfl rfl rfl ?_; go_simp))
   go_at_call 17
   refine HENC.out.mono ?_
   clear HENC
   rintro e w7 ⟨v, rfl, hO, hb7⟩
   obtain ⟨a7, cap7, rfl, hB7⟩ := hO.opened
   clear hO
   have hw7 : Below w.heap.size w w7 := hw6.trans (hb7.mono hw6.size)
   have hT7 : ag w7 T t := hT6.below hb7 (Nat.le_refl _)
   have hC7 : bj w7 a1 ys := bk.below hB6 hb7 (Nat.le_refl _)
   haveI iT7 : IsBlk w7 w5.heap.size T 34 := ⟨by rw [hb7.block _ (Array.getElem?_eq_some_iff.1 iT6.out).1]; exact iT6.out⟩
   haveI : LeSize w.heap.size w7 := ⟨hw7.size⟩
   clear hb7 iT6 iF6 hw6 hT6 hB6
   go_wp2_with (first | (refine aJ rfl rfl rfl ?_; go_simp))
   go_at_call 18
   refine (jt T t w7 hT7).mono ?_
   unfold rj
   have HBG : Hid (∀ j : Nat, j < 8 → (cx (df t))[j]? = some (.int .i64 (df t j))) := Lib.hid fun j hj => cY _ j (by omega)
   have hBs : (cx (df t)).size = 12 := aE _ _
   have hB1 : (cx (df t)).all (·.oneCell') = true := lN _
   generalize cx (df t) = BD at *
   have HBS := Lib.hid hBs
   clear hBs
   rintro e w9 ⟨rfl, hb9⟩
   have hw9 : Below w.heap.size w w9 := hw7.trans (hb9.mono hw7.size)
   have hT9 : ag w9 T t := hT7.below hb9 (Nat.le_refl _)
   have hC9 : bj w9 a1 ys := bk.below hC7 hb9 (Nat.le_refl _)
   have hD9 : bj w9 a7 ys := bk.below hB7 hb9 (Nat.le_refl _)
   haveI iT9 : IsBlk w9 w5.heap.size T 34 := ⟨by rw [hb9.block _ (Array.getElem?_eq_some_iff.1 iT7.out).1]; exact iT7.out⟩
   haveI : LeSize w.heap.size w9 := ⟨hw9.size⟩
   have hl5 := (Array.getElem?_eq_some_iff.1 iT9.out).1
   haveI : Apart w9.heap.size (w9.heap.size + 1) := ⟨by omega⟩
   haveI : Apart (w9.heap.size + 1) w9.heap.size := ⟨by omega⟩
   haveI : Apart w5.heap.size w9.heap.size := ⟨by omega⟩
   haveI : Apart w5.heap.size (w9.heap.size + 1) := ⟨by omega⟩
   have hF : Hid ((aL t = (0, 0)) ∨ ((aL t).1 ≠ 0 ∧ dR t = aL t)) := Lib.hid (by
    by_cases h : (aL t).1 = 0
    ·exact .inl (dF h)
    ·exact .inr ⟨h, fY h⟩)
   have HK0 : ∀ W', Below w9.heap.size w9 W' → Calls Tryz.prog 20 #[.agg T] W' fun e w' => e = .returned (fh (aL t)) ∧ Below W'.heap.size W' w' := fun W' h => eL T t W' (hT9.below h (Nat.le_refl _))
   have HSB : Hid (∀ W', Below w9.heap.size w9 W' → Calls Tryz.prog 19 #[.slice a1 ys.length cap1, .slice a7 ys.length cap7] W' fun e w' => e = .returned (.bool true) ∧ Below W'.heap.size W' w') := Lib.hid fun W' h => go a1 a7 cap1 cap7 ys W' (by omega) (bk.below hC9 h (Nat.le_refl _)) (bk.below hD9 h (Nat.le_refl _))
   unfold fh at HK0
   generalize aL t = FC at *
   generalize dR t = FA at *
   clear hb9 iT7 hw7 hT7 hC7 hB7 hT9 hC9 hD9
   obtain ⟨fc, fa⟩ := FC
   obtain ⟨gc, ga⟩ := FA
   simp only at HK0
   have HK := Lib.hid HK0
   clear HK0
   go_upto_region 10 with (first | (refine ac (o := 0) (cs := BD) (C := #[.int .i64 0, .int .i64 0, .int .i64 0, .int .i64 0, .int .i64 0, .int .i64 0, .int .i64 0, .int .i64 0, .int .i64 0, .int .i64 0, .int .i64 0, .int .i64 0]) 45 rfl rfl rfl rfl (by rw [HBS.out]; decide) (by rw [HBS.out]; kernel_rfl) hB1 ?_; go_simp))
   refine eQ (fun W' => Below w9.heap.size w9 W' ∧ IsBlk W' w5.heap.size T 34 ∧ IsBlk W' w9.heap.size BD 45 ∧ IsBlk W' (w9.heap.size + 1) #[.int .i64 gc, .int .i64 ga] 37) ⟨by (repeat' (first | (with_reducible exact Below.refl _ _) | (with_reducible assumption) | (with_reducible refine al _ _ ?_ ?_) | (with_reducible refine Below.setCell ?_ ?_ _) | (with_reducible refine Below.alloc ?_ ?_ _) | (with_reducible refine Below.drew ?_) | (with_reducible refine Up.base _ ?_ ?_) | (with_reducible exact LeSize.out) | exact LeSize.out | exact Nat.le_add_right_of_le LeSize.out | (with_reducible exact Nat.le_refl _) | (simp; done) | (simp; omega))), inferInstance, IsBlk.cast inferInstance (yp (by rw [HBS.out]; rfl)), IsBlk.cast inferInstance rfl⟩ ?_
   rintro W ⟨hWW, iT, iB, iF⟩
   have hwW : Below w.heap.size w W := hw9.trans (hWW.mono hw9.size)
   haveI : LeSize w.heap.size W := ⟨hwW.size⟩
   haveI : LeSize w9.heap.size W := ⟨hWW.size⟩
   haveI : LeSize (w5.heap.size + 1) W := ⟨(Array.getElem?_eq_some_iff.1 iT.out).1⟩
   haveI : LeSize (w9.heap.size + 1) W := ⟨(Array.getElem?_eq_some_iff.1 iB.out).1⟩
   haveI : LeSize (w9.heap.size + 1 + 1) W := ⟨(Array.getElem?_eq_some_iff.1 iF.out).1⟩
   go_wp2
   go_loopw [11] (fun i wr => ∃ j : Nat, j ≤ 8 ∧ i = .int .i64 j ∧ wr = W) (fun i _ => 8 - (intOf i).toNat)
   case atStart => exact ⟨0, by omega, rfl, rfl⟩
   case round =>
    obtain ⟨j, hj, rfl, rfl⟩ := hrel
    by_cases hlt : j < 8
    ·have hjI : (j : Int) < 8 := by omega
     have hx := HBD.out j hlt
     have hg := HBG.out j hlt
     generalize df t j = x at *
     obtain ⟨x0, x1⟩ := hx
     go_wp2
     go_roundw
     case rel => exact ⟨j + 1, by omega, by go_num, by first | trivial | rfl⟩
     case measure => simp [intOf]; omega
    ·obtain rfl : j = 8 := by omega
     clear HBG HBD
     rcases hF.out with hF1 | ⟨hF1, hG⟩
     ·have hfd := eR fc fa
      obtain ⟨rfl, rfl⟩ := Prod.mk.inj hF1
      have HCK := HK
      clear HK hF hF1
      go_wp2
      (refine ai (by kernel_rfl) (by kernel_rfl) ?_; (repeat (first | (go_big_quiet_want; refine di rfl rfl ?_; simp only [Act.put, List.setIfInBounds_toArray, List.set_cons_succ, List.set_cons_zero]; go_big_quiet_on) | go_big_quiet_step ((first | (go_at_call 19; (with_reducible refine Up.calls (HSB.out _ ?_)); all_goals try exact yd) | (go_at_call 20; (with_reducible refine Up.calls (HCK.out _ ?_)); all_goals try exact yd) | (go_at_call 13; exact Up.calls (cH _)) | fail)))); refine wpQuiet_nil ?_; rintro _ ⟨u, rfl⟩)
      go_wp2
      go_ret
      exact ⟨rfl, by exact yd⟩
     ·have hfd := eR fc fa
      obtain ⟨rfl, rfl⟩ := Prod.mk.inj hG
      have HCK := HK
      have hcb : (gc == 0) = false := by simpa using hF1
      clear HK hF hF1 hG
      go_wp2
      (refine ai (by kernel_rfl) (by kernel_rfl) ?_; (repeat (first | (go_big_quiet_want; refine di rfl rfl ?_; simp only [Act.put, List.setIfInBounds_toArray, List.set_cons_succ, List.set_cons_zero]; go_big_quiet_on) | go_big_quiet_step ((first | (go_at_call 19; (with_reducible refine Up.calls (HSB.out _ ?_)); all_goals try exact yd) | (go_at_call 20; (with_reducible refine Up.calls (HCK.out _ ?_)); all_goals try exact yd) | (go_at_call 13; exact Up.calls (cH _)) | fail)))); refine wpQuiet_nil ?_; rintro _ ⟨u, rfl⟩)
      go_wp2
      go_ret
      exact ⟨rfl, by exact yd⟩
end
end Go.Proofs.YtodgfjgljcinlaaGreat
