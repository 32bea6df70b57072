/- For a phase of a table by numbers and at most 400 cues, a green that is Done has lasted for Min and its foot is still; it stays so unless a walk begins, and becomes so only while pressed and not held. -/
import Derived.Test.YtmapdkhcfejkaaaPhN
namespace Go.Proofs.Ytmapdkhcfejkaaa
open Go.ChangeShapes Go.WideShapes Go.ChangeAt Go.RowKit
set_option linter.unusedVariables false
attribute [local go_sem] IsBlk.cell IsBlk.frozen

/-- What is kept. -/
structure DnIn (p : Phs) (r : Rn) : Prop where
  f : r.fs = 0 ∨ r.fs = 1 ∨ r.fs = 2
  z : r.fs = 0 → r.ft = 0
  d : r.d = true → r.c = 1 ∧ p.min ≤ r.t ∧ r.fs = 0
  m : r.m = true → r.d = true
theorem dn_begin (p : Phs) : DnIn p (beginM p) := ⟨.inl rfl, fun _ => rfl, fun h => by simp [beginM] at h, fun h => by simp [beginM] at h⟩
theorem dn_as (p : Phs) (r : Rn) (c t : Int) : DnIn p (asM r c t) := ⟨.inl rfl, fun _ => rfl, fun h => by simp [asM] at h, fun h => by simp [asM] at h⟩
theorem ft_ok (wa bl st tm : Int) (b : Bool) : ((ftM wa bl st tm b).1 = 0 ∨ (ftM wa bl st tm b).1 = 1 ∨ (ftM wa bl st tm b).1 = 2) ∧ ((ftM wa bl st tm b).1 = 0 → (ftM wa bl st tm b).2 = 0) := by
  unfold ftM
  repeat' split
  all_goals simp
theorem dueR_f (p : Phs) (o : Rn) (k : Cu) (d : Bool) : (dueR p o k d).fs = o.fs ∧ (dueR p o k d).ft = o.ft ∧ (dueR p o k d).t = o.t ∧ (dueR p o k d).c = o.c := by
  unfold dueR; cases d <;> cases k.ho <;> exact ⟨rfl, rfl, rfl, rfl⟩
theorem dueR_d (p : Phs) (o : Rn) (k : Cu) (d : Bool) : (dueR p o k d).d = (d && !k.ho || o.d) := by
  unfold dueR; cases d <;> cases k.ho <;> simp
theorem dueR_m (p : Phs) (o : Rn) (k : Cu) (d : Bool) : (dueR p o k d).m = if d && !k.ho then decide (0 < o.l) && longM p o else o.m := by
  unfold dueR; cases d <;> cases k.ho <;> simp
/-- Where a green goes on. -/
theorem dn_green {p : Phs} {r : Rn} {k : Cu} (hp : PhIn p) (hk : k.cu = false) (h : DnIn p r) (hc : r.c = 1) (he : k.en = false) :
    DnIn p (stepM p r k) ∧ (r.d = true → ((stepM p r k).d == (k.pu && !k.pr && ((stepM p r k).fs == 1 && (stepM p r k).ft == 1))) = false) ∧ ((stepM p r k).d = true → r.d = false → k.pr = true ∧ k.ho = false) := by
  have e : stepM p r k = dueR p (goR p r k) k (dueM p (goR p r k) k) := by simp [stepM, hc, grnR, he]
  have hf := ft_ok p.walk p.blinks r.fs r.ft (k.pu && !k.pr)
  have hg : gFoot p r k = ftM p.walk p.blinks r.fs r.ft (k.pu && !k.pr) := by simp [gFoot, hk]
  have hmin := hp.min
  obtain ⟨h1, h2, h3, h4⟩ := h
  have o1 : (goR p r k).fs = (ftM p.walk p.blinks r.fs r.ft (k.pu && !k.pr)).1 := by rw [← hg]; rfl
  have o2 : (goR p r k).ft = (ftM p.walk p.blinks r.fs r.ft (k.pu && !k.pr)).2 := by rw [← hg]; rfl
  have o3 : (goR p r k).t = moreM r.t := rfl
  have o4 : (goR p r k).c = 1 := rfl
  have o5 : (goR p r k).d = (r.d && !gNew p r k) := rfl
  have o6 : (goR p r k).m = (r.m && !gNew p r k) := rfl
  have o7 : gNew p r k = (!shM r.fs && ((ftM p.walk p.blinks r.fs r.ft (k.pu && !k.pr)).1 == 1)) := by rw [← hg]; rfl
  have o8 : dueM p (goR p r k) k = true → k.pr = true ∧ (goR p r k).d = false ∧ p.min ≤ (goR p r k).t ∧ shM (goR p r k).fs = false := by
    intro hd; unfold dueM at hd; simp at hd; exact ⟨hd.1.1.1.1, hd.1.1.1.2, hd.1.1.2, hd.1.2⟩
  have o9 : r.d = true → (ftM p.walk p.blinks r.fs r.ft (k.pu && !k.pr)) = if (k.pu && !k.pr) = true ∧ 0 < p.walk then (1, 1) else (0, 0) := fun hd => by
    unfold ftM; rw [(h3 hd).2.2, if_neg (by omega), if_neg (by omega)]
  have o10 : r.d = true → shM r.fs = false := fun hd => by rw [(h3 hd).2.2]; rfl
  rw [e]
  generalize goR p r k = o at *
  generalize dueM p o k = due at *
  generalize ftM p.walk p.blinks r.fs r.ft (k.pu && !k.pr) = F at *
  obtain ⟨q1, q2, q3, q4⟩ := dueR_f p o k due
  refine ⟨⟨?_, ?_, ?_, ?_⟩, ?_, ?_⟩
  · rw [q1, o1]; exact hf.1
  · rw [q1, q2, o1, o2]; exact hf.2
  · rw [dueR_d, q4, q3, q1]
    intro hd
    refine ⟨o4, ?_⟩
    cases hdu : due
    · rw [hdu] at hd
      simp at hd
      rw [o5] at hd
      simp at hd
      obtain ⟨hd1, hd2⟩ := hd
      have t1 := h3 hd1
      rw [o7, o10 hd1] at hd2
      rw [o9 hd1] at hd2 o1
      refine ⟨by rw [o3]; unfold moreM; omega, ?_⟩
      rw [o1]
      split
      · rename_i hs; rw [if_pos hs] at hd2; simp at hd2
      · rfl
    · obtain ⟨d1, d2, d3, d4⟩ := o8 hdu
      refine ⟨d3, ?_⟩
      rcases hf.1 with h | h | h
      · rw [o1]; exact h
      · rw [o1, h] at d4; simp [shM] at d4
      · rw [o1, h] at d4; simp [shM] at d4
  · rw [dueR_m, dueR_d]
    intro hm
    cases hx : (due && !k.ho)
    · rw [hx] at hm
      simp only [Bool.false_eq_true, if_false] at hm
      rw [o6] at hm
      simp at hm
      rw [o5, h4 hm.1, hm.2]; rfl
    · rfl
  · intro hd
    rw [dueR_d, q1, q2, o1, o2, o5, o7, o10 hd, o9 hd, hd]
    by_cases hs : (k.pu && !k.pr) = true ∧ 0 < p.walk
    · rw [if_pos hs]
      simp at hs
      have hdu : due = false := by cases hx : due; rfl; have := (o8 hx).1; rw [hs.1.2] at this; cases this
      simp [hdu, hs.1.1, hs.1.2]
    · rw [if_neg hs]
      have hdu : due = false := by
        cases hx : due
        · rfl
        · have := (o8 hx).2.1; rw [o5, o7, o10 hd, o9 hd, hd, if_neg hs] at this; simp at this
      simp [hdu]
  · intro hd hr
    rw [dueR_d, o5, hr] at hd
    simp at hd
    exact ⟨(o8 hd.1).1, hd.2⟩
theorem dn_step {p : Phs} {r : Rn} {k : Cu} (hp : PhIn p) (hk : k.cu = false) (h : DnIn p r) :
    DnIn p (stepM p r k) ∧ (r.d = true → k.en = false → ((stepM p r k).d == (k.pu && !k.pr && ((stepM p r k).fs == 1 && (stepM p r k).ft == 1))) = false) ∧ ((stepM p r k).d = true → r.d = false → k.pr = true ∧ k.ho = false) := by
  by_cases hc : r.c = 1
  · cases he : k.en
    · obtain ⟨h1, h2, h3⟩ := dn_green hp hk h hc he
      exact ⟨h1, fun hd _ => h2 hd, h3⟩
    · have e : stepM p r k = endR p r := by simp [stepM, hc, grnR, he]
      rw [e]
      unfold endR
      split
      · exact ⟨⟨.inl rfl, fun _ => rfl, fun h => by simp at h, fun h => by simp at h⟩, fun _ h => by simp at h, fun h => by simp at h⟩
      · exact ⟨dn_as _ _ _ _, fun _ h => by simp at h, fun h => by simp [asM] at h⟩
  · have hnd : r.d = true → False := fun hd => hc (h.d hd).1
    have key : DnIn p (stepM p r k) ∧ (stepM p r k).d = false := by
      unfold stepM
      rw [if_neg hc]
      split
      · unfold yelM; repeat' split
        all_goals exact ⟨dn_as _ _ _ _, rfl⟩
      · split
        · unfold clrM; split
          all_goals exact ⟨dn_as _ _ _ _, rfl⟩
        · unfold redM; split
          · exact ⟨⟨(ft_ok _ _ _ _ _).1, (ft_ok _ _ _ _ _).2, fun h => by simp at h, fun h => by simp at h⟩, rfl⟩
          · exact ⟨dn_as _ _ _ _, rfl⟩
    exact ⟨key.1, fun hd => (hnd hd).elim, fun hd => by rw [key.2] at hd; cases hd⟩
instance (k : Cu) : IsCu ((CuR k).setIfInBounds 7 (.bool false)) { k with cu := false } := ⟨rfl⟩
set_option maxHeartbeats 8000000 in
set_option maxRecDepth 100000 in
theorem phaseDone_walk (a0 : Option Addr) (cap0 : Nat) (z0 : List Int) (a1 : Int) (a2 : Option Addr) (cap2 : Nat) (z2 : List Int) (w : World) (hc0 : z0.length ≤ cap0 ∧ cap0 ≤ 9223372036854775807) (_ : Hdr w a0 cap0) (hz0 : Ints w a0 z0) (_ : ∀ i, i < z0.length → InKind .i64 (z0.getD i 0)) (_ : InKind .i64 a1)
    (hc2 : z2.length ≤ cap2 ∧ cap2 ≤ 9223372036854775807) (_ : Hdr w a2 cap2) (hz2 : Ints w a2 z2) (_ : ∀ i, i < z2.length → InKind .i64 (z2.getD i 0)) :
    Calls Try.prog 5 #[.slice a0 z0.length cap0, .int .i64 a1, .slice a2 z2.length cap2] w fun e w' => e = .returned (.bool true) ∧ Below w.heap.size w w' := by
  have HZ : Hid (∀ w', Below w.heap.size w w' → Ints w' a0 z0) := Lib.hid fun w' hb => Row1.below hz0 hb (Nat.le_refl _)
  have HZL : Hid (z0.length ≤ 9223372036854775807) := Lib.hid (by omega)
  have HY := Lib.hid hz2
  have hk0 := Int.emod_nonneg a1 (show (8 : Int) ≠ 0 by omega)
  have hk1 := Int.emod_lt_of_pos a1 (show (0 : Int) < 8 by omega)
  obtain ⟨k, hk⟩ : ∃ k : Nat, a1 % 8 = k := ⟨(a1 % 8).toNat, by omega⟩
  have hk8 : k < 8 := by omega
  have hkI : (k : Int) < 8 := by omega
  have hP := tab_phIn z0 k
  have HOK : Hid (((tabM z0).ph k).on = true → PhOk ((tabM z0).ph k)) := Lib.hid fun h => by
    rcases tab_ph z0 k with ⟨_, h1⟩ | h1
    · exact h1
    · rw [h1] at h; cases h
  have HPH : Hid (∀ w' T, IsTab w' T (tabM z0) → IsPh T (k * 13) ((tabM z0).ph k)) := Lib.hid fun w' T h => h.isPh k hk8
  generalize (tabM z0).ph k = p at *
  have HPI := Lib.hid hP
  have hbt : 0 ≤ (beginM p).tl ∧ (beginM p).tl ≤ 9999 := by have := hP.max; simp only [beginM]; omega
  have HB0 := Lib.hid (dn_begin p)
  have z := zeroTab
  have f0 : (PhR p)[0]? = some (.bool p.on) := rfl
  have f1 : (PhR p)[1]? = some (.int .i64 p.min) := rfl
  have g0 : ∀ r, (RnA r)[0]? = some (.int .i64 r.c) := fun r => rfl
  have g1 : ∀ r, (RnA r)[1]? = some (.int .i64 r.t) := fun r => rfl
  have g2 : ∀ r, (RnA r)[2]? = some (.int .i64 r.fs) := fun r => rfl
  have g3 : ∀ r, (RnA r)[3]? = some (.int .i64 r.ft) := fun r => rfl
  have g7 : ∀ r, (RnA r)[7]? = some (.bool r.d) := fun r => rfl
  have g8 : ∀ r, (RnA r)[8]? = some (.bool r.m) := fun r => rfl
  have c1 : ∀ k, (CuR k)[1]? = some (.bool k.en) := fun k => rfl
  have c3 : ∀ k, (CuR k)[3]? = some (.bool k.pu) := fun k => rfl
  have c4 : ∀ k, (CuR k)[4]? = some (.bool k.pr) := fun k => rfl
  have c5 : ∀ k, (CuR k)[5]? = some (.bool k.ho) := fun k => rfl
  have c7 : ∀ k, (CuR k)[7]? = some (.bool k.cu) := fun k => rfl
  clear hz0 hz2 hk0 hk1 hP
  by_cases hgo : z2.length ≤ 400 ∧ p.on = true
  · obtain ⟨hlen, hon⟩ := hgo
    clear HOK
    go_enter Try.func5, Try.ntmps5
    go_upto_region 2 with (first | (go_at_call 9; refine (ltable_up _ _ _ _ HZL.out (HZ.out _ (by (repeat' (first | (with_reducible exact Below.refl _ _) | (with_reducible assumption) | (with_reducible refine Below.setCell ?_ ?_ _) | (with_reducible refine Below.alloc ?_ ?_ _) | (with_reducible refine Below.drew ?_) | (with_reducible refine Up.base _ ?_ ?_) | (with_reducible exact LeSize.out) | exact LeSize.out | exact Nat.le_add_right_of_le LeSize.out | exact Nat.le_add_right_of_le (Nat.le_add_right_of_le LeSize.out) | (with_reducible exact Nat.le_refl _) | (simp; done) | (simp; omega)))))).mono ?_; rintro e w' ⟨T, uT, rfl, rfl, hT⟩) | (refine l_newTab rfl rfl rfl rfl inferInstance hT rfl ?_; go_simp))
    haveI hph := HPH.out _ _ hT
    haveI : Sz131 T := ⟨hT.size⟩
    clear hT HPH
    go_wp2_with (first | (go_at_call 10; refine (place_any _ _ _ (by omega) (by omega)).mono ?_; rintro e w' ⟨rfl, rfl⟩) | (refine l_phA rfl rfl rfl ?_; go_simp) | (refine l_newPr rfl rfl rfl rfl inferInstance rfl ?_; go_simp) | (refine l_newRn rfl rfl rfl rfl inferInstance rfl ?_; go_simp) | (refine l_lpr rfl rfl rfl ?_; go_simp) | (go_at_call 12; refine (Up.run (pbeginF_any _ _)).mono ?_; rintro e w' ⟨rfl, u9, rfl⟩))
    generalize beginM p = r0 at *
    have i8 : IsBlk (u9.w.alloc (.cells (RnA r0) 41)) (uT.w.heap.size + 1) (PhR p) 24 := inferInstance
    have i9 : IsBlk (u9.w.alloc (.cells (RnA r0) 41)) u9.w.heap.size (RnA r0) 41 := inferInstance
    have hbw : Below w.heap.size w (u9.w.alloc (.cells (RnA r0) 41)) := by (repeat' (first | (with_reducible exact Below.refl _ _) | (with_reducible assumption) | (with_reducible refine Below.setCell ?_ ?_ _) | (with_reducible refine Below.alloc ?_ ?_ _) | (with_reducible refine Below.drew ?_) | (with_reducible refine Up.base _ ?_ ?_) | (with_reducible exact LeSize.out) | exact LeSize.out | exact Nat.le_add_right_of_le LeSize.out | exact Nat.le_add_right_of_le (Nat.le_add_right_of_le LeSize.out) | (with_reducible exact Nat.le_refl _) | (simp; done) | (simp; omega)))
    have hlo := uT.bel.size
    have h89 := u9.bel.size
    simp only [World.size_alloc] at h89
    obtain ⟨b8, hb8⟩ : ∃ b, uT.w.heap.size + 1 = b := ⟨_, rfl⟩
    obtain ⟨b9, hb9⟩ : ∃ b, u9.w.heap.size = b := ⟨_, rfl⟩
    rw [hb8] at i8
    rw [hb9] at i9
    generalize (u9.w.alloc (.cells (RnA r0) 41)) = W0 at *
    rw [hb8, hb9]
    haveI : Apart b8 b9 := ⟨by omega⟩
    have hb9w : w.heap.size ≤ b9 := by omega
    clear hb8 hb9 hph hlo h89
    go_loopw [10] (fun i wr => ∃ j : Nat, j ≤ z2.length ∧ i = .int .i64 j ∧ ∃ r, IsBlk wr b8 (PhR p) 24 ∧ IsBlk wr b9 (RnA r) 41 ∧ (0 ≤ r.tl ∧ r.tl ≤ 9999) ∧ DnIn p r ∧ Below w.heap.size w wr) (fun i _ => z2.length - (intOf i).toNat)
    case atStart => exact ⟨0, Nat.zero_le _, rfl, _, i8, i9, hbt, HB0.out, hbw⟩
    case round =>
      clear i8 i9 hbt hbw HB0
      obtain ⟨j, hj, rfl, r, i8, i9, hbt, hex, hbw⟩ := hrel
      haveI : LeSize w.heap.size wr := ⟨hbw.size⟩
      have l9 := i9.le
      have l8 := i8.le
      haveI : Apart wr.heap.size b9 := ⟨by have := l9.out; omega⟩
      by_cases hlt : j < z2.length
      · obtain ⟨yb, yoff, rfl, hyb, hyc0⟩ := HY.out.cell (by omega)
        have hcell : wr.cell? ⟨yb, yoff + j, none⟩ = some (.int .i64 (z2.getD j 0)) := by rw [hbw.cell (p := ⟨yb, yoff + j, none⟩) hyb]; exact hyc0 j hlt
        haveI : LeSize (yb + 1) wr := ⟨Nat.le_trans hyb hbw.size⟩
        generalize z2.getD j 0 = y at *
        clear hyc0
        have HST := Lib.hid (step_tl (k := { cuM y with cu := false }) HPI.out hbt)
        obtain ⟨k', hk'⟩ : ∃ k' : Cu, k' = { cuM y with cu := false } := ⟨_, rfl⟩
        have HDS := Lib.hid (dn_step (k := k') HPI.out (by rw [hk']) hex)
        have HK' := Lib.hid hk'
        clear hk'
        clear hex
        go_upto_region 11 with (first | (refine l_lrn rfl rfl rfl ?_; go_simp) | (refine l_newRn rfl rfl rfl rfl inferInstance rfl ?_; go_simp) | (go_at_call 14; refine (Up.run (cue_any _ _)).mono ?_; rintro e w' ⟨rfl, ucu, rfl⟩) | (refine l_newCu rfl rfl rfl rfl inferInstance rfl ?_; go_simp))
        have hcs := ucu.bel.size
        simp only [World.size_alloc] at hcs
        haveI : Apart ucu.w.heap.size b9 := ⟨by have := l9.out; omega⟩
        haveI : Apart wr.heap.size ucu.w.heap.size := ⟨by omega⟩
        haveI : Apart b9 ucu.w.heap.size := ⟨by have := l9.out; omega⟩
        haveI : Apart b8 ucu.w.heap.size := ⟨by have := l8.out; omega⟩
        go_upto_region 13 with (first | (refine l_lpr rfl rfl rfl ?_; go_simp) | (refine l_lrn rfl rfl rfl ?_; go_simp) | (refine l_lcu rfl rfl rfl ?_; go_simp) | (go_at_call 17; refine (Up.run (pstepF_any _ _ _ _ HPI.out (by assumption))).mono ?_; rintro e w' ⟨rfl, ust, rfl⟩) | (refine l_setRn rfl rfl rfl rfl ?_; go_simp))
        have j12 : IsBlk (putRn ust.w b9 (stepM p r { cuM y with cu := false })) ucu.w.heap.size (CuR { cuM y with cu := false }) 44 := ⟨(inferInstance : IsBlk (putRn ust.w b9 (stepM p r { cuM y with cu := false })) ucu.w.heap.size ((CuR (cuM y)).setIfInBounds 7 (.bool false)) 44).out⟩
        have j9 : IsBlk (putRn ust.w b9 (stepM p r { cuM y with cu := false })) b9 (RnA (stepM p r { cuM y with cu := false })) 41 := inferInstance
        have j8 : IsBlk (putRn ust.w b9 (stepM p r { cuM y with cu := false })) b8 (PhR p) 24 := inferInstance
        have j11 : IsBlk (putRn ust.w b9 (stepM p r { cuM y with cu := false })) wr.heap.size (RnA r) 41 := inferInstance
        have hb1 : Below w.heap.size w (putRn ust.w b9 (stepM p r { cuM y with cu := false })) := by (repeat' (first | (with_reducible exact Below.refl _ _) | (with_reducible assumption) | (with_reducible refine below_putRn ?_ ?_) | (with_reducible refine Below.setCell ?_ ?_ _) | (with_reducible refine Below.alloc ?_ ?_ _) | (with_reducible refine Below.drew ?_) | (with_reducible refine Up.base _ ?_ ?_) | (with_reducible exact LeSize.out) | exact LeSize.out | (with_reducible exact Nat.le_refl _) | omega | (simp; done) | (simp; omega)))
        generalize (putRn ust.w b9 (stepM p r { cuM y with cu := false })) = W1 at *
        have hk' := HK'.out
        generalize ({ cuM y with cu := false } : Cu) = k2 at *
        subst hk'
        generalize stepM p r k' = r' at *
        have HB1 := Lib.hid hb1
        have h2I : LeSize w.heap.size W1 := ⟨hb1.size⟩
        clear i8 i9
        obtain ⟨hd, hC, hD⟩ := HDS.out
        have HF := Lib.hid hd
        have hdm : r'.d = false → r'.m = false := fun h => by cases hm : r'.m; rfl; rw [hd.m hm] at h; cases h
        cases h1 : r'.d <;> cases h2 : r.d
        · have hm0 := hdm h1
          clear hC hD hdm hd HDS
          cases h4 : k'.pu <;> cases h5 : k'.pr <;> by_cases hx : r'.fs = 1 <;> by_cases hy : r'.ft = 1
          all_goals
            go_wp2
            go_roundw
            case rel => exact ⟨j + 1, by omega, by go_num, r', inferInstance, inferInstance, HST.out, HF.out, by first | exact HB1.out | (repeat' (first | (with_reducible exact Below.refl _ _) | (with_reducible assumption) | (with_reducible refine below_putRn ?_ ?_) | (with_reducible refine Below.setCell ?_ ?_ _) | (with_reducible refine Below.alloc ?_ ?_ _) | (with_reducible refine Below.drew ?_) | (with_reducible refine Up.base _ ?_ ?_) | (with_reducible exact LeSize.out) | exact LeSize.out | (with_reducible exact Nat.le_refl _) | omega | (simp; done) | (simp; omega)))⟩
            case measure => simp [intOf]; omega
        · have hm0 := hdm h1
          cases h3 : k'.en
          · have wz := hC h2 h3
            rw [h1] at wz
            cases h4 : k'.pu <;> cases h5 : k'.pr
            all_goals
              rw [h4, h5] at wz
              simp at wz
            obtain ⟨w1, w2⟩ := wz
            clear hC hD hdm hd HDS
            go_wp2
            go_roundw
            case rel => exact ⟨j + 1, by omega, by go_num, r', inferInstance, inferInstance, HST.out, HF.out, by first | exact HB1.out | (repeat' (first | (with_reducible exact Below.refl _ _) | (with_reducible assumption) | (with_reducible refine below_putRn ?_ ?_) | (with_reducible refine Below.setCell ?_ ?_ _) | (with_reducible refine Below.alloc ?_ ?_ _) | (with_reducible refine Below.drew ?_) | (with_reducible refine Up.base _ ?_ ?_) | (with_reducible exact LeSize.out) | exact LeSize.out | (with_reducible exact Nat.le_refl _) | omega | (simp; done) | (simp; omega)))⟩
            case measure => simp [intOf]; omega
          · clear hC hD hdm hd HDS
            cases h4 : k'.pu <;> cases h5 : k'.pr <;> by_cases hx : r'.fs = 1 <;> by_cases hy : r'.ft = 1
            all_goals
              go_wp2
              go_roundw
              case rel => exact ⟨j + 1, by omega, by go_num, r', inferInstance, inferInstance, HST.out, HF.out, by first | exact HB1.out | (repeat' (first | (with_reducible exact Below.refl _ _) | (with_reducible assumption) | (with_reducible refine below_putRn ?_ ?_) | (with_reducible refine Below.setCell ?_ ?_ _) | (with_reducible refine Below.alloc ?_ ?_ _) | (with_reducible refine Below.drew ?_) | (with_reducible refine Up.base _ ?_ ?_) | (with_reducible exact LeSize.out) | exact LeSize.out | (with_reducible exact Nat.le_refl _) | omega | (simp; done) | (simp; omega)))⟩
              case measure => simp [intOf]; omega
        · obtain ⟨q1, q2, q3⟩ := hd.d h1
          have q4 := hd.z q3
          have q5 : ¬(r'.t < p.min) := by omega
          obtain ⟨h5, h6⟩ := hD h1 h2
          clear hC hD hdm hd HDS
          cases h4 : k'.pu <;> cases hm : r'.m
          all_goals
            go_wp2
            go_roundw
            case rel => exact ⟨j + 1, by omega, by go_num, r', inferInstance, inferInstance, HST.out, HF.out, by first | exact HB1.out | (repeat' (first | (with_reducible exact Below.refl _ _) | (with_reducible assumption) | (with_reducible refine below_putRn ?_ ?_) | (with_reducible refine Below.setCell ?_ ?_ _) | (with_reducible refine Below.alloc ?_ ?_ _) | (with_reducible refine Below.drew ?_) | (with_reducible refine Up.base _ ?_ ?_) | (with_reducible exact LeSize.out) | exact LeSize.out | (with_reducible exact Nat.le_refl _) | omega | (simp; done) | (simp; omega)))⟩
            case measure => simp [intOf]; omega
        · obtain ⟨q1, q2, q3⟩ := hd.d h1
          have q4 := hd.z q3
          have q5 : ¬(r'.t < p.min) := by omega
          clear hC hD hdm hd HDS
          cases h3 : k'.en <;> cases h4 : k'.pu <;> cases h5 : k'.pr <;> cases hm : r'.m
          all_goals
            go_wp2
            go_roundw
            case rel => exact ⟨j + 1, by omega, by go_num, r', inferInstance, inferInstance, HST.out, HF.out, by first | exact HB1.out | (repeat' (first | (with_reducible exact Below.refl _ _) | (with_reducible assumption) | (with_reducible refine below_putRn ?_ ?_) | (with_reducible refine Below.setCell ?_ ?_ _) | (with_reducible refine Below.alloc ?_ ?_ _) | (with_reducible refine Below.drew ?_) | (with_reducible refine Up.base _ ?_ ?_) | (with_reducible exact LeSize.out) | exact LeSize.out | (with_reducible exact Nat.le_refl _) | omega | (simp; done) | (simp; omega)))⟩
            case measure => simp [intOf]; omega
      · obtain rfl : j = z2.length := by omega
        go_wp2_with (go_at_call 11; refine (Up.run (awake18_any _)).mono ?_; rintro e w' ⟨rfl, u, rfl⟩)
        go_returns
        exact ⟨rfl, by (repeat' (first | (with_reducible exact Below.refl _ _) | (with_reducible assumption) | (with_reducible refine Below.setCell ?_ ?_ _) | (with_reducible refine Below.alloc ?_ ?_ _) | (with_reducible refine Below.drew ?_) | (with_reducible refine Up.base _ ?_ ?_) | (with_reducible exact LeSize.out) | exact LeSize.out | exact Nat.le_add_right_of_le LeSize.out | exact Nat.le_add_right_of_le (Nat.le_add_right_of_le LeSize.out) | (with_reducible exact Nat.le_refl _) | (simp; done) | (simp; omega)))⟩
  · have HON : Hid (p.on = true → 400 < z2.length) := Lib.hid fun h => by by_cases hl : z2.length ≤ 400; exact absurd ⟨hl, h⟩ hgo; omega
    clear hgo
    go_enter Try.func5, Try.ntmps5
    go_upto_region 2 with (first | (go_at_call 9; refine (ltable_up _ _ _ _ HZL.out (HZ.out _ (by (repeat' (first | (with_reducible exact Below.refl _ _) | (with_reducible assumption) | (with_reducible refine Below.setCell ?_ ?_ _) | (with_reducible refine Below.alloc ?_ ?_ _) | (with_reducible refine Below.drew ?_) | (with_reducible refine Up.base _ ?_ ?_) | (with_reducible exact LeSize.out) | exact LeSize.out | exact Nat.le_add_right_of_le LeSize.out | exact Nat.le_add_right_of_le (Nat.le_add_right_of_le LeSize.out) | (with_reducible exact Nat.le_refl _) | (simp; done) | (simp; omega)))))).mono ?_; rintro e w' ⟨T, uT, rfl, rfl, hT⟩) | (refine l_newTab rfl rfl rfl rfl inferInstance hT rfl ?_; go_simp))
    haveI hph := HPH.out _ _ hT
    haveI : Sz131 T := ⟨hT.size⟩
    clear hT HPH
    rcases Bool.eq_false_or_eq_true p.on with hon | hon
    · have hlen2 := HON.out hon
      go_wp2_with (first | (go_at_call 10; refine (place_any _ _ _ (by omega) (by omega)).mono ?_; rintro e w' ⟨rfl, rfl⟩) | (refine l_phA rfl rfl rfl ?_; go_simp) | (refine l_newPr rfl rfl rfl rfl inferInstance rfl ?_; go_simp) | (go_at_call 11; refine (Up.run (awake18_any _)).mono ?_; rintro e w' ⟨rfl, u, rfl⟩))
      go_returns
      exact ⟨rfl, by (repeat' (first | (with_reducible exact Below.refl _ _) | (with_reducible assumption) | (with_reducible refine Below.setCell ?_ ?_ _) | (with_reducible refine Below.alloc ?_ ?_ _) | (with_reducible refine Below.drew ?_) | (with_reducible refine Up.base _ ?_ ?_) | (with_reducible exact LeSize.out) | exact LeSize.out | exact Nat.le_add_right_of_le LeSize.out | exact Nat.le_add_right_of_le (Nat.le_add_right_of_le LeSize.out) | (with_reducible exact Nat.le_refl _) | (simp; done) | (simp; omega)))⟩
    · go_wp2_with (first | (go_at_call 10; refine (place_any _ _ _ (by omega) (by omega)).mono ?_; rintro e w' ⟨rfl, rfl⟩) | (refine l_phA rfl rfl rfl ?_; go_simp) | (refine l_newPr rfl rfl rfl rfl inferInstance rfl ?_; go_simp) | (go_at_call 11; refine (Up.run (awake18_any _)).mono ?_; rintro e w' ⟨rfl, u, rfl⟩))
      go_returns
      exact ⟨rfl, by (repeat' (first | (with_reducible exact Below.refl _ _) | (with_reducible assumption) | (with_reducible refine Below.setCell ?_ ?_ _) | (with_reducible refine Below.alloc ?_ ?_ _) | (with_reducible refine Below.drew ?_) | (with_reducible refine Up.base _ ?_ ?_) | (with_reducible exact LeSize.out) | exact LeSize.out | exact Nat.le_add_right_of_le LeSize.out | exact Nat.le_add_right_of_le (Nat.le_add_right_of_le LeSize.out) | (with_reducible exact Nat.le_refl _) | (simp; done) | (simp; omega)))⟩
set_option maxRecDepth 100000 in
theorem PhaseDone_lifted (os : Os) (started : os.Started) (H : Type) (enc : TypeId × Value → H) :
    ReturnsInHanded {} Try.checked os 5 .any (Rows.phaseDoneSpec.pre6 enc Try.prog Try.f5 Rows.phaseDoneRow.domain false) (Rows.phaseDoneSpec.post enc Try.prog Try.f5 false true false false) := by
  refine returnsInHanded_of_change (C := Try.checked) own started (by kernel_rfl) Try.func5
    (ChangeSpec.witness6 (enc := enc) (C := Try.checked) false ⟨#[], #[.slice none 0 0, .int .i64 0, .slice none 0 0], []⟩ 8 (by kernel_rfl) (by kernel_rfl) (by kernel_rfl) (by kernel_rfl)) ?_
  intro W base args ds gs before hval0 hW hcnd _
  have hval : ∀ (j : Nat) t v, Try.f5.params[j]? = some t → args[j]? = some v → Value.okWide Try.prog W .any base t v := hval0
  have hW' := hW
  obtain ⟨p, q, hA0, hV, rfl, hfz, hnd⟩ := hW
  have hA : DataW.TrodAll enc Try.prog W 0 (fun _ => true) true Try.f5.params.toList args.toList ds p := hA0
  rw [Try.params5] at hA hval
  obtain ⟨v0, vs0, d0, ds0, p0, q0, hargs, rfl, rfl, h0, r0⟩ := trodAll_cons hA
  obtain ⟨v1, vs1, d1, ds1, p1, q1, rfl, rfl, rfl, h1, r1⟩ := trodAll_cons r0
  obtain ⟨v2, vs2, d2, ds2, p2, q2, rfl, rfl, rfl, h2, r2⟩ := trodAll_cons r1
  obtain ⟨rfl, rfl, rfl⟩ := trodAll_nil r2
  obtain rfl : args = #[v0, v1, v2] := by cases args; simp_all
  obtain ⟨rfl, rfl⟩ := trodVars_none hV
  have k0 := h0
  have lt0 : ∀ x ∈ p0, x.block < W.heap.size := by obtain ⟨m, hm⟩ := k0; exact DataW.trod_lt m _ _ _ hm
  have k1 := h1
  have lt1 : ∀ x ∈ p1, x.block < W.heap.size := by obtain ⟨m, hm⟩ := k1; exact DataW.trod_lt m _ _ _ hm
  have k2 := h2
  have lt2 : ∀ x ∈ p2, x.block < W.heap.size := by obtain ⟨m, hm⟩ := k2; exact DataW.trod_lt m _ _ _ hm
  obtain ⟨a0, cap0, z0, rfl, hl0, hm0, hh0, hr0, iz0⟩ := open_ints1 Try.underlying22 Try.underlying3 (by kernel_rfl) (hval 0 22 v0 rfl rfl) k0
  obtain ⟨a1, rfl, w1⟩ := open_int1 Try.underlying3 (hval 1 3 v1 rfl rfl)
  obtain ⟨a2, cap2, z2, rfl, hl2, hm2, hh2, hr2, iz2⟩ := open_ints1 Try.underlying22 Try.underlying3 (by kernel_rfl) (hval 2 22 v2 rfl rfl) k2
  clear hA0 hval0
  refine (phaseDone_walk a0 cap0 z0 a1 a2 cap2 z2 W ⟨hl0, hm0⟩ hh0 hr0 iz0 w1 ⟨hl2, hm2⟩ hh2 hr2 iz2).mono fun e W' ⟨he, bel⟩ => ?_
  subst he
  exact ⟨_, rfl, _, _, _, [], _, [], hW', trodAll_mk1 (shut_bool Try.underlying4 _), (trodAll_cons_mk (Below.trod laidOut (by kernel_rfl) (of_decide_eq_true (by kernel_rfl)) k0 bel lt0) (trodAll_cons_mk (Below.trod laidOut (by kernel_rfl) (of_decide_eq_true (by kernel_rfl)) k1 bel lt1) (trodAll_cons_mk (Below.trod laidOut (by kernel_rfl) (of_decide_eq_true (by kernel_rfl)) k2 bel lt2) trodAll_mk0))), rfl, bel.frame _, fun h => by cases h⟩

theorem PhaseDone_over : Rows.phaseDoneRow.holds Try.pinned (OpenSpec.ofChange Rows.phaseDoneSpec) :=
  OpenClaim.holds_of_wide 5 Try.f5 rfl rfl rfl rfl rfl rfl rfl ⟨rfl, rfl, rfl, rfl, rfl⟩ rfl rfl rfl rfl rfl (by kernel_rfl) Try.func5 (by kernel_rfl)
    (of_decide_eq_true (by kernel_rfl)) (by unfold Func.isWrapper; first | (rw [if_pos (by decide +kernel)]; kernel_rfl) | (rw [if_neg (by decide +kernel)]; exact ⟨rfl, rfl⟩))
    (fun os started H enc _ => PhaseDone_lifted os started H enc)

/-- The given statement. -/
theorem PhaseDone_holds : Rows.PhaseDoneSaid := PhaseDone_over
#print axioms PhaseDone_holds
end Go.Proofs.Ytmapdkhcfejkaaa
