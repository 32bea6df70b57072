/- For a phase of a table by numbers that is pressed all the time, a green is Done by the greatest of Min, its walk and what blinks, and Max, and as many ticks more as it is held. -/
import Derived.Test.YtmapdkhcfejkaaaPhN
namespace Go.Proofs.Ytmapdkhcfejkaaa
open Go.ChangeShapes Go.WideShapes Go.ChangeAt Go.RowKit
set_option linter.unusedVariables false
attribute [local go_sem] IsBlk.cell IsBlk.frozen

/-- What is shown at tick i of a walk of W ticks that blinks for B. -/
def fsM (W B i : Int) : Int × Int := if i ≤ W then (1, i) else if i ≤ W + B then (2, i - W) else (0, 0)
theorem fs_step {W B i : Int} (hW : 1 ≤ W ∧ W ≤ 100) (hB : 1 ≤ B ∧ B ≤ 100) (hi : 1 ≤ i ∧ i ≤ W + B) (b : Bool) : ftM W B (fsM W B i).1 (fsM W B i).2 b = fsM W B (i + 1) := by
  have hm : ∀ n : Int, 0 ≤ n → n ≤ 9999 → moreM n = n + 1 := fun n h1 h2 => by unfold moreM; omega
  unfold fsM
  by_cases h1 : i ≤ W
  · rw [if_pos h1]
    simp only [ftM, if_true]
    rw [hm i (by omega) (by omega)]
    by_cases h2 : W ≤ i
    · rw [if_pos h2, if_neg (by omega), if_pos (by omega)]; congr 1; omega
    · rw [if_neg h2, if_pos (by omega)]
  · rw [if_neg h1, if_pos (by omega), if_neg (by omega)]
    simp only [ftM]
    rw [if_neg (by omega), if_pos trivial, hm (i - W) (by omega) (by omega)]
    by_cases h2 : B ≤ i - W
    · rw [if_pos h2, if_neg (by omega)]
    · rw [if_neg h2, if_pos (by omega)]; congr 1; omega
def lnFoot (p : Phs) (push : Bool) (i : Int) : Int × Int := if push = true ∧ 0 < p.walk then fsM p.walk p.blinks i else (0, 0)
theorem ln_foot {p : Phs} {push : Bool} {i : Int} (hp : PhIn p) (hf : 0 < p.walk → 1 ≤ p.blinks) (h1 : 1 ≤ i) : ftM p.walk p.blinks (lnFoot p push i).1 (lnFoot p push i).2 false = lnFoot p push (i + 1) := by
  have hw := hp.walk
  have hb := hp.blinks
  unfold lnFoot
  by_cases h : push = true ∧ 0 < p.walk
  · rw [if_pos h, if_pos h]
    by_cases hi : i ≤ p.walk + p.blinks
    · exact fs_step (by omega) (by have := hf h.2; omega) ⟨h1, hi⟩ false
    · have e1 : fsM p.walk p.blinks i = (0, 0) := by unfold fsM; rw [if_neg (by omega), if_neg (by omega)]
      have e2 : fsM p.walk p.blinks (i + 1) = (0, 0) := by unfold fsM; rw [if_neg (by omega), if_neg (by omega)]
      rw [e1, e2]; simp [ftM]
  · rw [if_neg h, if_neg h]; simp [ftM]
def mostP (p : Phs) : Int := max (max p.min (p.walk + p.blinks)) p.max
/-- What is kept after j ticks of green. -/
structure LnIn (p : Phs) (push : Bool) (h j : Int) (r : Rn) : Prop where
  c : r.c = 1
  tl : r.tl = p.max
  e : 0 ≤ r.e ∧ r.e ≤ h
  t : r.t ≤ mostP p + h + 1
  nd : r.d = false → r.t = j + 1 ∧ r.p = j ∧ (r.fs, r.ft) = lnFoot p push (j + 1) ∧ (mostP p ≤ j → j - mostP p + 1 ≤ r.e)
theorem ln_most {p : Phs} (hp : PhIn p) : 0 ≤ mostP p ∧ mostP p ≤ 36 := by
  have h1 := hp.min; have h2 := hp.max; have h3 := hp.walk; have h4 := hp.blinks
  unfold mostP; omega
theorem ln_begin {p : Phs} {push : Bool} {h : Int} (hp : PhIn p) (hm : 1 ≤ mostP p) (hh : 0 ≤ h) : LnIn p push h 0 (stepM p (beginM p) ⟨true, false, false, push, false, false, false, false⟩) := by
  have hm0 := ln_most hp
  have e : stepM p (beginM p) ⟨true, false, false, push, false, false, false, false⟩ = redM p (beginM p) ⟨true, false, false, push, false, false, false, false⟩ := by simp [stepM, beginM]
  rw [e]
  refine ⟨rfl, rfl, ⟨Int.le_refl _, hh⟩, ?_, fun _ => ⟨rfl, rfl, ?_, fun h0 => ?_⟩⟩
  · show (1 : Int) ≤ _; omega
  · show ftM p.walk p.blinks 0 0 push = _
    unfold lnFoot ftM
    rw [if_neg (by omega), if_neg (by omega)]
    by_cases hc : push = true ∧ 0 < p.walk
    · rw [if_pos hc, if_pos hc]; unfold fsM; rw [if_pos (by omega)]; rfl
    · rw [if_neg hc, if_neg hc]
  · omega
theorem ln_step {p : Phs} {push car : Bool} {h j : Int} {r : Rn} (hp : PhIn p) (hf : 0 < p.walk → 1 ≤ p.blinks) (hh : 0 ≤ h ∧ h ≤ 19) (hj : 0 ≤ j ∧ j < mostP p + h) (hd : r.d = false) (hr : LnIn p push h j r) :
    LnIn p push h (j + 1) (stepM p r ⟨false, false, car, push, true, decide (r.e < h), false, false⟩) := by
  have hm0 := ln_most hp
  have hmx := hp.max
  have htp := hp.top
  obtain ⟨h1, h2, h3, h4, h5⟩ := hr
  obtain ⟨q1, q2, q3, q4⟩ := h5 hd
  generalize hk : (⟨false, false, car, push, true, decide (r.e < h), false, false⟩ : Cu) = k
  have k1 : k.en = false := by rw [← hk]
  have k2 : k.pr = true := by rw [← hk]
  have k3 : k.ho = decide (r.e < h) := by rw [← hk]
  have k4 : k.cu = false := by rw [← hk]
  have k5 : k.ea = false := by rw [← hk]
  have e : stepM p r k = dueR p (goR p r k) k (dueM p (goR p r k) k) := by simp [stepM, h1, grnR, k1]
  have ef : ftM p.walk p.blinks r.fs r.ft false = lnFoot p push (j + 1 + 1) := by
    have := ln_foot (push := push) hp hf (i := j + 1) (by omega)
    rw [← q3] at this; exact this
  have hg : gFoot p r k = lnFoot p push (j + 1 + 1) := by simp [gFoot, k4, k2, ef]
  have o1 : (goR p r k).c = 1 := rfl
  have o2 : (goR p r k).t = j + 2 := by show moreM r.t = _; rw [q1]; unfold moreM; omega
  have o3 : (goR p r k).p = j + 1 := by show (if k.pr = true then moreM r.p else r.p) = _; rw [if_pos k2, q2]; unfold moreM; omega
  have o4 : (goR p r k).e = r.e := rfl
  have o5 : (goR p r k).d = false := by show (r.d && _) = false; rw [hd]; rfl
  have o6 : (goR p r k).tl = p.max := h2
  have o7 : ((goR p r k).fs, (goR p r k).ft) = lnFoot p push (j + 1 + 1) := hg
  have hdue : mostP p ≤ j + 1 → dueM p (goR p r k) k = true := by
    intro hm
    unfold dueM
    have hsh : shM (goR p r k).fs = false := by
      have e1 : lnFoot p push (j + 1 + 1) = (0, 0) := by
        unfold lnFoot
        split
        · unfold fsM; unfold mostP at hm; rw [if_neg (by have := hp.walk; have := hp.blinks; omega), if_neg (by omega)]
        · rfl
      rw [e1] at o7
      have : (goR p r k).fs = 0 := congrArg Prod.fst o7
      rw [this]; rfl
    have hl : longM p (goR p r k) = true := by
      unfold longM limM; rw [o6, o3]; unfold mostP at hm; simp; omega
    rw [k2, o5, hsh, hl]
    have : p.min ≤ (goR p r k).t := by rw [o2]; unfold mostP at hm; omega
    simp [this]
  rw [e]
  generalize goR p r k = o at *
  generalize dueM p o k = due at *
  cases hx : due
  · have hlt : j + 1 < mostP p := by
      rcases Int.lt_or_le (j + 1) (mostP p) with h | h
      · exact h
      · have := hdue h; rw [hx] at this; cases this
    have e2 : dueR p o k false = o := by simp [dueR]
    rw [e2]
    exact ⟨o1, o6, by rw [o4]; exact h3, by omega, fun _ => ⟨by omega, o3, o7, fun h => by omega⟩⟩
  · by_cases he : r.e < h
    · have e2 : dueR p o k true = ⟨o.c, o.t, o.fs, o.ft, o.l, o.p, moreM o.e, o.d, o.m, o.tl, o.tu, o.td⟩ := by simp [dueR, k3, he]
      have e3 : moreM o.e = r.e + 1 := by rw [o4]; unfold moreM; omega
      rw [e2]
      refine ⟨o1, o6, ?_, ?_, fun _ => ⟨?_, o3, o7, fun h => ?_⟩⟩
      · show 0 ≤ moreM o.e ∧ moreM o.e ≤ h; omega
      · show o.t ≤ _; omega
      · show o.t = _; omega
      · show _ ≤ moreM o.e
        rw [e3]
        by_cases hm : mostP p ≤ j
        · have := q4 hm; omega
        · omega
    · have e2 : dueR p o k true = ⟨o.c, o.t, o.fs, o.ft, o.l, o.p, o.e, true, decide (0 < o.l) && longM p o, o.tl, o.tu, o.td⟩ := by simp [dueR, k3, he]
      rw [e2]
      refine ⟨o1, o6, ?_, ?_, fun h => by cases h⟩
      · show 0 ≤ o.e ∧ o.e ≤ h; rw [o4]; exact h3
      · show o.t ≤ _; omega
theorem ln_end {p : Phs} {push : Bool} {h j : Int} {r : Rn} (hj : mostP p + h ≤ j) (hh : 0 ≤ h) (hr : LnIn p push h j r) : r.d = true := by
  cases hd : r.d
  · obtain ⟨_, _, _, q4⟩ := hr.nd hd
    have := hr.e
    have := q4 (by omega)
    omega
  · rfl
/-- A run stored over a block of twelve cells. -/
theorem l_putRn {ops : Array Oper} {rest : List Oper} {op : Oper} {a : Act} {w : World} {Q : Exit → Act → World → Prop} {x y : Operand} {C : Array Value} {t : TypeId} {b : Nat} {r' : Rn} (hgd : op.guard = none) (ho : op.op = .store 41 x y) (hx : a.eval x = .pointer (some ⟨b, 0, none⟩)) (hy : a.eval y = .agg (RnA r')) [hb : IsBlk w b C t] (hs : 12 = C.size)
    (h : wpList Try.prog ops Q rest (a.put op.dst undef) (putRn w b r')) : wpList Try.prog ops Q (op :: rest) a w :=
  wpList_store_part (o := 0) (cs := RnA r') 41 hgd ho hx hy (by rw [← hs]; exact Nat.le_refl _) (by kernel_rfl) (by simp [RnA, Value.oneCell']) h
theorem putRn_over {w : World} {b : Nat} {C : Array Value} {t : TypeId} {r' : Rn} (h : IsBlk w b C t) (hs : 12 = C.size) : IsBlk (putRn w b r') b (RnA r') t := ⟨by
  unfold putRn
  rw [heap_sets_same _ h.out, spl_all (by rw [← hs]; rfl)]⟩
set_option maxHeartbeats 8000000 in
set_option maxRecDepth 100000 in
theorem phaseLong_walk (a0 : Option Addr) (cap0 : Nat) (z0 : List Int) (a1 : Int) (a2 : Bool) (a3 : Option Addr) (cap3 : Nat) (z3 : List Bool) (a4 : Int) (w : World) (hc0 : z0.length ≤ cap0 ∧ cap0 ≤ 9223372036854775807) (_ : Hdr w a0 cap0) (hz0 : Ints w a0 z0) (_ : ∀ i, i < z0.length → InKind .i64 (z0.getD i 0)) (_ : InKind .i64 a1)
    (hc3 : z3.length ≤ cap3 ∧ cap3 ≤ 9223372036854775807) (_ : Hdr w a3 cap3) (hz3 : Bools w a3 z3) (_ : InKind .i64 a4) :
    Calls Try.prog 6 #[.slice a0 z0.length cap0, .int .i64 a1, .bool a2, .slice a3 z3.length cap3, .int .i64 a4] w fun e w' => e = .returned (.bool true) ∧ Below w.heap.size w w' := by
  have HZ : Hid (∀ w', Below w.heap.size w w' → Ints w' a0 z0) := Lib.hid fun w' hb => Row1.below hz0 hb (Nat.le_refl _)
  have HZL : Hid (z0.length ≤ 9223372036854775807) := Lib.hid (by omega)
  have HY := Lib.hid hz3
  have hk0 := Int.emod_nonneg a1 (show (8 : Int) ≠ 0 by omega)
  have hk1 := Int.emod_lt_of_pos a1 (show (0 : Int) < 8 by omega)
  have hh0 := Int.emod_nonneg a4 (show (20 : Int) ≠ 0 by omega)
  have hh1 := Int.emod_lt_of_pos a4 (show (0 : Int) < 20 by omega)
  obtain ⟨k, hk⟩ : ∃ k : Nat, a1 % 8 = k := ⟨(a1 % 8).toNat, by omega⟩
  obtain ⟨h, hh⟩ : ∃ h : Int, a4 % 20 = h := ⟨_, rfl⟩
  rw [hh] at hh0 hh1
  have hk8 : k < 8 := by omega
  have hkI : (k : Int) < 8 := by omega
  have hP := tab_phIn z0 k
  have HOK : Hid (((tabM z0).ph k).on = true → PhOk ((tabM z0).ph k)) := Lib.hid fun h => by
    rcases tab_ph z0 k with ⟨_, h1⟩ | h1
    · exact h1
    · rw [h1] at h; cases h
  have HPH : Hid (∀ w' T, IsTab w' T (tabM z0) → IsPh T (k * 13) ((tabM z0).ph k)) := Lib.hid fun w' T h => h.isPh k hk8
  generalize (tabM z0).ph k = p at *
  have HPI := Lib.hid hP
  have hbt : 0 ≤ (beginM p).tl ∧ (beginM p).tl ≤ 9999 := by have := hP.max; simp only [beginM]; omega
  have z := zeroTab
  have f0 : (PhR p)[0]? = some (.bool p.on) := rfl
  have f1 : (PhR p)[1]? = some (.int .i64 p.min) := rfl
  have f3 : (PhR p)[3]? = some (.int .i64 p.max) := rfl
  have f8 : (PhR p)[8]? = some (.int .i64 p.walk) := rfl
  have f9 : (PhR p)[9]? = some (.int .i64 p.blinks) := rfl
  have g1 : ∀ r, (RnA r)[1]? = some (.int .i64 r.t) := fun r => rfl
  have g6 : ∀ r, (RnA r)[6]? = some (.int .i64 r.e) := fun r => rfl
  have g7 : ∀ r, (RnA r)[7]? = some (.bool r.d) := fun r => rfl
  have hpw := hP.walk
  have hpb := hP.blinks
  have hmo := ln_most hP
  clear hz0 hz3 hk0 hk1 hP
  by_cases hgo : z3.length ≤ 400 ∧ p.on = true
  · obtain ⟨hlen, hon⟩ := hgo
    have hok := HOK.out hon
    have HF : Hid (0 < p.walk → 1 ≤ p.blinks) := Lib.hid fun h => by have := hok.foot; omega
    have HB0 := Lib.hid (ln_begin (push := a2) (h := h) HPI.out (by have := hok.min; unfold mostP; omega) hh0)
    have hbt2 := step_tl (k := ⟨true, false, false, a2, false, false, false, false⟩) HPI.out hbt
    clear hok HOK
    go_enter Try.func6, Try.ntmps6
    go_upto_region 2 with (first | (go_at_call 9; refine (ltable_up _ _ _ _ HZL.out (HZ.out _ (by (repeat' (first | (with_reducible exact Below.refl _ _) | (with_reducible assumption) | (with_reducible refine Below.setCell ?_ ?_ _) | (with_reducible refine Below.alloc ?_ ?_ _) | (with_reducible refine Below.drew ?_) | (with_reducible refine Up.base _ ?_ ?_) | (with_reducible exact LeSize.out) | exact LeSize.out | exact Nat.le_add_right_of_le LeSize.out | exact Nat.le_add_right_of_le (Nat.le_add_right_of_le LeSize.out) | (with_reducible exact Nat.le_refl _) | (simp; done) | (simp; omega)))))).mono ?_; rintro e w' ⟨T, uT, rfl, rfl, hT⟩) | (refine l_newTab rfl rfl rfl rfl inferInstance hT rfl ?_; go_simp))
    haveI hph := HPH.out _ _ hT
    haveI : Sz131 T := ⟨hT.size⟩
    clear hT HPH
    go_wp2_with (first | (go_at_call 10; refine (place_any _ _ _ (by omega) (by omega)).mono ?_; rintro e w' ⟨rfl, rfl⟩) | (refine l_phA rfl rfl rfl ?_; go_simp) | (refine l_newPr rfl rfl rfl rfl inferInstance rfl ?_; go_simp))
    (refine wp_region_up_alloc 7 6 (by kernel_rfl) (by kernel_rfl) rfl rfl (fun A w => by simp only [go_sem]; rfl) ?_; intro X; simp only [List.take_succ_cons, List.take_zero, List.drop_succ_cons, List.drop_zero, List.eraseIdx_cons_succ, List.eraseIdx_cons_zero]; (repeat (first | (go_big_quiet_want; refine q_lpr rfl rfl ?_; simp only [Act.put, List.setIfInBounds_toArray, List.set_cons_succ, List.set_cons_zero]; go_big_quiet_on) | go_big_quiet_step ((first | (go_at_call 12; exact Up.calls (pbeginF_any _ _)) | (go_at_call 17; exact Up.calls (pstepF_any _ _ ⟨true, false, false, a2, false, false, false, false⟩ _ HPI.out (by assumption))) | fail)))); refine wpQuiet_nil ?_; clear X; rintro q u hq hO; (try simp at hq); have lO := laid_le hO; have hOB : IsBlk u.w q _ _ := ⟨hO⟩; clear hO; go_simp)
    go_upto_region 7 with (refine l_putRn rfl rfl rfl rfl rfl ?_; go_simp)
    have i9 := putRn_over (r' := stepM p (beginM p) ⟨true, false, false, a2, false, false, false, false⟩) hOB rfl
    haveI : Apart (uT.w.heap.size + 1) q := ⟨by omega⟩
    have i8 : IsBlk (putRn u.w q (stepM p (beginM p) ⟨true, false, false, a2, false, false, false, false⟩)) (uT.w.heap.size + 1) (PhR p) 24 := inferInstance
    have hlo := uT.bel.size
    have hbw : Below w.heap.size w (putRn u.w q (stepM p (beginM p) ⟨true, false, false, a2, false, false, false, false⟩)) := by (repeat' (first | (with_reducible exact Below.refl _ _) | (with_reducible assumption) | (with_reducible refine below_putRn ?_ ?_) | (with_reducible refine Below.setCell ?_ ?_ _) | (with_reducible refine Below.alloc ?_ ?_ _) | (with_reducible refine Below.drew ?_) | (with_reducible refine Up.base _ ?_ ?_) | (with_reducible exact LeSize.out) | exact LeSize.out | (with_reducible exact Nat.le_refl _) | omega | (simp; done) | (simp; omega)))
    obtain ⟨b8, hb8⟩ : ∃ b, uT.w.heap.size + 1 = b := ⟨_, rfl⟩
    rw [hb8] at i8
    generalize (putRn u.w q (stepM p (beginM p) ⟨true, false, false, a2, false, false, false, false⟩)) = W0 at *
    rw [hb8]
    generalize (stepM p (beginM p) ⟨true, false, false, a2, false, false, false, false⟩) = r0 at *
    have hqw : w.heap.size ≤ q := by omega
    haveI : Apart b8 q := ⟨by omega⟩
    clear hb8 hph hlo hOB
    have HMX : Hid (max (max p.min (p.walk + p.blinks)) p.max = mostP p) := Lib.hid rfl
    go_upto_region 8 with fail
    obtain ⟨M, hM⟩ : ∃ M, M = (if (if p.min < p.walk + p.blinks then p.walk + p.blinks else p.min) < p.max then p.max else if p.min < p.walk + p.blinks then p.walk + p.blinks else p.min) := ⟨_, rfl⟩
    rw [← hM]
    have HM : Hid (M = mostP p) := Lib.hid (by rw [hM]; unfold mostP; split <;> split <;> omega)
    have hMb : 0 ≤ M ∧ M ≤ 36 := by rw [HM.out]; exact hmo
    clear hM hmo HMX
    go_wp2
    go_loopw [16] (fun i wr => ∃ j : Nat, (j : Int) ≤ M + h ∧ i = .int .i64 (j + 1) ∧ ∃ r, IsBlk wr b8 (PhR p) 24 ∧ IsBlk wr q (RnA r) 41 ∧ (0 ≤ r.tl ∧ r.tl ≤ 9999) ∧ LnIn p a2 h j r ∧ Below w.heap.size w wr) (fun i _ => (M + h + 2 - intOf i).toNat)
    case atStart => exact ⟨0, by omega, rfl, _, i8, i9, hbt2, HB0.out, hbw⟩
    case round =>
      clear i8 i9 hbt hbt2 hbw HB0
      obtain ⟨j, hj, rfl, r, i8, i9, hbt, hln, hbw⟩ := hrel
      haveI : LeSize w.heap.size wr := ⟨hbw.size⟩
      have hle := hln.e
      have hlt := hln.t
      rw [← HM.out] at hlt
      by_cases hgo : (j : Int) < M + h
      · cases hd : r.d
        · by_cases hjl : j + 1 < z3.length
          · have hcell : ∃ yb yoff, a3 = some ⟨yb, yoff, none⟩ ∧ yb < w.heap.size ∧ wr.cell? ⟨yb, yoff + (j + 1), none⟩ = some (.bool (z3.getD (j + 1) false)) := by
              obtain ⟨yb, yoff, e, hyb, hyc⟩ := HY.out.cell (by omega)
              exact ⟨yb, yoff, e, hyb, by rw [hbw.cell (p := ⟨yb, yoff + (j + 1), none⟩) hyb]; exact hyc (j + 1) hjl⟩
            obtain ⟨yb, yoff, rfl, hyb, hcell⟩ := hcell
            haveI : LeSize (yb + 1) wr := ⟨Nat.le_trans hyb hbw.size⟩
            generalize z3.getD (j + 1) false = car at *
            have HX := Lib.hid (ln_step (car := car) HPI.out HF.out ⟨hh0, by omega⟩ ⟨by omega, by rw [← HM.out]; exact hgo⟩ hd hln)
            have HST := Lib.hid (step_tl (k := ⟨false, false, car, a2, true, decide (r.e < h), false, false⟩) HPI.out hbt)
            clear hln
            go_wp2_with (first | (refine l_lpr rfl rfl rfl ?_; go_simp) | (refine l_lrn rfl rfl rfl ?_; go_simp) | (go_at_call 17; refine (Up.run (pstepF_any _ _ ⟨false, false, car, a2, true, decide (r.e < h), false, false⟩ _ HPI.out (by assumption))).mono ?_; rintro e w' ⟨rfl, ust, rfl⟩) | (refine l_setRn rfl rfl rfl rfl ?_; go_simp))
            go_roundw
            case rel => exact ⟨j + 1, by omega, by go_num, _, inferInstance, inferInstance, HST.out, HX.out, by (repeat' (first | (with_reducible exact Below.refl _ _) | (with_reducible assumption) | (with_reducible refine below_putRn ?_ ?_) | (with_reducible refine Below.setCell ?_ ?_ _) | (with_reducible refine Below.alloc ?_ ?_ _) | (with_reducible refine Below.drew ?_) | (with_reducible refine Up.base _ ?_ ?_) | (with_reducible exact LeSize.out) | exact LeSize.out | (with_reducible exact Nat.le_refl _) | omega | (simp; done) | (simp; omega)))⟩
            case measure => simp [intOf]; omega
          · obtain ⟨car, hcar⟩ : ∃ car, car = false := ⟨_, rfl⟩
            have HX := Lib.hid (ln_step (car := car) HPI.out HF.out ⟨hh0, by omega⟩ ⟨by omega, by rw [← HM.out]; exact hgo⟩ hd hln)
            have HST := Lib.hid (step_tl (k := ⟨false, false, car, a2, true, decide (r.e < h), false, false⟩) HPI.out hbt)
            subst hcar
            clear hln
            go_wp2_with (first | (refine l_lpr rfl rfl rfl ?_; go_simp) | (refine l_lrn rfl rfl rfl ?_; go_simp) | (go_at_call 17; refine (Up.run (pstepF_any _ _ ⟨false, false, false, a2, true, decide (r.e < h), false, false⟩ _ HPI.out (by assumption))).mono ?_; rintro e w' ⟨rfl, ust, rfl⟩) | (refine l_setRn rfl rfl rfl rfl ?_; go_simp))
            go_roundw
            case rel => exact ⟨j + 1, by omega, by go_num, _, inferInstance, inferInstance, HST.out, HX.out, by (repeat' (first | (with_reducible exact Below.refl _ _) | (with_reducible assumption) | (with_reducible refine below_putRn ?_ ?_) | (with_reducible refine Below.setCell ?_ ?_ _) | (with_reducible refine Below.alloc ?_ ?_ _) | (with_reducible refine Below.drew ?_) | (with_reducible refine Up.base _ ?_ ?_) | (with_reducible exact LeSize.out) | exact LeSize.out | (with_reducible exact Nat.le_refl _) | omega | (simp; done) | (simp; omega)))⟩
            case measure => simp [intOf]; omega
        · clear hln
          go_wp2_with (go_at_call 11; refine (Up.run (awake18_any _)).mono ?_; rintro e w' ⟨rfl, u, rfl⟩)
          go_returns
          exact ⟨rfl, by (repeat' (first | (with_reducible exact Below.refl _ _) | (with_reducible assumption) | (with_reducible refine Below.setCell ?_ ?_ _) | (with_reducible refine Below.alloc ?_ ?_ _) | (with_reducible refine Below.drew ?_) | (with_reducible refine Up.base _ ?_ ?_) | (with_reducible exact LeSize.out) | exact LeSize.out | exact Nat.le_add_right_of_le LeSize.out | exact Nat.le_add_right_of_le (Nat.le_add_right_of_le LeSize.out) | (with_reducible exact Nat.le_refl _) | (simp; done) | (simp; omega)))⟩
      · have hd := ln_end (by rw [← HM.out]; omega) hh0 hln
        clear hln
        go_wp2_with (go_at_call 11; refine (Up.run (awake18_any _)).mono ?_; rintro e w' ⟨rfl, u, rfl⟩)
        go_returns
        exact ⟨rfl, by (repeat' (first | (with_reducible exact Below.refl _ _) | (with_reducible assumption) | (with_reducible refine Below.setCell ?_ ?_ _) | (with_reducible refine Below.alloc ?_ ?_ _) | (with_reducible refine Below.drew ?_) | (with_reducible refine Up.base _ ?_ ?_) | (with_reducible exact LeSize.out) | exact LeSize.out | exact Nat.le_add_right_of_le LeSize.out | exact Nat.le_add_right_of_le (Nat.le_add_right_of_le LeSize.out) | (with_reducible exact Nat.le_refl _) | (simp; done) | (simp; omega)))⟩
  · have HON : Hid (p.on = true → 400 < z3.length) := Lib.hid fun h => by by_cases hl : z3.length ≤ 400; exact absurd ⟨hl, h⟩ hgo; omega
    clear hgo
    go_enter Try.func6, Try.ntmps6
    go_upto_region 2 with (first | (go_at_call 9; refine (ltable_up _ _ _ _ HZL.out (HZ.out _ (by (repeat' (first | (with_reducible exact Below.refl _ _) | (with_reducible assumption) | (with_reducible refine Below.setCell ?_ ?_ _) | (with_reducible refine Below.alloc ?_ ?_ _) | (with_reducible refine Below.drew ?_) | (with_reducible refine Up.base _ ?_ ?_) | (with_reducible exact LeSize.out) | exact LeSize.out | exact Nat.le_add_right_of_le LeSize.out | exact Nat.le_add_right_of_le (Nat.le_add_right_of_le LeSize.out) | (with_reducible exact Nat.le_refl _) | (simp; done) | (simp; omega)))))).mono ?_; rintro e w' ⟨T, uT, rfl, rfl, hT⟩) | (refine l_newTab rfl rfl rfl rfl inferInstance hT rfl ?_; go_simp))
    haveI hph := HPH.out _ _ hT
    haveI : Sz131 T := ⟨hT.size⟩
    clear hT HPH
    rcases Bool.eq_false_or_eq_true p.on with hon | hon
    · have hlen2 := HON.out hon
      go_wp2_with (first | (go_at_call 10; refine (place_any _ _ _ (by omega) (by omega)).mono ?_; rintro e w' ⟨rfl, rfl⟩) | (refine l_phA rfl rfl rfl ?_; go_simp) | (refine l_newPr rfl rfl rfl rfl inferInstance rfl ?_; go_simp) | (go_at_call 11; refine (Up.run (awake18_any _)).mono ?_; rintro e w' ⟨rfl, u, rfl⟩))
      go_returns
      exact ⟨rfl, by (repeat' (first | (with_reducible exact Below.refl _ _) | (with_reducible assumption) | (with_reducible refine Below.setCell ?_ ?_ _) | (with_reducible refine Below.alloc ?_ ?_ _) | (with_reducible refine Below.drew ?_) | (with_reducible refine Up.base _ ?_ ?_) | (with_reducible exact LeSize.out) | exact LeSize.out | exact Nat.le_add_right_of_le LeSize.out | exact Nat.le_add_right_of_le (Nat.le_add_right_of_le LeSize.out) | (with_reducible exact Nat.le_refl _) | (simp; done) | (simp; omega)))⟩
    · go_wp2_with (first | (go_at_call 10; refine (place_any _ _ _ (by omega) (by omega)).mono ?_; rintro e w' ⟨rfl, rfl⟩) | (refine l_phA rfl rfl rfl ?_; go_simp) | (refine l_newPr rfl rfl rfl rfl inferInstance rfl ?_; go_simp) | (go_at_call 11; refine (Up.run (awake18_any _)).mono ?_; rintro e w' ⟨rfl, u, rfl⟩))
      go_returns
      exact ⟨rfl, by (repeat' (first | (with_reducible exact Below.refl _ _) | (with_reducible assumption) | (with_reducible refine Below.setCell ?_ ?_ _) | (with_reducible refine Below.alloc ?_ ?_ _) | (with_reducible refine Below.drew ?_) | (with_reducible refine Up.base _ ?_ ?_) | (with_reducible exact LeSize.out) | exact LeSize.out | exact Nat.le_add_right_of_le LeSize.out | exact Nat.le_add_right_of_le (Nat.le_add_right_of_le LeSize.out) | (with_reducible exact Nat.le_refl _) | (simp; done) | (simp; omega)))⟩
set_option maxRecDepth 100000 in
theorem PhaseLong_lifted (os : Os) (started : os.Started) (H : Type) (enc : TypeId × Value → H) :
    ReturnsInHanded {} Try.checked os 6 .any (Rows.phaseLongSpec.pre6 enc Try.prog Try.f6 Rows.phaseLongRow.domain false) (Rows.phaseLongSpec.post enc Try.prog Try.f6 false true false false) := by
  refine returnsInHanded_of_change (C := Try.checked) own started (by kernel_rfl) Try.func6
    (ChangeSpec.witness6 (enc := enc) (C := Try.checked) false ⟨#[], #[.slice none 0 0, .int .i64 0, .bool false, .slice none 0 0, .int .i64 0], []⟩ 8 (by kernel_rfl) (by kernel_rfl) (by kernel_rfl) (by kernel_rfl)) ?_
  intro W base args ds gs before hval0 hW hcnd _
  have hval : ∀ (j : Nat) t v, Try.f6.params[j]? = some t → args[j]? = some v → Value.okWide Try.prog W .any base t v := hval0
  have hW' := hW
  obtain ⟨p, q, hA0, hV, rfl, hfz, hnd⟩ := hW
  have hA : DataW.TrodAll enc Try.prog W 0 (fun _ => true) true Try.f6.params.toList args.toList ds p := hA0
  rw [Try.params6] at hA hval
  obtain ⟨v0, vs0, d0, ds0, p0, q0, hargs, rfl, rfl, h0, r0⟩ := trodAll_cons hA
  obtain ⟨v1, vs1, d1, ds1, p1, q1, rfl, rfl, rfl, h1, r1⟩ := trodAll_cons r0
  obtain ⟨v2, vs2, d2, ds2, p2, q2, rfl, rfl, rfl, h2, r2⟩ := trodAll_cons r1
  obtain ⟨v3, vs3, d3, ds3, p3, q3, rfl, rfl, rfl, h3, r3⟩ := trodAll_cons r2
  obtain ⟨v4, vs4, d4, ds4, p4, q4, rfl, rfl, rfl, h4, r4⟩ := trodAll_cons r3
  obtain ⟨rfl, rfl, rfl⟩ := trodAll_nil r4
  obtain rfl : args = #[v0, v1, v2, v3, v4] := by cases args; simp_all
  obtain ⟨rfl, rfl⟩ := trodVars_none hV
  have k0 := h0
  have lt0 : ∀ x ∈ p0, x.block < W.heap.size := by obtain ⟨m, hm⟩ := k0; exact DataW.trod_lt m _ _ _ hm
  have k1 := h1
  have lt1 : ∀ x ∈ p1, x.block < W.heap.size := by obtain ⟨m, hm⟩ := k1; exact DataW.trod_lt m _ _ _ hm
  have k2 := h2
  have lt2 : ∀ x ∈ p2, x.block < W.heap.size := by obtain ⟨m, hm⟩ := k2; exact DataW.trod_lt m _ _ _ hm
  have k3 := h3
  have lt3 : ∀ x ∈ p3, x.block < W.heap.size := by obtain ⟨m, hm⟩ := k3; exact DataW.trod_lt m _ _ _ hm
  have k4 := h4
  have lt4 : ∀ x ∈ p4, x.block < W.heap.size := by obtain ⟨m, hm⟩ := k4; exact DataW.trod_lt m _ _ _ hm
  obtain ⟨a0, cap0, z0, rfl, hl0, hm0, hh0, hr0, iz0⟩ := open_ints1 Try.underlying22 Try.underlying3 (by kernel_rfl) (hval 0 22 v0 rfl rfl) k0
  obtain ⟨a1, rfl, w1⟩ := open_int1 Try.underlying3 (hval 1 3 v1 rfl rfl)
  obtain ⟨a2, rfl⟩ := open_bool1 Try.underlying4 (hval 2 4 v2 rfl rfl)
  obtain ⟨a3, cap3, z3, rfl, hl3, hm3, hh3, hr3⟩ := open_bools1 Try.underlying49 Try.underlying4 (by kernel_rfl) (hval 3 49 v3 rfl rfl) k3
  obtain ⟨a4, rfl, w4⟩ := open_int1 Try.underlying3 (hval 4 3 v4 rfl rfl)
  clear hA0 hval0
  refine (phaseLong_walk a0 cap0 z0 a1 a2 a3 cap3 z3 a4 W ⟨hl0, hm0⟩ hh0 hr0 iz0 w1 ⟨hl3, hm3⟩ hh3 hr3 w4).mono fun e W' ⟨he, bel⟩ => ?_
  subst he
  exact ⟨_, rfl, _, _, _, [], _, [], hW', trodAll_mk1 (shut_bool Try.underlying4 _), (trodAll_cons_mk (Below.trod laidOut (by kernel_rfl) (of_decide_eq_true (by kernel_rfl)) k0 bel lt0) (trodAll_cons_mk (Below.trod laidOut (by kernel_rfl) (of_decide_eq_true (by kernel_rfl)) k1 bel lt1) (trodAll_cons_mk (Below.trod laidOut (by kernel_rfl) (of_decide_eq_true (by kernel_rfl)) k2 bel lt2) (trodAll_cons_mk (Below.trod laidOut (by kernel_rfl) (of_decide_eq_true (by kernel_rfl)) k3 bel lt3) (trodAll_cons_mk (Below.trod laidOut (by kernel_rfl) (of_decide_eq_true (by kernel_rfl)) k4 bel lt4) trodAll_mk0))))), rfl, bel.frame _, fun h => by cases h⟩

theorem PhaseLong_over : Rows.phaseLongRow.holds Try.pinned (OpenSpec.ofChange Rows.phaseLongSpec) :=
  OpenClaim.holds_of_wide 6 Try.f6 rfl rfl rfl rfl rfl rfl rfl ⟨rfl, rfl, rfl, rfl, rfl⟩ rfl rfl rfl rfl rfl (by kernel_rfl) Try.func6 (by kernel_rfl)
    (of_decide_eq_true (by kernel_rfl)) (by unfold Func.isWrapper; first | (rw [if_pos (by decide +kernel)]; kernel_rfl) | (rw [if_neg (by decide +kernel)]; exact ⟨rfl, rfl⟩))
    (fun os started H enc _ => PhaseLong_lifted os started H enc)

/-- The given statement. -/
theorem PhaseLong_holds : Rows.PhaseLongSaid := PhaseLong_over
#print axioms PhaseLong_holds
end Go.Proofs.Ytmapdkhcfejkaaa
