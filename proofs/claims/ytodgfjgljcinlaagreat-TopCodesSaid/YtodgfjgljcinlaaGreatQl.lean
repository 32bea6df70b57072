/- Part Ql of the proof: ChH, ChI, ChJ, ChK, ChL, ChM, ChN, ChO, ChP, ChQ, ChR. -/
import Derived.Test.YtodgfjgljcinlaaGreatQj
import Derived.Test.YtodgfjgljcinlaaGreatQk
import Derived.Test.YtodgfjgljcinlaaGreatQi
import Derived.Test.YtodgfjgljcinlaaGreatQb
import Derived.Test.YtodgfjgljcinlaaGreatQe
import Derived.Test.YtodgfjgljcinlaaGreatQc
namespace Go.Proofs.YtodgfjgljcinlaaGreat
set_option maxHeartbeats 8000000
set_option maxRecDepth 100000
set_option linter.unusedVariables false
section
open Go.RowKit Go.Shelf
attribute [local go_sem] IsBlk.cell IsBlk.frozen
theorem sO (T : Array Value) [hz : Sz131 T] (on a1 a2 a3 a4 a5 a6 a7 a8 a9 a10 a11 : Int) (b1 b2 b3 b4 V : Bool) (w : World)
  (H1 : Hid (∀ W, Below w.heap.size w W → Calls Tryz.prog 148 #[.agg T, .int .i64 a2] W fun e w' => e = .returned (.bool b1) ∧ Below W.heap.size W w'))
  (H2 : Hid (∀ W, Below w.heap.size w W → Calls Tryz.prog 148 #[.agg T, .int .i64 a3] W fun e w' => e = .returned (.bool b2) ∧ Below W.heap.size W w'))
  (H3 : Hid (∀ W, Below w.heap.size w W → Calls Tryz.prog 148 #[.agg T, .int .i64 a4] W fun e w' => e = .returned (.bool b3) ∧ Below W.heap.size W w'))
  (H4 : Hid (∀ W, Below w.heap.size w W → Calls Tryz.prog 149 #[.agg T, .int .i64 a4] W fun e w' => e = .returned (.bool b4) ∧ Below W.heap.size W w'))
  (HV : Hid (V = ((bits .andNot .i64 (bits .or .i64 (bits .or .i64 (bits .or .i64 a1 a2) a3) a4) on != 0) || (a3 == 0) || (a4 == 0) || (bits .and .i64 a3 a1 != 0) || b1 || b2 || b3 || b4 ||
   (decide (0 < a8) != (a2 != 0)) || decide (a6 < 1) || decide (a9 < 1) || (decide (0 < a10) && decide (a10 < a9)) || decide (a11 ≤ a5)))) :
  Calls Tryz.prog 76 #[.agg T, .int .i64 on, .agg #[.int .i64 a1, .int .i64 a2, .int .i64 a3, .int .i64 a4, .int .i64 a5, .int .i64 a6, .int .i64 a7, .int .i64 a8, .int .i64 a9, .int .i64 a10, .int .i64 a11]] w fun e w' => e = .returned (.bool V) ∧ Below w.heap.size w w' := by
 have fin : ∀ r : Bool, V = r → (Calls Tryz.prog 76 #[.agg T, .int .i64 on, .agg #[.int .i64 a1, .int .i64 a2, .int .i64 a3, .int .i64 a4, .int .i64 a5, .int .i64 a6, .int .i64 a7, .int .i64 a8, .int .i64 a9, .int .i64 a10, .int .i64 a11]] w fun e w' => e = .returned (.bool r) ∧ Below w.heap.size w w') → Calls Tryz.prog 76 #[.agg T, .int .i64 on, .agg #[.int .i64 a1, .int .i64 a2, .int .i64 a3, .int .i64 a4, .int .i64 a5, .int .i64 a6, .int .i64 a7, .int .i64 a8, .int .i64 a9, .int .i64 a10, .int .i64 a11]] w fun e w' => e = .returned (.bool V) ∧ Below w.heap.size w w' := fun r h c => by rw [h]; exact c
 cases h1 : (bits .andNot .i64 (bits .or .i64 (bits .or .i64 (bits .or .i64 a1 a2) a3) a4) on != 0)
 case true => exact fin true (by rw [HV.out, h1]; simp) (sM T on a1 a2 a3 a4 a5 a6 a7 a8 a9 a10 a11 _ _ _ _ w H1 H2 H3 H4 h1)
 case false =>
  cases e2 : (a3 == 0)
  case true => exact fin true (by rw [HV.out, h1, e2]; simp) (sc T on a1 a2 a3 a4 a5 a6 a7 a8 a9 a10 a11 _ _ _ _ w H1 H2 H3 H4 h1 e2)
  case false =>
   cases e3 : (a4 == 0)
   case true => exact fin true (by rw [HV.out, h1, e2, e3]; simp) (rr T on a1 a2 a3 a4 a5 a6 a7 a8 a9 a10 a11 _ _ _ _ w H1 H2 H3 H4 h1 e2 e3)
   case false =>
    cases h4 : (bits .and .i64 a3 a1 != 0)
    case true => exact fin true (by rw [HV.out, h1, e2, e3, h4]; simp) (rQ T on a1 a2 a3 a4 a5 a6 a7 a8 a9 a10 a11 _ _ _ _ w H1 H2 H3 H4 h1 e2 e3 h4)
    case false =>
     cases hb1 : b1
     case true => exact fin true (by rw [HV.out, h1, e2, e3, h4, hb1]; simp) (sn T on a1 a2 a3 a4 a5 a6 a7 a8 a9 a10 a11 _ _ _ _ w H1 H2 H3 H4 h1 e2 e3 h4 hb1)
     case false =>
      cases hb2 : b2
      case true => exact fin true (by rw [HV.out, h1, e2, e3, h4, hb1, hb2]; simp) (tF T on a1 a2 a3 a4 a5 a6 a7 a8 a9 a10 a11 _ _ _ _ w H1 H2 H3 H4 h1 e2 e3 h4 hb1 hb2)
      case false =>
       cases hb3 : b3
       case true => exact fin true (by rw [HV.out, h1, e2, e3, h4, hb1, hb2, hb3]; simp) (sF T on a1 a2 a3 a4 a5 a6 a7 a8 a9 a10 a11 _ _ _ _ w H1 H2 H3 H4 h1 e2 e3 h4 hb1 hb2 hb3)
       case false =>
        cases hb4 : b4
        case true => exact fin true (by rw [HV.out, h1, e2, e3, h4, hb1, hb2, hb3, hb4]; simp) (sS T on a1 a2 a3 a4 a5 a6 a7 a8 a9 a10 a11 _ _ _ _ w H1 H2 H3 H4 h1 e2 e3 h4 hb1 hb2 hb3 hb4)
        case false =>
         cases e5 : (a2 != 0)
         ·by_cases h8 : 0 < a8
          ·exact fin true (by rw [HV.out, h1, e2, e3, h4, hb1, hb2, hb3, hb4, e5]; simp [h8]) (tU T on a1 a2 a3 a4 a5 a6 a7 a8 a9 a10 a11 _ _ _ _ w H1 H2 H3 H4 h1 e2 e3 h4 hb1 hb2 hb3 hb4 e5 h8)
          ·exact fin _ (by rw [HV.out, h1, e2, e3, h4, hb1, hb2, hb3, hb4, e5]; simp [h8]) (sH T on a1 a2 a3 a4 a5 a6 a7 a8 a9 a10 a11 _ _ _ _ w H1 H2 H3 H4 h1 e2 e3 h4 hb1 hb2 hb3 hb4 e5 h8 _ (Lib.hid rfl))
         ·by_cases h8 : 0 < a8
          ·exact fin _ (by rw [HV.out, h1, e2, e3, h4, hb1, hb2, hb3, hb4, e5]; simp [h8]) (tq T on a1 a2 a3 a4 a5 a6 a7 a8 a9 a10 a11 _ _ _ _ w H1 H2 H3 H4 h1 e2 e3 h4 hb1 hb2 hb3 hb4 e5 h8 _ (Lib.hid rfl))
          ·exact fin true (by rw [HV.out, h1, e2, e3, h4, hb1, hb2, hb3, hb4, e5]; simp [h8]) (sY T on a1 a2 a3 a4 a5 a6 a7 a8 a9 a10 a11 _ _ _ _ w H1 H2 H3 H4 h1 e2 e3 h4 hb1 hb2 hb3 hb4 e5 h8)
theorem qX (T : Array Value) (t : Tab) (on : Int) (r : Rl) (w : World) (hT : ag w T t) : Calls Tryz.prog 76 #[.agg T, .int .i64 on, eA r] w fun e w' => e = .returned (.bool (pB t on r)) ∧ Below w.heap.size w w' := by
 haveI : Sz131 T := ⟨hT.size⟩
 obtain ⟨a1, a2, a3, a4, a5, a6, a7, a8, a9, a10, a11⟩ := r
 exact sO T on a1 a2 a3 a4 a5 a6 a7 a8 a9 a10 a11 _ _ _ _ _ w (Lib.hid fun W hW => eW T t a2 W (hT.below hW (Nat.le_refl _))) (Lib.hid fun W hW => eW T t a3 W (hT.below hW (Nat.le_refl _))) (Lib.hid fun W hW => eW T t a4 W (hT.below hW (Nat.le_refl _))) (Lib.hid fun W hW => aci T t a4 W (hT.below hW (Nat.le_refl _))) (Lib.hid rfl)
end
section
open Go.RowKit Go.Shelf
attribute [local go_sem] IsBlk.cell IsBlk.frozen
theorem tX (T : Array Value) (t : Tab) (p bT : Nat) (W : World) (hT : ag W T t) [iT : IsBlk W bT T 34] (hp : p < 8) :
  Calls Tryz.prog 65 #[.int .i64 p, .pointer (some ⟨bT, 0, none⟩)] W fun e w' => e = .returned (.bool (gW (t.ph p))) ∧ Below W.heap.size W w' := by
 haveI : Sz131 T := ⟨hT.size⟩
 haveI := hT.isPh p hp
 have hpI : (p : Int) < 8 := by omega
 have HC : Hid (∀ w, Calls Tryz.prog 66 #[fO (t.ph p)] w fun e w' => e = .returned (.bool (gW (t.ph p))) ∧ Below w.heap.size w w') := Lib.hid fun w => oo _ w
 have lT := iT.le
 go_enter Tryz.func65, Tryz.ntmps65
 go_wp2_with (first | (refine xr rfl rfl rfl ?_; go_simp) | (go_at_call 66; refine (Up.run (HC.out _)).mono ?_; rintro e w' ⟨rfl, u, rfl⟩))
 go_ret
 exact ⟨rfl, by exact yd⟩
theorem tH (T : Array Value) (t : Tab) (on : Int) (p bT bO : Nat) (W : World) (hT : ag W T t) [iT : IsBlk W bT T 34] [iO : IsBlk W bO #[.int .i64 on] 3] (hp : p < 8) :
  Calls Tryz.prog 70 #[.int .i64 p, .pointer (some ⟨bT, 0, none⟩), .pointer (some ⟨bO, 0, none⟩)] W fun e w' => e = .returned (.bool (jW t on p)) ∧ Below W.heap.size W w' := by
 haveI : Sz131 T := ⟨hT.size⟩
 have HC := Lib.hid (pQ T t on p W hT hp)
 have lT := iT.le
 have lO := iO.le
 go_enter Tryz.func70, Tryz.ntmps70
 go_wp2_with (first | (refine aJ rfl rfl rfl ?_; go_simp) | (go_at_call 71; refine (Up.run HC.out).mono ?_; rintro e w' ⟨rfl, u, rfl⟩))
 go_ret
 exact ⟨rfl, by exact yd⟩
theorem rq (T : Array Value) (t : Tab) (on : Int) (p bT bO : Nat) (W : World) (hT : ag W T t) [iT : IsBlk W bT T 34] [iO : IsBlk W bO #[.int .i64 on] 3] (hp : p < 8) :
  Calls Tryz.prog 80 #[.int .i64 p, .pointer (some ⟨bT, 0, none⟩), .pointer (some ⟨bO, 0, none⟩)] W fun e w' => e = .returned (.bool (jq t on p)) ∧ Below W.heap.size W w' := by
 haveI : Sz131 T := ⟨hT.size⟩
 have HC := Lib.hid (oe T t on p W hT hp)
 have lT := iT.le
 have lO := iO.le
 go_enter Tryz.func80, Tryz.ntmps80
 go_wp2_with (first | (refine aJ rfl rfl rfl ?_; go_simp) | (go_at_call 81; refine (Up.run HC.out).mono ?_; rintro e w' ⟨rfl, u, rfl⟩))
 go_ret
 exact ⟨rfl, by exact yd⟩
end
section
open Go.RowKit Go.Shelf
attribute [local go_sem] IsBlk.cell IsBlk.frozen
theorem dH {α : Type} (C : α → List Value) {xs : List α} {i : Nat} (hi : i < xs.length) (j : Nat) : aF C xs i j = ((C xs[i])[j]?).getD undef := by
 unfold aF
 rw [List.getElem?_eq_getElem hi]; rfl
theorem rF (T : Array Value) (t : Tab) (on : Int) (d bT bO : Nat) (W : World) (hT : ag W T t) [iT : IsBlk W bT T 34] [iO : IsBlk W bO #[.int .i64 on] 3] (hd : d < t.bu.length) :
  Calls Tryz.prog 78 #[.int .i64 d, .pointer (some ⟨bT, 0, none⟩), .pointer (some ⟨bO, 0, none⟩)] W fun e w' => e = .returned (.bool (nf on (t.bu.getD d uQ))) ∧ Below W.heap.size W w' := by
 haveI : Sz131 T := ⟨hT.size⟩
 have lT := iT.le
 have lO := iO.le
 obtain ⟨gv, dv, r, b, hTe, hI⟩ := hT
 obtain ⟨a, cap, rfl, hrow⟩ := hI.bu
 have t115 : T[115]? = some (.slice a t.bu.length cap) := by rw [hTe, ab _ _ _ (by omega)]; rfl
 obtain ⟨bb, boff, rfl, hbb, hbc⟩ := hrow.resolve_left (by omega)
 have c0 : W.cell? ⟨bb, boff + d * 2, none⟩ = some (.int .i64 (t.bu[d]).set) := by
  have := hbc d hd 0 (by omega)
  rw [dH _ hd] at this; exact this
 have c1 : W.cell? ⟨bb, boff + d * 2 + 1, none⟩ = some (.int .i64 (t.bu[d]).lock) := by
  have := hbc d hd 1 (by omega)
  rw [dH _ hd] at this; exact this
 haveI : LeSize (bb + 1) W := ⟨hbb⟩
 have hdI : (d : Int) < t.bu.length := by omega
 have hg : t.bu.getD d uQ = t.bu[d] := by rw [List.getD_eq_getElem?_getD, List.getElem?_eq_getElem hd]; rfl
 rw [hg]
 generalize t.bu[d] = x at *
 obtain ⟨s, l⟩ := x
 simp only at c0 c1
 generalize t.bu.length = n at *
 clear hg hrow hbc hI hTe
 obtain ⟨V, hV⟩ : ∃ V, nf on ⟨s, l⟩ = V := ⟨_, rfl⟩
 rw [hV]
 unfold nf at hV
 simp only at hV
 have HV := Lib.hid hV
 clear hV
 cases e1 : (s == 0)
 ·cases e2 : (bits .andNot .i64 s on != 0)
  ·by_cases h3 : l < 1
   ·have HE : Hid (V = true) := Lib.hid (by rw [← HV.out, e1, e2, decide_eq_true h3]; rfl)
    go_enter Tryz.func78, Tryz.ntmps78
    go_wp2
    (refine ai (by kernel_rfl) (by kernel_rfl) ?_; (repeat (first | (go_big_quiet_want; refine di rfl rfl ?_; simp only [Act.put, List.setIfInBounds_toArray, List.set_cons_succ, List.set_cons_zero]; go_big_quiet_on) | go_big_quiet_step ((first | fail)))); refine wpQuiet_nil ?_; rintro _ ⟨u, rfl⟩)
    go_wp2
    go_ret
    exact ⟨aK HE.out.symm, by exact yd⟩
   ·have HE : Hid (V = false) := Lib.hid (by rw [← HV.out, e1, e2, decide_eq_false h3]; rfl)
    go_enter Tryz.func78, Tryz.ntmps78
    go_wp2
    (refine ai (by kernel_rfl) (by kernel_rfl) ?_; (repeat (first | (go_big_quiet_want; refine di rfl rfl ?_; simp only [Act.put, List.setIfInBounds_toArray, List.set_cons_succ, List.set_cons_zero]; go_big_quiet_on) | go_big_quiet_step ((first | fail)))); refine wpQuiet_nil ?_; rintro _ ⟨u, rfl⟩)
    go_wp2
    go_ret
    exact ⟨aK (by rw [HE.out]; simp; omega), by exact yd⟩
  ·have HE : Hid (V = true) := Lib.hid (by rw [← HV.out, e1, e2]; rfl)
   go_enter Tryz.func78, Tryz.ntmps78
   go_wp2
   (refine ai (by kernel_rfl) (by kernel_rfl) ?_; (repeat (first | (go_big_quiet_want; refine di rfl rfl ?_; simp only [Act.put, List.setIfInBounds_toArray, List.set_cons_succ, List.set_cons_zero]; go_big_quiet_on) | go_big_quiet_step ((first | fail)))); refine wpQuiet_nil ?_; rintro _ ⟨u, rfl⟩)
   go_wp2
   go_ret
   exact ⟨aK HE.out.symm, by exact yd⟩
 ·have HE : Hid (V = true) := Lib.hid (by rw [← HV.out, e1]; rfl)
  go_enter Tryz.func78, Tryz.ntmps78
  go_wp2
  (refine ai (by kernel_rfl) (by kernel_rfl) ?_; (repeat (first | (go_big_quiet_want; refine di rfl rfl ?_; simp only [Act.put, List.setIfInBounds_toArray, List.set_cons_succ, List.set_cons_zero]; go_big_quiet_on) | go_big_quiet_step ((first | fail)))); refine wpQuiet_nil ?_; rintro _ ⟨u, rfl⟩)
  go_wp2
  go_ret
  exact ⟨aK HE.out.symm, by exact yd⟩
end
section
open Go.RowKit Go.Shelf
attribute [local go_sem] IsBlk.cell IsBlk.frozen
theorem sk (T : Array Value) (t : Tab) (on : Int) (d bT bO : Nat) (W : World) (hT : ag W T t) [iT : IsBlk W bT T 34] [iO : IsBlk W bO #[.int .i64 on] 3] (hd : d < t.de.length) :
  Calls Tryz.prog 73 #[.int .i64 d, .pointer (some ⟨bT, 0, none⟩), .pointer (some ⟨bO, 0, none⟩)] W fun e w' => e = .returned (.bool (po on (t.de.getD d oR))) ∧ Below W.heap.size W w' := by
 haveI : Sz131 T := ⟨hT.size⟩
 have lT := iT.le
 have lO := iO.le
 obtain ⟨gv, dv, r, b, hTe, hI⟩ := hT
 obtain ⟨a, cap, rfl, hrow⟩ := hI.de
 have t113 : T[113]? = some (.slice a t.de.length cap) := by rw [hTe, ab _ _ _ (by omega)]; rfl
 obtain ⟨bb, boff, rfl, hbb, hbc⟩ := hrow.resolve_left (by omega)
 have c0 : W.cell? ⟨bb, boff + d * 7, none⟩ = some (.int .i64 (t.de[d]).ph) := by
  have := hbc d hd 0 (by omega)
  rw [dH _ hd] at this; exact this
 have c1 : W.cell? ⟨bb, boff + d * 7 + 1, none⟩ = some (.float .f64 (t.de[d]).on) := by
  have := hbc d hd 1 (by omega)
  rw [dH _ hd] at this; exact this
 have c2 : W.cell? ⟨bb, boff + d * 7 + 2, none⟩ = some (.float .f64 (t.de[d]).off) := by
  have := hbc d hd 2 (by omega)
  rw [dH _ hd] at this; exact this
 haveI : LeSize (bb + 1) W := ⟨hbb⟩
 have hdI : (d : Int) < t.de.length := by omega
 have hg : t.de.getD d oR = t.de[d] := by rw [List.getD_eq_getElem?_getD, List.getElem?_eq_getElem hd]; rfl
 rw [hg]
 generalize t.de[d] = x at *
 obtain ⟨ph, o1, o2, dl, ex, m1, m2⟩ := x
 simp only at c0 c1 c2
 generalize t.de.length = n at *
 clear hg hrow hbc hI hTe
 unfold po
 simp only
 have HHS : Hid (∀ w, Calls Tryz.prog 63 #[.int .i64 on, .int .i64 ph] w fun e w' => e = .returned (.bool (aT on ph)) ∧ w = w') := Lib.hid fun w => bA _ _ w
 generalize aT on ph = hb at *
 cases e1 : vL o2 o1
 ·cases hb
  ·go_enter Tryz.func73, Tryz.ntmps73
   go_wp2
   (refine ai (by kernel_rfl) (by kernel_rfl) ?_; (repeat (first | (go_big_quiet_want; refine di rfl rfl ?_; simp only [Act.put, List.setIfInBounds_toArray, List.set_cons_succ, List.set_cons_zero]; go_big_quiet_on) | go_big_quiet_step ((first | (go_at_call 63; (with_reducible refine Up.pure (HHS.out _)); all_goals try exact yd) | fail)))); refine wpQuiet_nil ?_; rintro _ ⟨u, rfl⟩)
   go_wp2
   go_ret
   exact ⟨rfl, by exact yd⟩
  ·go_enter Tryz.func73, Tryz.ntmps73
   go_wp2
   (refine ai (by kernel_rfl) (by kernel_rfl) ?_; (repeat (first | (go_big_quiet_want; refine di rfl rfl ?_; simp only [Act.put, List.setIfInBounds_toArray, List.set_cons_succ, List.set_cons_zero]; go_big_quiet_on) | go_big_quiet_step ((first | (go_at_call 63; (with_reducible refine Up.pure (HHS.out _)); all_goals try exact yd) | fail)))); refine wpQuiet_nil ?_; rintro _ ⟨u, rfl⟩)
   go_wp2
   go_ret
   exact ⟨rfl, by exact yd⟩
 ·go_enter Tryz.func73, Tryz.ntmps73
  go_wp2
  (refine ai (by kernel_rfl) (by kernel_rfl) ?_; (repeat (first | (go_big_quiet_want; refine di rfl rfl ?_; simp only [Act.put, List.setIfInBounds_toArray, List.set_cons_succ, List.set_cons_zero]; go_big_quiet_on) | go_big_quiet_step ((first | (go_at_call 63; (with_reducible refine Up.pure (HHS.out _)); all_goals try exact yd) | fail)))); refine wpQuiet_nil ?_; rintro _ ⟨u, rfl⟩)
  go_wp2
  go_ret
  exact ⟨rfl, by exact yd⟩
end
section
open Go.RowKit Go.Shelf
attribute [local go_sem] IsBlk.cell IsBlk.frozen
theorem rI (T : Array Value) (t : Tab) (on : Int) (d bT bO : Nat) (f : Bool) (W : World) (hT : ag W T t) [iT : IsBlk W bT T 34] [iO : IsBlk W bO #[.int .i64 on] 3] (hd : d < t.ra.length)
  (hc : ∀ W', Below W.heap.size W W' → Calls Tryz.prog 76 #[.agg T, .int .i64 on, eA (t.ra.getD d uI)] W' fun e w' => e = .returned (.bool f) ∧ Below W'.heap.size W' w') :
  Calls Tryz.prog 75 #[.int .i64 d, .pointer (some ⟨bT, 0, none⟩), .pointer (some ⟨bO, 0, none⟩)] W fun e w' => e = .returned (.bool f) ∧ Below W.heap.size W w' := by
 haveI : Sz131 T := ⟨hT.size⟩
 have lT := iT.le
 have lO := iO.le
 obtain ⟨gv, dv, r, b, hTe, hI⟩ := hT
 obtain ⟨a, cap, rfl, hrow⟩ := hI.ra
 have t114 : T[114]? = some (.slice a t.ra.length cap) := by rw [hTe, ab _ _ _ (by omega)]; rfl
 obtain ⟨bb, boff, rfl, hbb, hbc⟩ := hrow.resolve_left (by omega)
 haveI : LeSize (bb + 1) W := ⟨hbb⟩
 have hdI : (d : Int) < t.ra.length := by omega
 have hg : t.ra.getD d uI = t.ra[d] := by rw [List.getD_eq_getElem?_getD, List.getElem?_eq_getElem hd]; rfl
 rw [hg] at hc
 have el : ∀ u : Up W, Sem.run Tryz.prog (Instr.loadAt 100 (.pointer (some ⟨bb, boff + d * 11, none⟩))) u.w = .ok (eA t.ra[d]) u.w := fun u => by
  have hr : u.w.rangeAt bb (boff + d * 11) (dq t.ra[d]) := fun j v hv => by
   have hj : j < 11 := by have := (List.getElem?_eq_some_iff.1 hv).1; simpa [dq] using this
   rw [u.bel.cell (p := ⟨bb, boff + d * 11 + j, none⟩) hbb, hbc d hd j hj, dH _ hd, hv]; rfl
  exact run_loadAt_mid (P := Tryz.prog) u.w bb (boff + d * 11) 100 (dq t.ra[d]) _ hr Tryz.underlying100 rfl lL
 have HC : Hid (∀ u : Up W, Calls Tryz.prog 76 #[.agg T, .int .i64 on, eA t.ra[d]] u.w fun e w' => e = .returned (.bool f) ∧ Below u.w.heap.size u.w w') := Lib.hid fun u => hc u.w u.bel
 clear hg hrow hbc hI hTe hc
 generalize eA t.ra[d] = x at *
 clear hd
 generalize t.ra.length = n at *
 go_enter Tryz.func75, Tryz.ntmps75
 go_wp2
 (refine ai (by kernel_rfl) (by kernel_rfl) ?_; (repeat (first | (go_big_quiet_want; refine di rfl rfl ?_; simp only [Act.put, List.setIfInBounds_toArray, List.set_cons_succ, List.set_cons_zero]; go_big_quiet_on) | (go_big_quiet_want; refine gu rfl rfl el ?_; simp only [Act.put, List.setIfInBounds_toArray, List.set_cons_succ, List.set_cons_zero]; go_big_quiet_on) | go_big_quiet_step ((go_at_call 76; exact Up.calls (HC.out _))))); refine wpQuiet_nil ?_; rintro _ ⟨u, rfl⟩)
 go_wp2
 go_ret
 exact ⟨rfl, by exact yd⟩
end
section
open Go.RowKit Go.Shelf
attribute [local go_sem] IsBlk.cell IsBlk.frozen
theorem rG (on : Int) (p bO bF g : Nat) (caps : Array Value) (f : Bool) (W : World) (eg : Enters Tryz.prog g) [iO : IsBlk W bO #[.int .i64 on] 3] [iF : IsBlk W bF #[.func (.func g) #[] caps] 139]
  (hc : ∀ W', Below W.heap.size W W' → Calls Tryz.prog g (#[.int .i64 p] ++ caps) W' fun e w' => e = .returned (.bool f) ∧ Below W'.heap.size W' w') :
  Calls Tryz.prog 62 #[.int .i64 p, .pointer (some ⟨bO, 0, none⟩), .pointer (some ⟨bF, 0, none⟩)] W fun e w' => e = .returned (.bool (aT on p && f)) ∧ Below W.heap.size W w' := by
 have lO := iO.le
 have lF := iF.le
 have HC : Hid (∀ W', Below W.heap.size W W' → Calls Tryz.prog g (#[.int .i64 p] ++ caps) W' fun e w' => e = .returned (.bool f) ∧ ∃ u : Up W', w' = u.w) := Lib.hid fun W' h => Up.run (hc W' h)
 have HH : Hid (∀ w, Calls Tryz.prog 63 #[.int .i64 on, .int .i64 p] w fun e w' => e = .returned (.bool (aT on p)) ∧ w = w') := Lib.hid fun w => bA _ _ w
 clear hc
 generalize aT on p = b at *
 unfold Enters at eg
 cases b
 ·go_enter Tryz.func62, Tryz.ntmps62
  go_wp2_with (refine (HH.out _).mono ?_; rintro e w' ⟨rfl, rfl⟩)
  go_ret
  exact ⟨rfl, by exact yd⟩
 ·go_enter Tryz.func62, Tryz.ntmps62
  go_wp2_with (first | (go_at_call 63; refine (HH.out _).mono ?_; rintro e w' ⟨rfl, rfl⟩) | (refine (HC.out _ (by exact yd)).mono ?_; rintro e w' ⟨rfl, u, rfl⟩))
  go_ret
  exact ⟨rfl, by exact yd⟩
theorem oT (code on : Int) (bO g : Nat) (caps : Array Value) (f : Nat → Bool) (W : World) (eg : Enters Tryz.prog g) [iO : IsBlk W bO #[.int .i64 on] 3]
  (hc : ∀ p : Nat, p < 8 → ∀ W', Below W.heap.size W W' → Calls Tryz.prog g (#[.int .i64 p] ++ caps) W' fun e w' => e = .returned (.bool (f p)) ∧ Below W'.heap.size W' w') :
  Calls Tryz.prog 60 #[.int .i64 code, .func (.func g) #[] caps, .pointer (some ⟨bO, 0, none⟩)] W fun e w' => e = .returned (fh (bL code 8 fun p => aT on p && f p)) ∧ Below W.heap.size W w' := by
 have lO := iO.le
 have hO : bO < W.heap.size := (Array.getElem?_eq_some_iff.1 iO.out).1
 have HC : Hid (∀ W1, W1 = (W.alloc (.cells #[.func (.func g) #[] caps] 139)).alloc (.cells #[.int .i64 0, .int .i64 0] 37) → Calls Tryz.prog 61 #[.int .i64 code, .int .i64 8, .func (.func 62) #[] #[.pointer (some ⟨bO, 0, none⟩), .pointer (some ⟨W.heap.size, 0, none⟩)]] W1 fun e w' => e = .returned (fh (bL code 8 fun p => aT on p && f p)) ∧ ∃ u : Up W1, w' = u.w) := Lib.hid fun W1 hW1 => by
  have b1 : Below W.heap.size W W1 := by rw [hW1]; all_goals try exact yd
  have j1 : IsBlk W1 W.heap.size #[.func (.func g) #[] caps] 139 := by rw [hW1]; infer_instance
  have j2 : IsBlk W1 bO #[.int .i64 on] 3 := by rw [hW1]; infer_instance
  have hs : W.heap.size < W1.heap.size := (Array.getElem?_eq_some_iff.1 j1.out).1
  have := eX code 8 62 #[.pointer (some ⟨bO, 0, none⟩), .pointer (some ⟨W.heap.size, 0, none⟩)] (fun p => aT on p && f p) W1 (enters_of Tryz.func62 (by kernel_rfl) rfl) (by omega) fun p hp W2 hW2 => by
   haveI : IsBlk W2 W.heap.size #[.func (.func g) #[] caps] 139 := ⟨(hW2.block _ hs).trans j1.out⟩
   haveI : IsBlk W2 bO #[.int .i64 on] 3 := ⟨(hW2.block _ (by omega)).trans j2.out⟩
   exact rG on p bO W.heap.size g caps (f p) W2 eg fun W3 hW3 => hc p hp W3 ((b1.trans (hW2.mono b1.size)).trans (hW3.mono (Nat.le_trans b1.size hW2.size)))
  exact Up.run this
 clear hc
 go_enter Tryz.func60, Tryz.ntmps60
 go_wp2_with (refine (HC.out _ rfl).mono ?_; rintro e w' ⟨rfl, u, rfl⟩)
 go_returns
 exact ⟨rfl, by exact yd⟩
end
section
open Go.RowKit Go.Shelf
attribute [local go_sem] IsBlk.cell IsBlk.frozen
theorem wQ (T : Array Value) (t : Tab) (on : Int) (bP bT bO : Nat) (W : World) (hT : ag W T t) [iT : IsBlk W bT T 34] [iO : IsBlk W bO #[.int .i64 on] 3] [iP : IsBlk W bP #[.func (.func 60) #[] #[.pointer (some ⟨bO, 0, none⟩)]] 142] :
  Calls Tryz.prog 64 #[.pointer (some ⟨bP, 0, none⟩), .pointer (some ⟨bT, 0, none⟩)] W fun e w' => e = .returned (fh (bi t on 0)) ∧ Below W.heap.size W w' := by
 have lT := iT.le
 have lO := iO.le
 have lP := iP.le
 have hbT : bT < W.heap.size := (Array.getElem?_eq_some_iff.1 iT.out).1
 have hbO : bO < W.heap.size := (Array.getElem?_eq_some_iff.1 iO.out).1
 have hfs : fh (bL 7 8 fun p => aT on p && gW (t.ph p)) = fh (bi t on 0) := rfl
 have HC : Hid (∀ W1, W1 = W.alloc (.cells #[.int .i64 0, .int .i64 0] 37) → Calls Tryz.prog 60 #[.int .i64 7, .func (.func 65) #[] #[.pointer (some ⟨bT, 0, none⟩)], .pointer (some ⟨bO, 0, none⟩)] W1 fun e w' => e = .returned (fh (bi t on 0)) ∧ ∃ u : Up W1, w' = u.w) := Lib.hid fun W1 hW1 => by
  have b1 : Below W.heap.size W W1 := by rw [hW1]; all_goals try exact yd
  haveI j2 : IsBlk W1 bO #[.int .i64 on] 3 := ⟨(b1.block _ hbO).trans iO.out⟩
  have := oT 7 on bO 65 #[.pointer (some ⟨bT, 0, none⟩)] (fun p => gW (t.ph p)) W1 (enters_of Tryz.func65 (by kernel_rfl) rfl) fun p hp W2 hW2 => by
   have b2 : Below W.heap.size W W2 := b1.trans (hW2.mono b1.size)
   haveI : IsBlk W2 bT T 34 := ⟨(b2.block _ hbT).trans iT.out⟩
   haveI : IsBlk W2 bO #[.int .i64 on] 3 := ⟨(b2.block _ hbO).trans iO.out⟩
   exact tX T t p bT W2 (hT.below b2 (Nat.le_refl _)) hp
  exact Up.run this
 clear hfs
 generalize bi t on 0 = F at *
 go_enter Tryz.func64, Tryz.ntmps64
 go_wp2_with (refine (HC.out _ rfl).mono ?_; rintro e w' ⟨rfl, u, rfl⟩)
 go_returns
 exact ⟨rfl, by exact yd⟩
theorem wK (T : Array Value) (t : Tab) (on : Int) (bP bT bO : Nat) (W : World) (hT : ag W T t) [iT : IsBlk W bT T 34] [iO : IsBlk W bO #[.int .i64 on] 3] [iP : IsBlk W bP #[.func (.func 60) #[] #[.pointer (some ⟨bO, 0, none⟩)]] 142] :
  Calls Tryz.prog 69 #[.pointer (some ⟨bP, 0, none⟩), .pointer (some ⟨bT, 0, none⟩), .pointer (some ⟨bO, 0, none⟩)] W fun e w' => e = .returned (fh (bi t on 2)) ∧ Below W.heap.size W w' := by
 have lT := iT.le
 have lO := iO.le
 have lP := iP.le
 have hbT : bT < W.heap.size := (Array.getElem?_eq_some_iff.1 iT.out).1
 have hbO : bO < W.heap.size := (Array.getElem?_eq_some_iff.1 iO.out).1
 have hfs : fh (bL 9 8 fun p => aT on p && jW t on p) = fh (bi t on 2) := rfl
 have HC : Hid (∀ W1, W1 = W.alloc (.cells #[.int .i64 0, .int .i64 0] 37) → Calls Tryz.prog 60 #[.int .i64 9, .func (.func 70) #[] #[.pointer (some ⟨bT, 0, none⟩), .pointer (some ⟨bO, 0, none⟩)], .pointer (some ⟨bO, 0, none⟩)] W1 fun e w' => e = .returned (fh (bi t on 2)) ∧ ∃ u : Up W1, w' = u.w) := Lib.hid fun W1 hW1 => by
  have b1 : Below W.heap.size W W1 := by rw [hW1]; all_goals try exact yd
  haveI j2 : IsBlk W1 bO #[.int .i64 on] 3 := ⟨(b1.block _ hbO).trans iO.out⟩
  have := oT 9 on bO 70 #[.pointer (some ⟨bT, 0, none⟩), .pointer (some ⟨bO, 0, none⟩)] (fun p => jW t on p) W1 (enters_of Tryz.func70 (by kernel_rfl) rfl) fun p hp W2 hW2 => by
   have b2 : Below W.heap.size W W2 := b1.trans (hW2.mono b1.size)
   haveI : IsBlk W2 bT T 34 := ⟨(b2.block _ hbT).trans iT.out⟩
   haveI : IsBlk W2 bO #[.int .i64 on] 3 := ⟨(b2.block _ hbO).trans iO.out⟩
   exact tH T t on p bT bO W2 (hT.below b2 (Nat.le_refl _)) hp
  exact Up.run this
 clear hfs
 generalize bi t on 2 = F at *
 go_enter Tryz.func69, Tryz.ntmps69
 go_wp2_with (refine (HC.out _ rfl).mono ?_; rintro e w' ⟨rfl, u, rfl⟩)
 go_returns
 exact ⟨rfl, by exact yd⟩
theorem vP (T : Array Value) (t : Tab) (on : Int) (bP bT bO : Nat) (W : World) (hT : ag W T t) [iT : IsBlk W bT T 34] [iO : IsBlk W bO #[.int .i64 on] 3] [iP : IsBlk W bP #[.func (.func 60) #[] #[.pointer (some ⟨bO, 0, none⟩)]] 142] :
  Calls Tryz.prog 79 #[.pointer (some ⟨bP, 0, none⟩), .pointer (some ⟨bT, 0, none⟩), .pointer (some ⟨bO, 0, none⟩)] W fun e w' => e = .returned (fh (bi t on 6)) ∧ Below W.heap.size W w' := by
 have lT := iT.le
 have lO := iO.le
 have lP := iP.le
 have hbT : bT < W.heap.size := (Array.getElem?_eq_some_iff.1 iT.out).1
 have hbO : bO < W.heap.size := (Array.getElem?_eq_some_iff.1 iO.out).1
 have hfs : fh (bL 13 8 fun p => aT on p && jq t on p) = fh (bi t on 6) := rfl
 have HC : Hid (∀ W1, W1 = W.alloc (.cells #[.int .i64 0, .int .i64 0] 37) → Calls Tryz.prog 60 #[.int .i64 13, .func (.func 80) #[] #[.pointer (some ⟨bT, 0, none⟩), .pointer (some ⟨bO, 0, none⟩)], .pointer (some ⟨bO, 0, none⟩)] W1 fun e w' => e = .returned (fh (bi t on 6)) ∧ ∃ u : Up W1, w' = u.w) := Lib.hid fun W1 hW1 => by
  have b1 : Below W.heap.size W W1 := by rw [hW1]; all_goals try exact yd
  haveI j2 : IsBlk W1 bO #[.int .i64 on] 3 := ⟨(b1.block _ hbO).trans iO.out⟩
  have := oT 13 on bO 80 #[.pointer (some ⟨bT, 0, none⟩), .pointer (some ⟨bO, 0, none⟩)] (fun p => jq t on p) W1 (enters_of Tryz.func80 (by kernel_rfl) rfl) fun p hp W2 hW2 => by
   have b2 : Below W.heap.size W W2 := b1.trans (hW2.mono b1.size)
   haveI : IsBlk W2 bT T 34 := ⟨(b2.block _ hbT).trans iT.out⟩
   haveI : IsBlk W2 bO #[.int .i64 on] 3 := ⟨(b2.block _ hbO).trans iO.out⟩
   exact rq T t on p bT bO W2 (hT.below b2 (Nat.le_refl _)) hp
  exact Up.run this
 clear hfs
 generalize bi t on 6 = F at *
 go_enter Tryz.func79, Tryz.ntmps79
 go_wp2_with (refine (HC.out _ rfl).mono ?_; rintro e w' ⟨rfl, u, rfl⟩)
 go_returns
 exact ⟨rfl, by exact yd⟩
theorem wV (T : Array Value) (t : Tab) (on : Int) (bT bO : Nat) (W : World) (hT : ag W T t) (hl : t.de.length ≤ 16) [iT : IsBlk W bT T 34] [iO : IsBlk W bO #[.int .i64 on] 3] :
  Calls Tryz.prog 72 #[.pointer (some ⟨bT, 0, none⟩), .pointer (some ⟨bO, 0, none⟩)] W fun e w' => e = .returned (fh (bi t on 3)) ∧ Below W.heap.size W w' := by
 haveI : Sz131 T := ⟨hT.size⟩
 have lT := iT.le
 have lO := iO.le
 have hbT : bT < W.heap.size := (Array.getElem?_eq_some_iff.1 iT.out).1
 have hbO : bO < W.heap.size := (Array.getElem?_eq_some_iff.1 iO.out).1
 have HC : Hid (∀ W1, W1 = W.alloc (.cells #[.int .i64 0, .int .i64 0] 37) → Calls Tryz.prog 61 #[.int .i64 10, .int .i64 (t.de.length : Nat), .func (.func 73) #[] #[.pointer (some ⟨bT, 0, none⟩), .pointer (some ⟨bO, 0, none⟩)]] W1 fun e w' => e = .returned (fh (bi t on 3)) ∧ ∃ u : Up W1, w' = u.w) := Lib.hid fun W1 hW1 => by
  have b1 : Below W.heap.size W W1 := by rw [hW1]; all_goals try exact yd
  have := eX 10 t.de.length 73 #[.pointer (some ⟨bT, 0, none⟩), .pointer (some ⟨bO, 0, none⟩)] (fun d => po on (t.de.getD d oR)) W1 (enters_of Tryz.func73 (by kernel_rfl) rfl) (by omega) fun d hd W2 hW2 => by
   have b2 : Below W.heap.size W W2 := b1.trans (hW2.mono b1.size)
   haveI : IsBlk W2 bT T 34 := ⟨(b2.block _ hbT).trans iT.out⟩
   haveI : IsBlk W2 bO #[.int .i64 on] 3 := ⟨(b2.block _ hbO).trans iO.out⟩
   exact sk T t on d bT bO W2 (hT.below b2 (Nat.le_refl _)) hd
  exact Up.run this
 obtain ⟨gv, dv, r, b, hTe, hI⟩ := hT
 obtain ⟨a, cap, rfl, hrow⟩ := hI.de
 have t1 : T[113]? = some (.slice a t.de.length cap) := by rw [hTe, ab _ _ _ (by omega)]; rfl
 clear hrow hI hTe
 generalize bi t on 3 = F at *
 generalize t.de.length = n at *
 go_enter Tryz.func72, Tryz.ntmps72
 go_wp2_with (refine (HC.out _ rfl).mono ?_; rintro e w' ⟨rfl, u, rfl⟩)
 go_returns
 exact ⟨rfl, by exact yd⟩
theorem aey (T : Array Value) (t : Tab) (on : Int) (bT bO : Nat) (W : World) (hT : ag W T t) (hl : t.bu.length ≤ 16) [iT : IsBlk W bT T 34] [iO : IsBlk W bO #[.int .i64 on] 3] :
  Calls Tryz.prog 77 #[.pointer (some ⟨bT, 0, none⟩), .pointer (some ⟨bO, 0, none⟩)] W fun e w' => e = .returned (fh (bi t on 5)) ∧ Below W.heap.size W w' := by
 haveI : Sz131 T := ⟨hT.size⟩
 have lT := iT.le
 have lO := iO.le
 have hbT : bT < W.heap.size := (Array.getElem?_eq_some_iff.1 iT.out).1
 have hbO : bO < W.heap.size := (Array.getElem?_eq_some_iff.1 iO.out).1
 have HC : Hid (∀ W1, W1 = W.alloc (.cells #[.int .i64 0, .int .i64 0] 37) → Calls Tryz.prog 61 #[.int .i64 12, .int .i64 (t.bu.length : Nat), .func (.func 78) #[] #[.pointer (some ⟨bT, 0, none⟩), .pointer (some ⟨bO, 0, none⟩)]] W1 fun e w' => e = .returned (fh (bi t on 5)) ∧ ∃ u : Up W1, w' = u.w) := Lib.hid fun W1 hW1 => by
  have b1 : Below W.heap.size W W1 := by rw [hW1]; all_goals try exact yd
  have := eX 12 t.bu.length 78 #[.pointer (some ⟨bT, 0, none⟩), .pointer (some ⟨bO, 0, none⟩)] (fun d => nf on (t.bu.getD d uQ)) W1 (enters_of Tryz.func78 (by kernel_rfl) rfl) (by omega) fun d hd W2 hW2 => by
   have b2 : Below W.heap.size W W2 := b1.trans (hW2.mono b1.size)
   haveI : IsBlk W2 bT T 34 := ⟨(b2.block _ hbT).trans iT.out⟩
   haveI : IsBlk W2 bO #[.int .i64 on] 3 := ⟨(b2.block _ hbO).trans iO.out⟩
   exact rF T t on d bT bO W2 (hT.below b2 (Nat.le_refl _)) hd
  exact Up.run this
 obtain ⟨gv, dv, r, b, hTe, hI⟩ := hT
 obtain ⟨a, cap, rfl, hrow⟩ := hI.bu
 have t1 : T[115]? = some (.slice a t.bu.length cap) := by rw [hTe, ab _ _ _ (by omega)]; rfl
 clear hrow hI hTe
 generalize bi t on 5 = F at *
 generalize t.bu.length = n at *
 go_enter Tryz.func77, Tryz.ntmps77
 go_wp2_with (refine (HC.out _ rfl).mono ?_; rintro e w' ⟨rfl, u, rfl⟩)
 go_returns
 exact ⟨rfl, by exact yd⟩
end
section
open Go.RowKit Go.Shelf
attribute [local go_sem] IsBlk.cell IsBlk.frozen
theorem v4 (T : Array Value) (t : Tab) (on : Int) (bT bO : Nat) (W : World) (hT : ag W T t) (hl : t.ra.length ≤ 16) [iT : IsBlk W bT T 34] [iO : IsBlk W bO #[.int .i64 on] 3] :
  Calls Tryz.prog 74 #[.pointer (some ⟨bT, 0, none⟩), .pointer (some ⟨bO, 0, none⟩)] W fun e w' => e = .returned (fh (bi t on 4)) ∧ Below W.heap.size W w' := by
 haveI : Sz131 T := ⟨hT.size⟩
 have lT := iT.le
 have lO := iO.le
 have hbT : bT < W.heap.size := (Array.getElem?_eq_some_iff.1 iT.out).1
 have hbO : bO < W.heap.size := (Array.getElem?_eq_some_iff.1 iO.out).1
 have HC : Hid (∀ W1, W1 = W.alloc (.cells #[.int .i64 0, .int .i64 0] 37) → Calls Tryz.prog 61 #[.int .i64 11, .int .i64 (t.ra.length : Nat), .func (.func 75) #[] #[.pointer (some ⟨bT, 0, none⟩), .pointer (some ⟨bO, 0, none⟩)]] W1 fun e w' => e = .returned (fh (bi t on 4)) ∧ ∃ u : Up W1, w' = u.w) := Lib.hid fun W1 hW1 => by
  have b1 : Below W.heap.size W W1 := by rw [hW1]; all_goals try exact yd
  have := eX 11 t.ra.length 75 #[.pointer (some ⟨bT, 0, none⟩), .pointer (some ⟨bO, 0, none⟩)] (fun d => pB t on (t.ra.getD d uI)) W1 (enters_of Tryz.func75 (by kernel_rfl) rfl) (by omega) fun d hd W2 hW2 => by
   have b2 : Below W.heap.size W W2 := b1.trans (hW2.mono b1.size)
   haveI : IsBlk W2 bT T 34 := ⟨(b2.block _ hbT).trans iT.out⟩
   haveI : IsBlk W2 bO #[.int .i64 on] 3 := ⟨(b2.block _ hbO).trans iO.out⟩
   exact rI T t on d bT bO (pB t on (t.ra.getD d uI)) W2 (hT.below b2 (Nat.le_refl _)) hd fun W3 hW3 => qX T t on (t.ra.getD d uI) W3 ((hT.below b2 (Nat.le_refl _)).below hW3 (Nat.le_refl _))
  exact Up.run this
 obtain ⟨gv, dv, r, b, hTe, hI⟩ := hT
 obtain ⟨a, cap, rfl, hrow⟩ := hI.ra
 have t1 : T[114]? = some (.slice a t.ra.length cap) := by rw [hTe, ab _ _ _ (by omega)]; rfl
 clear hrow hI hTe
 generalize bi t on 4 = F at *
 generalize t.ra.length = n at *
 go_enter Tryz.func74, Tryz.ntmps74
 go_wp2_with (refine (HC.out _ rfl).mono ?_; rintro e w' ⟨rfl, u, rfl⟩)
 go_returns
 exact ⟨rfl, by exact yd⟩
end
section
open Go.RowKit Go.Shelf
attribute [local go_sem] IsBlk.cell IsBlk.frozen
def v3 (k : Nat) : Nat := [64, 67, 69, 72, 74, 77, 79].getD k 0
def rh (bT bO bP k : Nat) : Array Value :=
 if k = 0 then #[.pointer (some ⟨bP, 0, none⟩), .pointer (some ⟨bT, 0, none⟩)] else
 if k = 2 ∨ k = 6 then #[.pointer (some ⟨bP, 0, none⟩), .pointer (some ⟨bT, 0, none⟩), .pointer (some ⟨bO, 0, none⟩)] else
 #[.pointer (some ⟨bT, 0, none⟩), .pointer (some ⟨bO, 0, none⟩)]
def xV (bT bO bP : Nat) : Array Value := #[.func (.func 64) #[] (rh bT bO bP 0), .func (.func 67) #[] (rh bT bO bP 1), .func (.func 69) #[] (rh bT bO bP 2), .func (.func 72) #[] (rh bT bO bP 3), .func (.func 74) #[] (rh bT bO bP 4), .func (.func 77) #[] (rh bT bO bP 5), .func (.func 79) #[] (rh bT bO bP 6)]
theorem sl (bT bO bP k : Nat) (hk : k < 7) (w : World) : Sem.run Tryz.prog (Instr.index 148 (.agg (xV bT bO bP)) (.int .i64 (k : Nat))) w = .ok (.func (.func (v3 k)) #[] (rh bT bO bP k)) w := by
 rcases (show k = 0 ∨ k = 1 ∨ k = 2 ∨ k = 3 ∨ k = 4 ∨ k = 5 ∨ k = 6 by omega) with rfl | rfl | rfl | rfl | rfl | rfl | rfl <;> simp [Instr.index, xV, v3, go_sem, run_underlying Tryz.underlying148]
theorem qZ (k : Nat) (hk : k < 7) : Enters Tryz.prog (v3 k) := by
 rcases (show k = 0 ∨ k = 1 ∨ k = 2 ∨ k = 3 ∨ k = 4 ∨ k = 5 ∨ k = 6 by omega) with rfl | rfl | rfl | rfl | rfl | rfl | rfl
 ·exact enters_of Tryz.func64 (by kernel_rfl) rfl
 ·exact enters_of Tryz.func67 (by kernel_rfl) rfl
 ·exact enters_of Tryz.func69 (by kernel_rfl) rfl
 ·exact enters_of Tryz.func72 (by kernel_rfl) rfl
 ·exact enters_of Tryz.func74 (by kernel_rfl) rfl
 ·exact enters_of Tryz.func77 (by kernel_rfl) rfl
 ·exact enters_of Tryz.func79 (by kernel_rfl) rfl
theorem vZ (T : Array Value) (t : Tab) (on : Int) (bT bO : Nat) (W : World) (hT : ag W T t) [iT : IsBlk W bT T 34] [iO : IsBlk W bO #[.int .i64 on] 3] :
  Calls Tryz.prog 67 #[.pointer (some ⟨bT, 0, none⟩), .pointer (some ⟨bO, 0, none⟩)] W fun e w' => e = .returned (fh (bi t on 1)) ∧ Below W.heap.size W w' := by
 haveI : Sz131 T := ⟨hT.size⟩
 have lT := iT.le
 have lO := iO.le
 have HC : Hid (∀ W1, W1 = W.alloc (.cells #[.int .i64 0, .int .i64 0] 37) → Calls Tryz.prog 68 #[.agg T, .int .i64 on] W1 fun e w' => e = .returned (fh (bi t on 1)) ∧ ∃ u : Up W1, w' = u.w) := Lib.hid fun W1 hW1 => by
  have b1 : Below W.heap.size W W1 := by rw [hW1]; all_goals try exact yd
  exact Up.run (oV T t on W1 (hT.below b1 (Nat.le_refl _)))
 generalize bi t on 1 = F at *
 go_enter Tryz.func67, Tryz.ntmps67
 go_wp2_with (first | (refine aJ rfl rfl rfl ?_; go_simp) | (refine (HC.out _ rfl).mono ?_; rintro e w' ⟨rfl, u, rfl⟩))
 go_returns
 exact ⟨rfl, by exact yd⟩
theorem rP (T : Array Value) (t : Tab) (on : Int) (bT bO bP k : Nat) (hk : k < 7) (hd : t.de.length ≤ 16) (hr : t.ra.length ≤ 16) (hu : t.bu.length ≤ 16) (W : World) (hT : ag W T t) [iT : IsBlk W bT T 34] [iO : IsBlk W bO #[.int .i64 on] 3] [iP : IsBlk W bP #[.func (.func 60) #[] #[.pointer (some ⟨bO, 0, none⟩)]] 142] :
  Calls Tryz.prog (v3 k) (rh bT bO bP k) W fun e w' => e = .returned (fh (bi t on k)) ∧ Below W.heap.size W w' := by
 rcases (show k = 0 ∨ k = 1 ∨ k = 2 ∨ k = 3 ∨ k = 4 ∨ k = 5 ∨ k = 6 by omega) with rfl | rfl | rfl | rfl | rfl | rfl | rfl
 ·exact wQ T t on bP bT bO W hT
 ·exact vZ T t on bT bO W hT
 ·exact wK T t on bP bT bO W hT
 ·exact wV T t on bT bO W hT hd
 ·exact v4 T t on bT bO W hT hr
 ·exact aey T t on bT bO W hT hu
 ·exact vP T t on bP bT bO W hT
end
section
open Go.RowKit Go.Shelf
attribute [local go_sem] IsBlk.cell IsBlk.frozen
theorem jv {P : Program} {a : Addr} {m : Mode} {w : World} (f : Fn) (ts c : Array Value) : Sem.run P (store a (.func f ts c) m) w = stored P w a (.func f ts c) m := run_store P w a _ m rfl
attribute [local go_sem] jv
theorem dZ (t : Tab) (on : Int) (k : Nat) : bX t on (k + 1) = if bX t on k = (0, 0) then bi t on k else bX t on k := rfl
theorem na (t : Tab) (on : Int) (k n : Nat) (h : bX t on k ≠ (0, 0)) : bX t on (k + n) = bX t on k := by
 induction n with
 | zero => rfl
 | succ n ih => rw [← Nat.add_assoc, dZ, ih, if_neg h]
theorem oG (t : Tab) (on : Int) (k : Nat) (hk : k < 7) (h0 : bX t on k = (0, 0)) (h1 : bi t on k ≠ (0, 0)) : bX t on 7 = bi t on k := by
 have h2 : bX t on (k + 1) = bi t on k := by rw [dZ, if_pos h0]
 obtain ⟨n, hn⟩ : ∃ n, 7 = k + 1 + n := ⟨6 - k, by omega⟩
 rw [hn, na _ _ _ _ (by rw [h2]; exact h1), h2]
theorem oB (T : Array Value) (t : Tab) (w : World) (hT : ag w T t) (hm : dS t = true) (hd : t.de.length ≤ 16) (hr : t.ra.length ≤ 16) (hu : t.bu.length ≤ 16) :
  Calls Tryz.prog 20 #[.agg T] w fun e w' => e = .returned (fh (bX t (eB t) 7)) ∧ Below w.heap.size w w' := by
 haveI : Sz131 T := ⟨hT.size⟩
 have HM : Hid (∀ W, Below w.heap.size w W → Calls Tryz.prog 49 #[.agg T] W fun e w' => e = .returned (.bool true) ∧ ∃ u : Up W, w' = u.w) := Lib.hid fun W hW => by rw [← hm]; exact Up.run (gN T t W (hT.below hW (Nat.le_refl _)))
 have HO : Hid (∀ W, Below w.heap.size w W → Calls Tryz.prog 56 #[.agg T] W fun e w' => e = .returned (.int .i64 (eB t)) ∧ ∃ u : Up W, w' = u.w) := Lib.hid fun W hW => Up.run (eE T t W (hT.below hW (Nat.le_refl _)))
 generalize eB t = on at *
 go_enter Tryz.func20, Tryz.ntmps20
 go_wp2_with (first | (refine aJ rfl rfl rfl ?_; go_simp) | (go_at_call 49; refine (HM.out _ (by exact yd)).mono ?_; rintro e w' ⟨rfl, um, rfl⟩) | (go_at_call 56; refine (HO.out _ (by exact yd)).mono ?_; rintro e w' ⟨rfl, uo, rfl⟩))
 have hs1 := um.bel.size
 have hs2 := uo.bel.size
 go_loopw [25] (fun i wr => ∃ k : Nat, k ≤ 7 ∧ i = .int .i64 k ∧ Hid (bX t on k = (0, 0)) ∧ Below w.heap.size w wr ∧ IsBlk wr w.heap.size T 34 ∧ IsBlk wr (w.heap.size + 1) #[.int .i64 0, .int .i64 0] 37 ∧ IsBlk wr uo.w.heap.size #[.int .i64 on] 3 ∧ IsBlk wr (uo.w.heap.size + 1) #[.func (.func 60) #[] #[.pointer (some ⟨uo.w.heap.size, 0, none⟩)]] 142) (fun i _ => 7 - (intOf i).toNat)
 case atStart => exact ⟨0, by omega, rfl, Lib.hid rfl, by exact yd, inferInstance, inferInstance, inferInstance, inferInstance⟩
 case round =>
  obtain ⟨k, hk, rfl, hR, hb, iT, iF, iO, iP⟩ := hrel
  haveI : LeSize w.heap.size wr := ⟨hb.size⟩
  have lT := iT.le
  have lF := iF.le
  have lO := iO.le
  have lP := iP.le
  by_cases hlt : k < 7
  ·have hkI : (k : Int) < 7 := by omega
   have hix : ∀ w', Sem.run Tryz.prog (Instr.index 148 (.agg #[.func (.func 64) #[] #[.pointer (some ⟨(uo.w.heap.size + 1), 0, none⟩), .pointer (some ⟨w.heap.size, 0, none⟩)], .func (.func 67) #[] #[.pointer (some ⟨w.heap.size, 0, none⟩), .pointer (some ⟨uo.w.heap.size, 0, none⟩)], .func (.func 69) #[] #[.pointer (some ⟨(uo.w.heap.size + 1), 0, none⟩), .pointer (some ⟨w.heap.size, 0, none⟩), .pointer (some ⟨uo.w.heap.size, 0, none⟩)], .func (.func 72) #[] #[.pointer (some ⟨w.heap.size, 0, none⟩), .pointer (some ⟨uo.w.heap.size, 0, none⟩)], .func (.func 74) #[] #[.pointer (some ⟨w.heap.size, 0, none⟩), .pointer (some ⟨uo.w.heap.size, 0, none⟩)], .func (.func 77) #[] #[.pointer (some ⟨w.heap.size, 0, none⟩), .pointer (some ⟨uo.w.heap.size, 0, none⟩)], .func (.func 79) #[] #[.pointer (some ⟨(uo.w.heap.size + 1), 0, none⟩), .pointer (some ⟨w.heap.size, 0, none⟩), .pointer (some ⟨uo.w.heap.size, 0, none⟩)]]) (.int .i64 (k : Nat))) w' = .ok (.func (.func (v3 k)) #[] (rh w.heap.size uo.w.heap.size (uo.w.heap.size + 1) k)) w' := fun w' => sl w.heap.size uo.w.heap.size (uo.w.heap.size + 1) k hlt w'
   have HC : Hid (Calls Tryz.prog (v3 k) (rh w.heap.size uo.w.heap.size (uo.w.heap.size + 1) k) wr fun e w' => e = .returned (fh (bi t on k)) ∧ ∃ u : Up wr, w' = u.w) := Lib.hid (Up.run (rP T t on w.heap.size uo.w.heap.size (uo.w.heap.size + 1) k hlt hd hr hu wr (hT.below hb (Nat.le_refl _))))
   have eg := qZ k hlt
   unfold Enters at eg
   have HS : Hid (bi t on k = (0, 0) → bX t on (k + 1) = (0, 0)) := Lib.hid fun h => by rw [dZ, if_pos hR.out, h]
   have HH : Hid (bi t on k ≠ (0, 0) → bX t on 7 = bi t on k) := Lib.hid fun h => oG t on k hlt hR.out h
   clear hR
   generalize v3 k = g at *
   generalize rh w.heap.size uo.w.heap.size (uo.w.heap.size + 1) k = cs at *
   generalize bi t on k = R at *
   obtain ⟨c1, c2⟩ := R
   have HC : Hid (Calls Tryz.prog g cs wr fun e w' => e = .returned (.agg #[.int .i64 c1, .int .i64 c2]) ∧ ∃ u : Up wr, w' = u.w) := HC
   by_cases h0 : (c1, c2) = ((0, 0) : Int × Int)
   ·have HS2 := Lib.hid (HS.out h0)
    obtain ⟨rfl, rfl⟩ : c1 = 0 ∧ c2 = 0 := by simpa using h0
    clear HS HH h0
    go_wp2_with (refine HC.out.mono ?_; rintro e w' ⟨rfl, u, rfl⟩)
    (refine ai (by kernel_rfl) (by kernel_rfl) ?_; (repeat (first | go_big_quiet_step ((first | (go_at_call 82; exact Up.calls (dI _)) | fail)))); refine wpQuiet_nil ?_; rintro _ ⟨u, rfl⟩)
    go_wp2
    go_roundw
    case rel => exact ⟨k + 1, by omega, by go_num, HS2, by exact yd, inferInstance, inferInstance, inferInstance, inferInstance⟩
    case measure => simp [intOf]; omega
   ·have HH2 := Lib.hid (HH.out h0)
    clear HS HH
    by_cases hc : c1 = 0
    ·subst hc
     have hc2 : c2 ≠ 0 := fun h => h0 (by rw [h])
     have hcb : (c2 == 0) = false := by simp [hc2]
     clear h0 hc2
     go_wp2_with (refine HC.out.mono ?_; rintro e w' ⟨rfl, u, rfl⟩)
     (refine ai (by kernel_rfl) (by kernel_rfl) ?_; (repeat (first | go_big_quiet_step ((first | (go_at_call 82; exact Up.calls (dI _)) | fail)))); refine wpQuiet_nil ?_; rintro _ ⟨u, rfl⟩)
     go_wp2
     go_returns
     exact ⟨by rw [HH2.out]; rfl, by exact yd⟩
    ·have hcb : (c1 == 0) = false := by simp [hc]
     clear h0 hc
     go_wp2_with (refine HC.out.mono ?_; rintro e w' ⟨rfl, u, rfl⟩)
     (refine ai (by kernel_rfl) (by kernel_rfl) ?_; (repeat (first | go_big_quiet_step ((first | (go_at_call 82; exact Up.calls (dI _)) | fail)))); refine wpQuiet_nil ?_; rintro _ ⟨u, rfl⟩)
     go_wp2
     go_returns
     exact ⟨by rw [HH2.out]; rfl, by exact yd⟩
  ·obtain rfl : k = 7 := by omega
   clear hlt
   go_wp2_with (go_at_call 82; refine (Up.run (dI _)).mono ?_; rintro e w' ⟨rfl, u, rfl⟩)
   go_returns
   exact ⟨by rw [hR.out]; rfl, by exact yd⟩
end
section
open Go.RowKit Go.Shelf
attribute [local go_sem] IsBlk.cell IsBlk.frozen
theorem sL {t : Tab} (h : dS t = true) : t.de.length ≤ 16 ∧ t.ra.length ≤ 16 ∧ t.bu.length ≤ 16 := by
 simp only [dS, Bool.and_eq_true, decide_eq_true_eq] at h
 omega
theorem eL (T : Array Value) (t : Tab) (w : World) (hT : ag w T t) :
  Calls Tryz.prog 20 #[.agg T] w fun e w' => e = .returned (fh (aL t)) ∧ Below w.heap.size w w' := by
 cases hm : dS t
 ·haveI : Sz131 T := ⟨hT.size⟩
  have HM : Hid (∀ W, Below w.heap.size w W → Calls Tryz.prog 49 #[.agg T] W fun e w' => e = .returned (.bool false) ∧ ∃ u : Up W, w' = u.w) := Lib.hid fun W hW => by rw [← hm]; exact Up.run (gN T t W (hT.below hW (Nat.le_refl _)))
  have hc : aL t = (4, 0) := by unfold aL; rw [hm]; rfl
  rw [hc]
  clear hc
  go_enter Tryz.func20, Tryz.ntmps20
  go_wp2_with (first | (refine aJ rfl rfl rfl ?_; go_simp) | (go_at_call 49; refine (HM.out _ (by exact yd)).mono ?_; rintro e w' ⟨rfl, um, rfl⟩) | (go_at_call 59; refine (Up.run (dM _ _ _)).mono ?_; rintro e w' ⟨rfl, u, rfl⟩))
  go_returns
  exact ⟨rfl, by exact yd⟩
 ·have hc : aL t = bX t (eB t) 7 := by unfold aL; rw [hm]; rfl
  rw [hc]
  obtain ⟨hd, hr, hu⟩ := sL hm
  exact oB T t w hT hm hd hr hu
end
end Go.Proofs.YtodgfjgljcinlaaGreat
