/- Part Qt of the proof: TopA. -/
import Derived.Test.YtodgfjgljcinlaaGreatQq
import Derived.Test.YtodgfjgljcinlaaGreatQm
import Derived.Test.YtodgfjgljcinlaaGreatQn
import Derived.Test.YtodgfjgljcinlaaGreatQp
import Derived.Test.YtodgfjgljcinlaaGreatQr
import Derived.Test.YtodgfjgljcinlaaGreatQs
import Derived.Test.YtodgfjgljcinlaaGreatQa
namespace Go.Proofs.YtodgfjgljcinlaaGreat
set_option maxHeartbeats 8000000
set_option maxRecDepth 100000
set_option linter.unusedVariables false
section
open Go.RowKit
attribute [local go_sem] IsBlk.cell IsBlk.frozen
theorem xe : dR bR = (0, 0) := by kernel_rfl
theorem pz : dS bR = true := by kernel_rfl
theorem xT : (bR.ph 0).on = true := by kernel_rfl
theorem uJ {t : Tab} {k : Nat} (h : k < 8) : (ny t).ph k = t.ph k := by
 show ((List.range 8).map t.ph).getD k vI = t.ph k
 rw [List.getD_eq_getElem?_getD, List.getElem?_map, List.getElem?_range h]; rfl
theorem uX {t : Tab} {k : Nat} (h : k < 8) : (ny t).cf k = t.cf k := by
 show ((List.range 8).map t.cf).getD k 0 = t.cf k
 rw [List.getD_eq_getElem?_getD, List.getElem?_map, List.getElem?_range h]; rfl
theorem uE {t : Tab} {k : Nat} (h : k < 8) : (ny t).fl k = t.fl k := by
 show ((List.range 8).map t.fl).getD k 0 = t.fl k
 rw [List.getD_eq_getElem?_getD, List.getElem?_map, List.getElem?_range h]; rfl
theorem uy (t : Tab) (g d r b : Value) (i : Nat) (h : i < 131) : ah (ny t) g d r b i = ah t g d r b i := by
 unfold ah
 by_cases h1 : i < 104
 ·rw [if_pos h1, if_pos h1, uJ (by omega)]
 ·rw [if_neg h1, if_neg h1]
  by_cases k0 : i = 104
  ·rw [if_pos k0, if_pos k0]
  rw [if_neg k0, if_neg k0]
  by_cases k1 : i < 113
  ·rw [if_pos k1, if_pos k1, uX (by omega)]
  rw [if_neg k1, if_neg k1]
  by_cases k2 : i = 113
  ·rw [if_pos k2, if_pos k2]
  rw [if_neg k2, if_neg k2]
  by_cases k3 : i = 114
  ·rw [if_pos k3, if_pos k3]
  rw [if_neg k3, if_neg k3]
  by_cases k4 : i = 115
  ·rw [if_pos k4, if_pos k4]
  rw [if_neg k4, if_neg k4]
  by_cases k5 : i = 116
  ·rw [if_pos k5, if_pos k5]; rfl
  rw [if_neg k5, if_neg k5]
  by_cases k6 : i = 117
  ·rw [if_pos k6, if_pos k6]; rfl
  rw [if_neg k6, if_neg k6]
  by_cases k7 : i = 118
  ·rw [if_pos k7, if_pos k7]; rfl
  rw [if_neg k7, if_neg k7]
  by_cases k8 : i = 119
  ·rw [if_pos k8, if_pos k8]; rfl
  rw [if_neg k8, if_neg k8]
  by_cases k9 : i = 120
  ·rw [if_pos k9, if_pos k9]; rfl
  rw [if_neg k9, if_neg k9]
  by_cases k10 : i < 129
  ·rw [if_pos k10, if_pos k10, uE (by omega)]
  rw [if_neg k10, if_neg k10]
  by_cases k11 : i = 129
  ·rw [if_pos k11, if_pos k11]; rfl
  rw [if_neg k11, if_neg k11]; rfl
theorem ag.ofN {w : World} {T : Array Value} {t : Tab} (h : ag w T (ny t)) : ag w T t := by
 obtain ⟨g, d, r, b, rfl, hI⟩ := h
 refine ⟨g, d, r, b, gY (aE _ _) fun j hj => ?_, ⟨hI.gr, hI.de, hI.ra, hI.bu, hI.lg, hI.lr, hI.ld, hI.la, hI.lb⟩⟩
 rw [ab _ _ _ hj, uy _ _ _ _ _ _ hj]
theorem lN (f : Nat → Int) : (cx f).all (·.oneCell') = true := by
 unfold cx
 rw [Array.all_eq_true]
 intro i hi
 have h2 : i < 12 := by simpa [aE] using hi
 have := ab 12 (fun i => Value.int .i64 (f i)) i h2
 rw [Array.getElem?_eq_getElem hi] at this
 rw [Option.some.inj this]; rfl
theorem xn : d8 (fx bR) = some (ny bR) := ry bR pz (fun d hd => by
 obtain ⟨p, _, rfl⟩ := List.mem_map.1 (show d ∈ (List.range 8).map aZ from hd)
 unfold aZ; simp only; omega) (o6 pz)
theorem cH (w : World) : Calls Tryz.prog 13 #[] w fun e w' => e = .returned (.bool true) ∧ Below w.heap.size w w' := by
 have zt : aj.size = 131 := rfl
 have hsp := xT
 go_enter Tryz.func13, Tryz.ntmps13
 go_wp2_with fail
 go_at_call 27
 refine (act _).mono ?_
 rintro e w1 ⟨T, rfl, hT, hb1⟩
 haveI : Sz131 T := ⟨hT.size⟩
 haveI : LeSize w.heap.size w1 := ⟨hb1.size⟩
 go_wp2_with (first | (refine sg rfl rfl rfl rfl inferInstance hT rfl ?_; go_simp) | (refine aJ rfl rfl rfl ?_; go_simp))
 have hA0 := jt T bR (w1.alloc (.cells T 34)) (hT.below ((Below.refl _ _).alloc (Nat.le_refl _) _) (Nat.le_refl _))
 rw [xe] at hA0
 unfold rj at hA0
 have hBs : (cx (df bR)).size = 12 := aE _ _
 have hB1 : (cx (df bR)).all (·.oneCell') = true := lN _
 generalize cx (df bR) = BD at *
 have HBS := Lib.hid hBs
 clear hBs
 go_at_call 18
 refine (Up.run hA0).mono ?_
 clear hA0
 rintro e w' ⟨rfl, u2, rfl⟩
 haveI : Apart w1.heap.size u2.w.heap.size := ⟨by have := u2.bel.size; rw [World.size_alloc] at this; omega⟩
 haveI : Apart w1.heap.size (u2.w.heap.size + 1) := ⟨by have := u2.bel.size; rw [World.size_alloc] at this; omega⟩
 have hb2 : Below w.heap.size w u2.w := by exact yd
 haveI : LeSize w.heap.size u2.w := ⟨hb2.size⟩
 have hT2 : ag u2.w T bR := hT.below (((Below.refl _ _).alloc (Nat.le_refl _) _).trans (u2.bel.mono (by rw [World.size_alloc]; omega))) (Nat.le_refl _)
 have iT2 : IsBlk u2.w w1.heap.size T 34 := inferInstance
 haveI : LeSize (w1.heap.size + 1) u2.w := ⟨by have := u2.bel.size; rw [World.size_alloc] at this; omega⟩
 generalize u2.w = w2 at *
 clear u2
 haveI : Apart (w2.heap.size + 1) w2.heap.size := ⟨by omega⟩
 haveI : Apart w2.heap.size (w2.heap.size + 1) := ⟨by omega⟩
 go_upto_region 3 with (first | (refine ac (o := 0) (cs := BD) (C := #[.int .i64 0, .int .i64 0, .int .i64 0, .int .i64 0, .int .i64 0, .int .i64 0, .int .i64 0, .int .i64 0, .int .i64 0, .int .i64 0, .int .i64 0, .int .i64 0]) 45 rfl rfl rfl rfl (by rw [HBS.out]; decide) (by rw [HBS.out]; kernel_rfl) hB1 ?_; go_simp))
 have HD := Lib.hid xn
 go_wp2_with (first | (refine aJ rfl rfl rfl ?_; go_simp))
 refine qO (fun W' => Below w2.heap.size w2 W' ∧ IsBlk W' w1.heap.size T 34 ∧ IsBlk W' (w2.heap.size + 1) #[.int .i64 0, .int .i64 0] 37) ⟨by (repeat' (first | (with_reducible exact Below.refl _ _) | (with_reducible assumption) | (with_reducible refine al _ _ ?_ ?_) | (with_reducible refine Below.setCell ?_ ?_ _) | (with_reducible refine Below.alloc ?_ ?_ _) | (with_reducible refine Below.drew ?_) | (with_reducible refine Up.base _ ?_ ?_) | (with_reducible exact LeSize.out) | exact LeSize.out | exact Nat.le_add_right_of_le LeSize.out | (with_reducible exact Nat.le_refl _) | (simp; done) | (simp; omega))), inferInstance, IsBlk.cast inferInstance rfl⟩ ?_
 rintro W3 ⟨h23, iT3, iF3⟩
 have hT3 : ag W3 T bR := hT2.below h23 (Nat.le_refl _)
 have hb3 : Below w.heap.size w W3 := hb2.trans (h23.mono hb2.size)
 clear h23 iT2 hT2 hb2 HBS hB1
 go_at_call 17
 refine (aaz T bR W3 hT3 pz).mono ?_
 rintro e w4 ⟨v, rfl, hO, hb4⟩
 obtain ⟨a, cap, rfl, hBy⟩ := hO.opened
 have hcap := hO.caps rfl
 have hEl := o6 pz
 have hEb : aH (fx bR) := jX (jQ _)
 clear hO
 generalize fx bR = E at *
 have hT4 : ag w4 T bR := hT3.below hb4 (Nat.le_refl _)
 have hw4 : Below w.heap.size w w4 := hb3.trans (hb4.mono hb3.size)
 haveI iT4 : IsBlk w4 w1.heap.size T 34 := ⟨by rw [hb4.block _ (Array.getElem?_eq_some_iff.1 iT3.out).1]; exact iT3.out⟩
 haveI iF4 : IsBlk w4 (w2.heap.size + 1) #[.int .i64 0, .int .i64 0] 37 := ⟨by rw [hb4.block _ (Array.getElem?_eq_some_iff.1 iF3.out).1]; exact iF3.out⟩
 clear iT3 iF3 hb4 hb3 hT3
 go_wp2_with fail
 go_at_call 15
 refine (fU a cap E w4 (by omega) hcap.2 hcap.1 hBy hEb).mono ?_
 rw [HD.out]
 rintro e w5 ⟨T5, rfl, hT5, hb5⟩
 have hT5 := hT5.ofN
 haveI : Sz131 T5 := ⟨hT5.size⟩
 haveI iT5 : IsBlk w5 w1.heap.size T 34 := ⟨by rw [hb5.block _ (Array.getElem?_eq_some_iff.1 iT4.out).1]; exact iT4.out⟩
 haveI iF5 : IsBlk w5 (w2.heap.size + 1) #[.int .i64 0, .int .i64 0] 37 := ⟨by rw [hb5.block _ (Array.getElem?_eq_some_iff.1 iF4.out).1]; exact iF4.out⟩
 have hw5 : Below w.heap.size w w5 := hw4.trans (hb5.mono hw4.size)
 have hT4' : ag w5 T bR := hT4.below hb5 (Nat.le_refl _)
 have hl1 := (Array.getElem?_eq_some_iff.1 iT5.out).1
 have hl2 := (Array.getElem?_eq_some_iff.1 iF5.out).1
 have hlw := hb1.size
 clear hb5 iT4 iF4 hw4 hT4 HD hT
 have hone := hT5.one
 have hsz := hT5.size
 haveI : Apart w1.heap.size w5.heap.size := ⟨by omega⟩
 haveI : Apart w1.heap.size (w5.heap.size + 1) := ⟨by omega⟩
 haveI : Apart (w2.heap.size + 1) w5.heap.size := ⟨by omega⟩
 haveI : Apart (w2.heap.size + 1) (w5.heap.size + 1) := ⟨by omega⟩
 haveI : Apart w5.heap.size (w5.heap.size + 1) := ⟨by omega⟩
 haveI : Apart (w5.heap.size + 1) w5.heap.size := ⟨by omega⟩
 haveI : LeSize w.heap.size w5 := ⟨hw5.size⟩
 haveI : LeSize (w1.heap.size + 1) w5 := ⟨hl1⟩
 haveI : LeSize (w2.heap.size + 1 + 1) w5 := ⟨hl2⟩
 have HS5 := Lib.hid hsz
 have HT5 := Lib.hid hT5
 have HT4 := Lib.hid hT4'
 clear hsz hT5 hT4'
 go_upto_region 5 with (first | (refine ac (o := 0) (cs := T5) (C := aj) 34 rfl rfl rfl rfl (by rw [HS5.out]; decide) (by rw [HS5.out]; exact du) hone ?_; go_simp))
 refine eQ (fun W' => Below w5.heap.size w5 W' ∧ IsBlk W' w1.heap.size T 34 ∧ IsBlk W' (w2.heap.size + 1) #[.int .i64 0, .int .i64 0] 37 ∧ IsBlk W' w5.heap.size T5 34 ∧ IsBlk W' (w5.heap.size + 1) #[.int .i64 0, .int .i64 0] 37) ⟨by (repeat' (first | (with_reducible exact Below.refl _ _) | (with_reducible assumption) | (with_reducible refine al _ _ ?_ ?_) | (with_reducible refine Below.setCell ?_ ?_ _) | (with_reducible refine Below.alloc ?_ ?_ _) | (with_reducible refine Below.drew ?_) | (with_reducible refine Up.base _ ?_ ?_) | (with_reducible exact LeSize.out) | exact LeSize.out | exact Nat.le_add_right_of_le LeSize.out | (with_reducible exact Nat.le_refl _) | (simp; done) | (simp; omega))), inferInstance, inferInstance, IsBlk.cast inferInstance (yp (by rw [HS5.out]; rfl)), IsBlk.cast inferInstance rfl⟩ ?_
 rintro W6 ⟨h56, iT6, iF6, iU6, iG6⟩
 have hw6 : Below w.heap.size w W6 := hw5.trans (h56.mono hw5.size)
 have hpf := (HT4.out.isPh 0 (by omega))
 haveI : LeSize w.heap.size W6 := ⟨hw6.size⟩
 have hS := jR T T5 bR W6 (HT4.out.below h56 (Nat.le_refl _)) (HT5.out.below h56 (Nat.le_refl _))
 have h0 : T[0]? = some (.bool true) := by
  have := HT4.out.ph 0 0 (by omega) (by omega)
  rw [this]
  show some ((cy (bR.ph 0)).getD 0 undef) = _
  simp only [cy, List.getD_cons_zero, hsp]
 clear h56 hw5 hpf
 go_wp2_with (first | (refine aJ rfl rfl rfl ?_; go_simp) | (refine jn rfl rfl rfl ?_; go_simp) | (go_at_call 16; refine (Up.run hS).mono ?_; rintro e w' ⟨rfl, u6, rfl⟩))
 go_ret
 exact ⟨rfl, by exact yd⟩
end
end Go.Proofs.YtodgfjgljcinlaaGreat
