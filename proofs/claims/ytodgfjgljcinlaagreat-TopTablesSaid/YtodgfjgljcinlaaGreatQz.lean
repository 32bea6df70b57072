/- Part Qz of the proof: TopD. -/
import Derived.Test.YtodgfjgljcinlaaGreatQt
import Derived.Test.YtodgfjgljcinlaaGreatQy
import Derived.Test.YtodgfjgljcinlaaGreatQx
import Derived.Laws.Closers25b
namespace Go.Proofs.YtodgfjgljcinlaaGreat
set_option maxHeartbeats 8000000
set_option maxRecDepth 100000
set_option linter.unusedVariables false
section
open Go.RowKit
attribute [local go_sem] IsBlk.cell IsBlk.frozen
theorem IsBlk.bel {W W' : World} {b : Nat} {C : Array Value} {t : TypeId} (h : IsBlk W b C t) (hb : Below W.heap.size W W') : IsBlk W' b C t := ⟨by rw [hb.block _ (Array.getElem?_eq_some_iff.1 h.out).1]; exact h.out⟩
theorem aeu (zs : List Int) : kX (ye zs) := by
 intro d hd
 have h1 : d ∈ (List.range (ye zs).de.length).map fun j => zo zs (180 + 8 * ((ye zs).de.length - j)) (yf zs).1 := by
  have : (ye zs).de = deM zs (yf zs).1 (ye zs).de.length (ye zs).de.length := by
   have e : ∃ k, (ye zs).de = deM zs (yf zs).1 k k := ⟨_, rfl⟩
   obtain ⟨k, e⟩ := e
   rw [e]; simp [deM]
  rw [this] at hd; exact hd
 obtain ⟨j, _, rfl⟩ := List.mem_map.1 h1
 generalize 180 + 8 * ((ye zs).de.length - j) = i
 generalize (yf zs).1 = n
 have f4 := yh zs (i + 1) (n := 4) (by omega)
 have f3 := yh zs (i + 2) (n := 3) (by omega)
 have f5 := yh zs (i + 3) (n := 4) (by omega)
 have f6 := yh zs (i + 4) (n := 6) (by omega)
 simp only [zo]
 generalize fr zs (i + 1) 4 = a at *
 generalize fr zs (i + 2) 3 = b at *
 generalize fr zs (i + 3) 4 = c at *
 generalize fr zs (i + 4) 6 = d at *
 refine ⟨?_, ?_, ?_, ?_⟩
 ·rcases (show a = 0 ∨ a = 1 ∨ a = 2 ∨ a = 3 by omega) with rfl | rfl | rfl | rfl <;> decide +kernel
 ·rcases (show a = 0 ∨ a = 1 ∨ a = 2 ∨ a = 3 by omega) with rfl | rfl | rfl | rfl <;> rcases (show b = 0 ∨ b = 1 ∨ b = 2 by omega) with rfl | rfl | rfl <;> decide +kernel
 ·rcases (show c = 0 ∨ c = 1 ∨ c = 2 ∨ c = 3 by omega) with rfl | rfl | rfl | rfl <;> decide +kernel
 ·rcases (show d = 0 ∨ d = 1 ∨ d = 2 ∨ d = 3 ∨ d = 4 ∨ d = 5 by omega) with rfl | rfl | rfl | rfl | rfl | rfl <;> decide +kernel
theorem ae5 (x : Int) (h : 0 ≤ x ∧ x ≤ 255) : bits .xor .u8 x 0 = x := by
 have key : ∀ a : Fin 256, bits .xor .u8 (a.val : Int) 0 = (a.val : Int) := by decide +kernel
 have := key ⟨x.toNat, by omega⟩
 rwa [show ((x.toNat : Nat) : Int) = x by omega] at this
theorem yn.blk {w : World} {base : Nat} {v : Value} {zs : List Int} (h : yn w base v zs) (h0 : 0 < zs.length) : ∃ g cap C, v = .slice (some ⟨g, 0, none⟩) zs.length cap ∧ base ≤ g ∧ zs.length ≤ cap ∧ cap ≤ 9223372036854775807 ∧ IsBlk w g C 5 ∧ zs.length ≤ C.size ∧ ∀ i, i < zs.length → C[i]? = some (.int .u8 (zs.getD i 0)) := by
 obtain ⟨hl, h⟩ := h
 rcases h with ⟨_, h1⟩ | ⟨g, cap, cur, rfl, hb, hg, hc, hm, hs, ht⟩
 ·omega
 ·have hx : ∀ i, i < zs.length → cur[i]? = some (.int .u8 (zs.getD i 0)) := fun i hi => by
   have h2 : (cur.toList.take (zs.length * 1))[i]? = (zs.map (Value.int .u8))[i]? := by rw [ht]
   rw [List.getElem?_take_of_lt (by omega), List.getElem?_map, List.getElem?_eq_getElem hi, Array.getElem?_toList] at h2
   rw [h2]; simp [List.getD, List.getElem?_eq_getElem hi]
  exact ⟨g, cap, cur, rfl, hb, hc, by simpa [maxLen] using hm, ⟨hg⟩, by omega, hx⟩
theorem aH.set {l : List Int} (h : aH l) (i : Nat) {x : Int} (hx : 0 ≤ x ∧ x ≤ 255) : aH (l.set i x) := fun y hy => by
 rcases List.mem_or_eq_of_mem_set hy with h1 | rfl
 ·exact h y h1
 ·exact hx
theorem adR (l : List Int) (i : Nat) : l.set i (l.getD i 0) = l := by
 apply List.ext_getElem?
 intro k
 rw [List.getElem?_set]
 split
 ·rename_i h; subst h
  split
  ·rename_i h2; simp [List.getD, List.getElem?_eq_getElem h2]
  ·rename_i h2; rw [List.getElem?_eq_none (by omega)]
 ·rfl
theorem aeF {W : World} {g cap : Nat} {C C' : Array Value} {zs : List Int} {i : Nat} {x : Int} (h : IsBlk W g C' 5) (hC : C' = C.setIfInBounds i (.int .u8 x)) (hs : zs.length ≤ C.size) (hc : ∀ j, j < zs.length → C[j]? = some (.int .u8 (zs.getD j 0))) (hi : i < zs.length) (h1 : zs.length ≤ cap) (h2 : cap ≤ 9223372036854775807) : ug W (.slice (some ⟨g, 0, none⟩) zs.length cap) (zs.set i x) := by
 have hl : (zs.set i x).length = zs.length := List.length_set
 refine ⟨some ⟨g, 0, none⟩, cap, by rw [hl], ?_, fun h => (by cases h), by omega, h2⟩
 refine .inr ⟨g, 0, rfl, (Array.getElem?_eq_some_iff.1 h.out).1, fun j hj => ?_⟩
 rw [hl] at hj
 haveI := h
 rw [Nat.zero_add, IsBlk.cell (C := C'), hC, Array.getElem?_setIfInBounds]
 by_cases e : i = j
 ·subst e
  rw [if_pos rfl, if_pos (by omega)]
  simp [List.getD, hi]
 ·rw [if_neg e, hc j hj]
  simp [List.getD, e]
theorem aay (a : Option Addr) (cap : Nat) (zs : List Int) (k y : Int) (w : World) (hl : zs.length ≤ cap ∧ cap ≤ 9223372036854775807) (hh : wN w a cap) (hi : bQ w a zs) (hz : ∀ i, i < zs.length → db .i64 (zs.getD i 0)) (hk : db .i64 k) (hy : db .u8 y) :
  Calls Tryz.prog 4 #[.slice a zs.length cap, .int .i64 k, .int .u8 y] w fun e w' => e = .returned (.bool true) ∧ Below w.heap.size w w' := by
 have HA := Lib.hid (aet zs)
 have hlen : zs.length ≤ 9223372036854775807 := by omega
 have HTB := Lib.hid (ack a cap zs w hlen hi)
 have hy1 : 0 ≤ y ∧ y ≤ 255 := by unfold db at hy; simp only at hy; omega
 have HMAY := Lib.hid (acf zs)
 have HFLO := Lib.hid (aeu zs)
 generalize ye zs = t at *
 have HBD : Hid (∀ p : Nat, p < 8 → (0 < df t p ↔ (t.ph p).on = true) ∧ 0 ≤ df t p ∧ df t p < 2147483647) := Lib.hid fun p hp => ace (by rw [HA.out]) hp
 have HEL := Lib.hid (o6 HMAY.out)
 have HBL := Lib.hid (qN t)
 have HBY := Lib.hid (jQ t)
 have HDF := Lib.hid (ry t HMAY.out HFLO.out HEL.out)
 have hb0 : 0 < (dw t).length ∧ (dw t).length ≤ 2048 := by
  have h1 := HBL.out
  have h2 := HEL.out
  unfold fx ep at h2
  rw [List.length_append, aA] at h2
  omega
 clear hi hh hz hk hy hl hlen HMAY HFLO HEL HBL
 go_enter Tryz.func4, Tryz.ntmps4
 go_wp2_with fail
 go_at_call 21
 refine HTB.out.mono ?_
 rintro e w1 ⟨T, rfl, hT, hb1⟩
 clear HTB
 haveI : Sz131 T := ⟨hT.size⟩
 haveI : LeSize w.heap.size w1 := ⟨hb1.size⟩
 go_wp2_with (first | (refine sg rfl rfl rfl rfl inferInstance hT rfl ?_; go_simp) | (refine aJ rfl rfl rfl ?_; go_simp))
 refine qO (fun W' => Below w1.heap.size w1 W' ∧ IsBlk W' w1.heap.size T 34) ⟨by exact yd, inferInstance⟩ ?_
 rintro W2 ⟨h12, iT2⟩
 have hT2 := hT.below h12 (Nat.le_refl _)
 have hw2 : Below w.heap.size w W2 := hb1.trans (h12.mono hb1.size)
 go_at_call 22
 refine (acZ T t W2 hT2).mono ?_
 rintro e w3 ⟨v, rfl, hO, hb3⟩
 generalize hBB : dw t = BB at *
 have HBB := Lib.hid hBB
 clear hBB
 obtain ⟨g, bcap, C, rfl, hg1, vV, yb, iC, hCs, hC⟩ := hO.blk hb0.1
 clear hO
 have hw3 : Below w.heap.size w w3 := hw2.trans (hb3.mono hw2.size)
 have hT3 := hT2.below hb3 (Nat.le_refl _)
 haveI iT3 : IsBlk w3 w1.heap.size T 34 := ⟨by rw [hb3.block _ (Array.getElem?_eq_some_iff.1 iT2.out).1]; exact iT2.out⟩
 have hlT := (Array.getElem?_eq_some_iff.1 iT2.out).1
 haveI : Apart w1.heap.size g := ⟨by omega⟩
 haveI : Apart g w1.heap.size := ⟨by omega⟩
 have hgl := (Array.getElem?_eq_some_iff.1 iC.out).1
 haveI : LeSize w.heap.size w3 := ⟨hw3.size⟩
 have hgw : w.heap.size ≤ g := Nat.le_trans hw2.size hg1
 have h13 : Below w1.heap.size w1 w3 := h12.trans (hb3.mono h12.size)
 haveI : LeSize w1.heap.size w3 := ⟨h13.size⟩
 clear iT2 hT2 h12 hb3
 obtain ⟨i, hiB, hix⟩ : ∃ i : Nat, i < BB.length ∧ k % (BB.length : Int) = (i : Int) := ⟨(k % (BB.length : Int)).toNat, by
  have h1 := Int.emod_nonneg k (show (BB.length : Int) ≠ 0 by omega)
  have h2 := Int.emod_lt_of_pos k (show (0 : Int) < BB.length by omega)
  omega, by
  have h1 := Int.emod_nonneg k (show (BB.length : Int) ≠ 0 by omega)
  omega⟩
 have hiI : (i : Int) < BB.length := by omega
 have hCi := hC i hiB
 have HC := Lib.hid hC
 clear hC
 have hx0 : 0 ≤ BB.getD i 0 ∧ BB.getD i 0 ≤ 255 := HBY.out _ (by rw [List.getD_eq_getElem?_getD, List.getElem?_eq_getElem hiB]; exact List.getElem_mem hiB)
 have HX0 := Lib.hid hx0
 clear hx0
 generalize hxv : BB.getD i 0 = xv at *
 have HXV := Lib.hid hxv
 clear hxv
 have hPL := fun W' => acX k BB.length W' (by omega) (by omega)
 rw [hix] at hPL
 go_upto_region 4 with (go_at_call 23; refine (hPL _).mono ?_; rintro e w' ⟨rfl, rfl⟩)
 generalize hyv : bits .xor .u8 xv y = yv at *
 have hyb : 0 ≤ yv ∧ yv ≤ 255 := by rw [← hyv]; exact ⟨bits_lo_u8 _ _ _, bits_hi_u8 _ _ _⟩
 have HYV : Hid (y = 0 → yv = xv) := Lib.hid fun h => by rw [← hyv, h]; exact ae5 _ HX0.out
 clear hyv hPL
 refine eQ (fun W' => Below w1.heap.size w1 W' ∧ IsBlk W' w1.heap.size T 34 ∧ ug W' (.slice (some ⟨g, 0, none⟩) BB.length bcap) (BB.set i yv)) ⟨?_, ?_, ?_⟩ ?_
 ·exact yd
 ·infer_instance
 ·exact aeF (C := C) inferInstance rfl hCs HC.out hiB vV yb
 clear iT3 iC hT3 h13 hw3 hw2 hCi HC
 rintro W4 ⟨h14, iT4, hR4⟩
 have hT4 := hT.below h14 (Nat.le_refl _)
 have hw4 : Below w.heap.size w W4 := hb1.trans (h14.mono hb1.size)
 have hsl : (BB.set i yv).length = BB.length := List.length_set
 have HSE := Lib.hid (wD W4 (by rw [hsl]; omega) hR4 (HBY.out.set i hyb))
 have hyl : (ep (BB.set i yv)).length ≤ 3000 := by unfold ep; rw [List.length_append, aA, hsl]; omega
 have hyB : aH (ep (BB.set i yv)) := jX (HBY.out.set i hyb)
 have HYS : Hid (y = 0 → d8 (ep (BB.set i yv)) = some (ny t)) := Lib.hid fun h => by
  rw [HYV.out h, ← HXV.out, adR, ← HBB.out]
  exact HDF.out
 generalize ep (BB.set i yv) = ys at *
 clear hR4 hsl HYV HXV HX0 HDF HBB HBY hiI hiB hix hg1 vV yb hCs hgl hgw hT h14 hlT
 go_wp2_with fail
 go_at_call 14
 refine HSE.out.mono ?_
 clear HSE
 rintro e w5 ⟨v5, rfl, hR5, hb5⟩
 obtain ⟨a1, cap1, rfl, hB5, _, hcp⟩ := hR5
 have hT5 := hT4.below hb5 (Nat.le_refl _)
 have hw5 : Below w.heap.size w w5 := hw4.trans (hb5.mono hw4.size)
 haveI iT5 : IsBlk w5 w1.heap.size T 34 := ⟨by rw [hb5.block _ (Array.getElem?_eq_some_iff.1 iT4.out).1]; exact iT4.out⟩
 haveI : LeSize w.heap.size w5 := ⟨hw5.size⟩
 clear hT4 iT4 hb5 hw4
 have HD := Lib.hid (fU a1 cap1 ys w5 (by omega) hcp.2 hcp.1 hB5 hyB)
 cases hdec : d8 ys with
 | none =>
  have hy0 : (y == 0) = false := by
   have h0 : y ≠ 0 := fun h => by have := HYS.out h; rw [hdec] at this; cases this
   simpa using h0
  rw [hdec] at HD
  have hbt := gx
  go_wp2_with fail
  go_at_call 15
  refine HD.out.mono ?_
  obtain ⟨Z, hZ⟩ : ∃ Z, aj = Z := ⟨_, rfl⟩
  rintro e w6 ⟨c, f, he, hc, hf0, hfl, hb6⟩
  rw [hZ] at he
  subst he
  clear HD
  have HZS : Hid (Z.size = 131) := Lib.hid (by rw [← hZ]; rfl)
  have hone : Z.all (·.oneCell') = true := by rw [← hZ]; exact jm
  haveI : Sz131 Z := ⟨HZS.out⟩
  clear hZ
  have hcb : (c != 0) = true := by simpa using hc
  clear hc hf0 hfl
  have hT6 := hT5.below hb6 (Nat.le_refl _)
  have hw6 : Below w.heap.size w w6 := hw5.trans (hb6.mono hw5.size)
  haveI iT6 : IsBlk w6 w1.heap.size T 34 := ⟨by rw [hb6.block _ (Array.getElem?_eq_some_iff.1 iT5.out).1]; exact iT5.out⟩
  haveI : LeSize w.heap.size w6 := ⟨hw6.size⟩
  have hl6 := (Array.getElem?_eq_some_iff.1 iT6.out).1
  haveI : Apart w6.heap.size (w6.heap.size + 1) := ⟨by omega⟩
  haveI : Apart (w6.heap.size + 1) w6.heap.size := ⟨by omega⟩
  haveI : Apart w1.heap.size w6.heap.size := ⟨by omega⟩
  haveI : Apart w1.heap.size (w6.heap.size + 1) := ⟨by omega⟩
  clear hb6 iT5 hT5 hw5 hB5 HYS hdec hcp hyl hyB
  go_upto_region 5 with (first | (refine ac (o := 0) (cs := Z) (C := aj) 34 rfl rfl rfl rfl (by rw [HZS.out]; decide) (by rw [HZS.out]; exact du) hone ?_; go_simp))
  refine eQ (fun W' => Below w6.heap.size w6 W' ∧ IsBlk W' w1.heap.size T 34 ∧ IsBlk W' w6.heap.size Z 34 ∧ IsBlk W' (w6.heap.size + 1) #[.int .i64 c, .int .i64 f] 37) ⟨by (repeat' (first | (with_reducible exact Below.refl _ _) | (with_reducible assumption) | (with_reducible refine al _ _ ?_ ?_) | (with_reducible refine Below.setCell ?_ ?_ _) | (with_reducible refine Below.alloc ?_ ?_ _) | (with_reducible refine Below.drew ?_) | (with_reducible refine Up.base _ ?_ ?_) | (with_reducible exact LeSize.out) | exact LeSize.out | exact Nat.le_add_right_of_le LeSize.out | (with_reducible exact Nat.le_refl _) | (simp; done) | (simp; omega))), inferInstance, IsBlk.cast inferInstance (yp (by rw [HZS.out]; rfl)), IsBlk.cast inferInstance rfl⟩ ?_
  rintro W7 ⟨h67, iT7, iU7, iF7⟩
  have hT7 := hT6.below h67 (Nat.le_refl _)
  have hw7 : Below w.heap.size w W7 := hw6.trans (h67.mono hw6.size)
  haveI : LeSize w.heap.size W7 := ⟨hw7.size⟩
  clear h67 hT6 hw6 iT6 hone 
  go_wp2_with (first | (refine aJ rfl rfl rfl ?_; go_simp))
  go_at_call 18
  refine (jt T t W7 hT7).mono ?_
  rw [HA.out]
  unfold rj
  have HBG : Hid (∀ j : Nat, j < 8 → (cx (df t))[j]? = some (.int .i64 (df t j))) := Lib.hid fun j hj => cY _ j (by omega)
  have hBs : (cx (df t)).size = 12 := aE _ _
  have hB1BD : (cx (df t)).all (·.oneCell') = true := lN _
  generalize cx (df t) = BD at *
  have HBSBD := Lib.hid hBs
  clear hBs
  rintro e w8 ⟨rfl, hb8⟩
  have hw8 : Below w.heap.size w w8 := hw7.trans (hb8.mono hw7.size)
  have hT8 := hT7.below hb8 (Nat.le_refl _)
  haveI iT8 : IsBlk w8 w1.heap.size T 34 := ⟨by rw [hb8.block _ (Array.getElem?_eq_some_iff.1 iT7.out).1]; exact iT7.out⟩
  haveI iU8 : IsBlk w8 w6.heap.size Z 34 := ⟨by rw [hb8.block _ (Array.getElem?_eq_some_iff.1 iU7.out).1]; exact iU7.out⟩
  haveI iF8 : IsBlk w8 (w6.heap.size + 1) #[.int .i64 c, .int .i64 f] 37 := ⟨by rw [hb8.block _ (Array.getElem?_eq_some_iff.1 iF7.out).1]; exact iF7.out⟩
  haveI : LeSize w.heap.size w8 := ⟨hw8.size⟩
  have l81 := (Array.getElem?_eq_some_iff.1 iT8.out).1
  have l82 := (Array.getElem?_eq_some_iff.1 iU8.out).1
  have l83 := (Array.getElem?_eq_some_iff.1 iF8.out).1
  haveI : Apart w8.heap.size (w8.heap.size + 1) := ⟨by omega⟩
  haveI : Apart (w8.heap.size + 1) w8.heap.size := ⟨by omega⟩
  haveI : Apart w1.heap.size w8.heap.size := ⟨by omega⟩
  haveI : Apart w1.heap.size (w8.heap.size + 1) := ⟨by omega⟩
  haveI : Apart w6.heap.size w8.heap.size := ⟨by omega⟩
  haveI : Apart w6.heap.size (w8.heap.size + 1) := ⟨by omega⟩
  haveI : Apart (w6.heap.size + 1) w8.heap.size := ⟨by omega⟩
  haveI : Apart (w6.heap.size + 1) (w8.heap.size + 1) := ⟨by omega⟩
  clear hb8 iT7 iU7 iF7 hT7 hw7 
  go_upto_region 6 with (first | (refine ac (o := 0) (cs := BD) (C := #[.int .i64 0, .int .i64 0, .int .i64 0, .int .i64 0, .int .i64 0, .int .i64 0, .int .i64 0, .int .i64 0, .int .i64 0, .int .i64 0, .int .i64 0, .int .i64 0]) 45 rfl rfl rfl rfl (by rw [HBSBD.out]; decide) (by rw [HBSBD.out]; kernel_rfl) hB1BD ?_; go_simp))
  refine eQ (fun W' => Below w8.heap.size w8 W' ∧ IsBlk W' w1.heap.size T 34 ∧ IsBlk W' w6.heap.size Z 34 ∧ IsBlk W' (w6.heap.size + 1) #[.int .i64 c, .int .i64 f] 37 ∧ IsBlk W' w8.heap.size BD 45 ∧ IsBlk W' (w8.heap.size + 1) #[.int .i64 0, .int .i64 0] 37) ⟨by (repeat' (first | (with_reducible exact Below.refl _ _) | (with_reducible assumption) | (with_reducible refine al _ _ ?_ ?_) | (with_reducible refine Below.setCell ?_ ?_ _) | (with_reducible refine Below.alloc ?_ ?_ _) | (with_reducible refine Below.drew ?_) | (with_reducible refine Up.base _ ?_ ?_) | (with_reducible exact LeSize.out) | exact LeSize.out | exact Nat.le_add_right_of_le LeSize.out | (with_reducible exact Nat.le_refl _) | (simp; done) | (simp; omega))), inferInstance, inferInstance, inferInstance, IsBlk.cast inferInstance (yp (by rw [HBSBD.out]; rfl)), IsBlk.cast inferInstance rfl⟩ ?_
  rintro W9 ⟨h89, iT, iU, iF, iB, iG⟩
  have hT9 := hT8.below h89 (Nat.le_refl _)
  have hw9 : Below w.heap.size w W9 := hw8.trans (h89.mono hw8.size)
  haveI : LeSize w.heap.size W9 := ⟨hw9.size⟩
  have lT := iT.le
  have lU := iU.le
  have lF := iF.le
  have lB := iB.le
  have lG := iG.le
  have HON : Hid (∀ j : Nat, j < 8 → T[j * 13]? = some (.bool (t.ph j).on)) := Lib.hid fun j hj => by
   have := hT9.ph j 0 hj (by omega)
   rw [Nat.add_zero, Nat.mul_comm] at this
   rw [this]; rfl
  clear hT8 hw8 iT8 iU8 iF8 hB1BD HBSBD 
  go_wp2
  go_loopw [13] (fun i wr => ∃ j : Nat, j ≤ 8 ∧ i = .int .i64 j ∧ Below W9.heap.size W9 wr) (fun i _ => 8 - (intOf i).toNat)
  case atStart => exact ⟨0, by omega, rfl, by first | exact Below.refl _ _ | all_goals try exact yd⟩
  case round =>
   obtain ⟨j, hj, rfl, hbr⟩ := hrel
   have iTr := iT.bel hbr
   have iUr := iU.bel hbr
   have iFr := iF.bel hbr
   have iBr := iB.bel hbr
   have iGr := iG.bel hbr
   haveI : LeSize W9.heap.size wr := ⟨hbr.size⟩
   by_cases hlt : j < 8
   ·have hjI : (j : Int) < 8 := by omega
    have hx := HBD.out j hlt
    have hg := HBG.out j hlt
    have ho := HON.out j hlt
    generalize df t j = x at *
    generalize (t.ph j).on = on at *
    obtain ⟨x0, x1, x2⟩ := hx
    cases on
    ·have x3 : ¬ 0 < x := fun h => by have := x0.1 h; cases this
     have x4 : decide (0 < x) = false := decide_eq_false x3
     clear x0
     go_wp2
     (refine ai (by kernel_rfl) (by kernel_rfl) ?_; (repeat (first | go_big_quiet_step ((first | fail)))); refine wpQuiet_nil ?_; rintro _ ⟨u, rfl⟩)
     go_wp2
     go_roundw
     case rel => exact ⟨j + 1, by omega, by go_num, by exact yd⟩
     case measure => simp [intOf]; omega
    ·have x3 : 0 < x := x0.2 rfl
     have x4 : decide (0 < x) = true := decide_eq_true x3
     clear x0
     go_wp2
     (refine ai (by kernel_rfl) (by kernel_rfl) ?_; (repeat (first | go_big_quiet_step ((first | fail)))); refine wpQuiet_nil ?_; rintro _ ⟨u, rfl⟩)
     go_wp2
     go_roundw
     case rel => exact ⟨j + 1, by omega, by go_num, by exact yd⟩
     case measure => simp [intOf]; omega
   ·obtain rfl : j = 8 := by omega
    have hbw := hw9.trans (hbr.mono hw9.size)
    haveI : LeSize w.heap.size wr := ⟨hbw.size⟩
    go_wp2_with (go_at_call 13; refine (Up.run (cH _)).mono ?_; rintro e w' ⟨rfl, uaw, rfl⟩)
    go_ret
    exact ⟨rfl, by exact yd⟩
 | some t2 =>
  rw [hdec] at HD
  have hbt := gx
  go_wp2_with fail
  go_at_call 15
  refine HD.out.mono ?_
  rintro e w6 ⟨T2, rfl, hU6, hb6⟩
  clear HD
  have HZS : Hid (T2.size = 131) := Lib.hid hU6.size
  have hone := hU6.one
  haveI : Sz131 T2 := ⟨HZS.out⟩
  have HYD : Hid (y = 0 → t2 = ny t) := Lib.hid fun h => by have := HYS.out h; rw [hdec] at this; exact Option.some.inj this
  have hT6 := hT5.below hb6 (Nat.le_refl _)
  have hw6 : Below w.heap.size w w6 := hw5.trans (hb6.mono hw5.size)
  haveI iT6 : IsBlk w6 w1.heap.size T 34 := ⟨by rw [hb6.block _ (Array.getElem?_eq_some_iff.1 iT5.out).1]; exact iT5.out⟩
  haveI : LeSize w.heap.size w6 := ⟨hw6.size⟩
  have hl6 := (Array.getElem?_eq_some_iff.1 iT6.out).1
  haveI : Apart w6.heap.size (w6.heap.size + 1) := ⟨by omega⟩
  haveI : Apart (w6.heap.size + 1) w6.heap.size := ⟨by omega⟩
  haveI : Apart w1.heap.size w6.heap.size := ⟨by omega⟩
  haveI : Apart w1.heap.size (w6.heap.size + 1) := ⟨by omega⟩
  clear hb6 iT5 hT5 hw5 hB5 HYS hdec hcp hyl hyB
  go_upto_region 5 with (first | (refine ac (o := 0) (cs := T2) (C := aj) 34 rfl rfl rfl rfl (by rw [HZS.out]; decide) (by rw [HZS.out]; exact du) hone ?_; go_simp))
  refine eQ (fun W' => Below w6.heap.size w6 W' ∧ IsBlk W' w1.heap.size T 34 ∧ IsBlk W' w6.heap.size T2 34 ∧ IsBlk W' (w6.heap.size + 1) #[.int .i64 0, .int .i64 0] 37) ⟨by (repeat' (first | (with_reducible exact Below.refl _ _) | (with_reducible assumption) | (with_reducible refine al _ _ ?_ ?_) | (with_reducible refine Below.setCell ?_ ?_ _) | (with_reducible refine Below.alloc ?_ ?_ _) | (with_reducible refine Below.drew ?_) | (with_reducible refine Up.base _ ?_ ?_) | (with_reducible exact LeSize.out) | exact LeSize.out | exact Nat.le_add_right_of_le LeSize.out | (with_reducible exact Nat.le_refl _) | (simp; done) | (simp; omega))), inferInstance, IsBlk.cast inferInstance (yp (by rw [HZS.out]; rfl)), IsBlk.cast inferInstance rfl⟩ ?_
  rintro W7 ⟨h67, iT7, iU7, iF7⟩
  have hT7 := hT6.below h67 (Nat.le_refl _)
  have hw7 : Below w.heap.size w W7 := hw6.trans (h67.mono hw6.size)
  haveI : LeSize w.heap.size W7 := ⟨hw7.size⟩
  have hU7 := hU6.below h67 (Nat.le_refl _)
  clear h67 hT6 hw6 iT6 hone hU6
  go_wp2_with (first | (refine aJ rfl rfl rfl ?_; go_simp))
  go_at_call 18
  refine (jt T t W7 hT7).mono ?_
  rw [HA.out]
  unfold rj
  have HBG : Hid (∀ j : Nat, j < 8 → (cx (df t))[j]? = some (.int .i64 (df t j))) := Lib.hid fun j hj => cY _ j (by omega)
  have hBs : (cx (df t)).size = 12 := aE _ _
  have hB1BD : (cx (df t)).all (·.oneCell') = true := lN _
  generalize cx (df t) = BD at *
  have HBSBD := Lib.hid hBs
  clear hBs
  rintro e w8 ⟨rfl, hb8⟩
  have hw8 : Below w.heap.size w w8 := hw7.trans (hb8.mono hw7.size)
  have hT8 := hT7.below hb8 (Nat.le_refl _)
  haveI iT8 : IsBlk w8 w1.heap.size T 34 := ⟨by rw [hb8.block _ (Array.getElem?_eq_some_iff.1 iT7.out).1]; exact iT7.out⟩
  haveI iU8 : IsBlk w8 w6.heap.size T2 34 := ⟨by rw [hb8.block _ (Array.getElem?_eq_some_iff.1 iU7.out).1]; exact iU7.out⟩
  haveI iF8 : IsBlk w8 (w6.heap.size + 1) #[.int .i64 0, .int .i64 0] 37 := ⟨by rw [hb8.block _ (Array.getElem?_eq_some_iff.1 iF7.out).1]; exact iF7.out⟩
  haveI : LeSize w.heap.size w8 := ⟨hw8.size⟩
  have l81 := (Array.getElem?_eq_some_iff.1 iT8.out).1
  have l82 := (Array.getElem?_eq_some_iff.1 iU8.out).1
  have l83 := (Array.getElem?_eq_some_iff.1 iF8.out).1
  haveI : Apart w8.heap.size (w8.heap.size + 1) := ⟨by omega⟩
  haveI : Apart (w8.heap.size + 1) w8.heap.size := ⟨by omega⟩
  haveI : Apart w1.heap.size w8.heap.size := ⟨by omega⟩
  haveI : Apart w1.heap.size (w8.heap.size + 1) := ⟨by omega⟩
  haveI : Apart w6.heap.size w8.heap.size := ⟨by omega⟩
  haveI : Apart w6.heap.size (w8.heap.size + 1) := ⟨by omega⟩
  haveI : Apart (w6.heap.size + 1) w8.heap.size := ⟨by omega⟩
  haveI : Apart (w6.heap.size + 1) (w8.heap.size + 1) := ⟨by omega⟩
  have hU8 := hU7.below hb8 (Nat.le_refl _)
  clear hb8 iT7 iU7 iF7 hT7 hw7 hU7
  go_upto_region 6 with (first | (refine ac (o := 0) (cs := BD) (C := #[.int .i64 0, .int .i64 0, .int .i64 0, .int .i64 0, .int .i64 0, .int .i64 0, .int .i64 0, .int .i64 0, .int .i64 0, .int .i64 0, .int .i64 0, .int .i64 0]) 45 rfl rfl rfl rfl (by rw [HBSBD.out]; decide) (by rw [HBSBD.out]; kernel_rfl) hB1BD ?_; go_simp))
  refine eQ (fun W' => Below w8.heap.size w8 W' ∧ IsBlk W' w1.heap.size T 34 ∧ IsBlk W' w6.heap.size T2 34 ∧ IsBlk W' (w6.heap.size + 1) #[.int .i64 0, .int .i64 0] 37 ∧ IsBlk W' w8.heap.size BD 45 ∧ IsBlk W' (w8.heap.size + 1) #[.int .i64 0, .int .i64 0] 37) ⟨by (repeat' (first | (with_reducible exact Below.refl _ _) | (with_reducible assumption) | (with_reducible refine al _ _ ?_ ?_) | (with_reducible refine Below.setCell ?_ ?_ _) | (with_reducible refine Below.alloc ?_ ?_ _) | (with_reducible refine Below.drew ?_) | (with_reducible refine Up.base _ ?_ ?_) | (with_reducible exact LeSize.out) | exact LeSize.out | exact Nat.le_add_right_of_le LeSize.out | (with_reducible exact Nat.le_refl _) | (simp; done) | (simp; omega))), inferInstance, inferInstance, inferInstance, IsBlk.cast inferInstance (yp (by rw [HBSBD.out]; rfl)), IsBlk.cast inferInstance rfl⟩ ?_
  rintro W9 ⟨h89, iT, iU, iF, iB, iG⟩
  have hT9 := hT8.below h89 (Nat.le_refl _)
  have hw9 : Below w.heap.size w W9 := hw8.trans (h89.mono hw8.size)
  haveI : LeSize w.heap.size W9 := ⟨hw9.size⟩
  have lT := iT.le
  have lU := iU.le
  have lF := iF.le
  have lB := iB.le
  have lG := iG.le
  have HON : Hid (∀ j : Nat, j < 8 → T[j * 13]? = some (.bool (t.ph j).on)) := Lib.hid fun j hj => by
   have := hT9.ph j 0 hj (by omega)
   rw [Nat.add_zero, Nat.mul_comm] at this
   rw [this]; rfl
  have hU9 := hU8.below h89 (Nat.le_refl _)
  clear hU8 hT8 hw8 iT8 iU8 iF8 hB1BD HBSBD 
  by_cases hy0 : y = 0
  ·subst hy0
   have hSM := jR T T2 t W9 hT9 (ag.ofN (HYD.out rfl ▸ hU9))
   go_wp2_with (first | (refine jn rfl rfl rfl ?_; go_simp) | (go_at_call 16; refine (Up.run hSM).mono ?_; rintro e w' ⟨rfl, uS, rfl⟩))
   clear hSM HYD
   go_loopw [13] (fun i wr => ∃ j : Nat, j ≤ 8 ∧ i = .int .i64 j ∧ Below W9.heap.size W9 wr) (fun i _ => 8 - (intOf i).toNat)
   case atStart => exact ⟨0, by omega, rfl, by first | exact Below.refl _ _ | all_goals try exact yd⟩
   case round =>
    obtain ⟨j, hj, rfl, hbr⟩ := hrel
    have iTr := iT.bel hbr
    have iUr := iU.bel hbr
    have iFr := iF.bel hbr
    have iBr := iB.bel hbr
    have iGr := iG.bel hbr
    haveI : LeSize W9.heap.size wr := ⟨hbr.size⟩
    by_cases hlt : j < 8
    ·have hjI : (j : Int) < 8 := by omega
     have hx := HBD.out j hlt
     have hg := HBG.out j hlt
     have ho := HON.out j hlt
     generalize df t j = x at *
     generalize (t.ph j).on = on at *
     obtain ⟨x0, x1, x2⟩ := hx
     cases on
     ·have x3 : ¬ 0 < x := fun h => by have := x0.1 h; cases this
      have x4 : decide (0 < x) = false := decide_eq_false x3
      clear x0
      go_wp2
      (refine ai (by kernel_rfl) (by kernel_rfl) ?_; (repeat (first | go_big_quiet_step ((first | fail)))); refine wpQuiet_nil ?_; rintro _ ⟨u, rfl⟩)
      go_wp2
      go_roundw
      case rel => exact ⟨j + 1, by omega, by go_num, by exact yd⟩
      case measure => simp [intOf]; omega
     ·have x3 : 0 < x := x0.2 rfl
      have x4 : decide (0 < x) = true := decide_eq_true x3
      clear x0
      go_wp2
      (refine ai (by kernel_rfl) (by kernel_rfl) ?_; (repeat (first | go_big_quiet_step ((first | fail)))); refine wpQuiet_nil ?_; rintro _ ⟨u, rfl⟩)
      go_wp2
      go_roundw
      case rel => exact ⟨j + 1, by omega, by go_num, by exact yd⟩
      case measure => simp [intOf]; omega
    ·obtain rfl : j = 8 := by omega
     have hbw := hw9.trans (hbr.mono hw9.size)
     haveI : LeSize w.heap.size wr := ⟨hbw.size⟩
     clear HBG HBD HON hw9
     have hUr := hU9.below hbr (Nat.le_refl _)
     have HAN : Hid (∀ p : Nat, p < 8 → (dR t2).1 = 0 → (0 < df t2 p ↔ (t2.ph p).on = true) ∧ 0 ≤ df t2 p ∧ df t2 p < 2147483647) := Lib.hid fun p hp h => ace h hp
     have HAE : Hid (∀ k : Nat, (dR t2).1 = 0 → df t2 (8 + k) < 2147483647) := Lib.hid fun k h => aa6 h k
     have HUN : Hid (∀ j : Nat, j < 8 → T2[j * 13]? = some (.bool (t2.ph j).on)) := Lib.hid fun j hj => by
      have := hUr.ph j 0 hj (by omega)
      rw [Nat.add_zero, Nat.mul_comm] at this
      rw [this]; rfl
     go_wp2_with (first | (refine aJ rfl rfl rfl ?_; go_simp))
     go_at_call 18
     refine (jt T2 t2 wr hUr).mono ?_
     unfold rj
     have HB2 : Hid (∀ j : Nat, j < 12 → (cx (df t2))[j]? = some (.int .i64 (df t2 j))) := Lib.hid fun j hj => cY _ j hj
     have hBs : (cx (df t2)).size = 12 := aE _ _
     have hB1B2 : (cx (df t2)).all (·.oneCell') = true := lN _
     generalize cx (df t2) = B2 at *
     have HBSB2 := Lib.hid hBs
     clear hBs
     generalize dR t2 = FA at *
     obtain ⟨gc, ga⟩ := FA
     rintro e w10 ⟨rfl, hb10⟩
     have hw10 : Below w.heap.size w w10 := hbw.trans (hb10.mono hbw.size)
     have iU10 := iUr.bel hb10
     haveI : LeSize w.heap.size w10 := ⟨hw10.size⟩
     have l102 := (Array.getElem?_eq_some_iff.1 iU10.out).1
     haveI : Apart w10.heap.size (w10.heap.size + 1) := ⟨by omega⟩
     haveI : Apart (w10.heap.size + 1) w10.heap.size := ⟨by omega⟩
     haveI : Apart w6.heap.size w10.heap.size := ⟨by omega⟩
     haveI : Apart w6.heap.size (w10.heap.size + 1) := ⟨by omega⟩
     clear hb10 hUr iTr iUr iFr iBr iGr lT lU lF lB lG hbr iT iU iF iB iG hT9 hU9
     go_upto_region 16 with (first | (refine ac (o := 0) (cs := B2) (C := #[.int .i64 0, .int .i64 0, .int .i64 0, .int .i64 0, .int .i64 0, .int .i64 0, .int .i64 0, .int .i64 0, .int .i64 0, .int .i64 0, .int .i64 0, .int .i64 0]) 45 rfl rfl rfl rfl (by rw [HBSB2.out]; decide) (by rw [HBSB2.out]; kernel_rfl) hB1B2 ?_; go_simp))
     refine eQ (fun W' => Below w10.heap.size w10 W' ∧ IsBlk W' w6.heap.size T2 34 ∧ IsBlk W' w10.heap.size B2 45 ∧ IsBlk W' (w10.heap.size + 1) #[.int .i64 gc, .int .i64 ga] 37) ⟨by (repeat' (first | (with_reducible exact Below.refl _ _) | (with_reducible assumption) | (with_reducible refine al _ _ ?_ ?_) | (with_reducible refine Below.setCell ?_ ?_ _) | (with_reducible refine Below.alloc ?_ ?_ _) | (with_reducible refine Below.drew ?_) | (with_reducible refine Up.base _ ?_ ?_) | (with_reducible exact LeSize.out) | exact LeSize.out | exact Nat.le_add_right_of_le LeSize.out | (with_reducible exact Nat.le_refl _) | (simp; done) | (simp; omega))), inferInstance, IsBlk.cast inferInstance (yp (by rw [HBSB2.out]; rfl)), IsBlk.cast inferInstance rfl⟩ ?_
     rintro W11 ⟨h1011, jU, jB, jG⟩
     have hw11 : Below w.heap.size w W11 := hw10.trans (h1011.mono hw10.size)
     haveI : LeSize w.heap.size W11 := ⟨hw11.size⟩
     have mU := jU.le
     have mB := jB.le
     have mG := jG.le
     clear h1011 hw10 iU10 hB1B2 HBSB2
     go_wp2
     go_loopw [16] (fun i wq => ∃ j : Nat, j ≤ 8 ∧ i = .int .i64 j ∧ Below W11.heap.size W11 wq) (fun i _ => 8 - (intOf i).toNat)
     case atStart => exact ⟨0, by omega, rfl, by first | exact Below.refl _ _ | all_goals try exact yd⟩
     case round =>
      obtain ⟨q, hq, rfl, hbq⟩ := hrel
      have jUr := jU.bel hbq
      have jBr := jB.bel hbq
      have jGr := jG.bel hbq
      have hbw2 := hw11.trans (hbq.mono hw11.size)
      haveI : LeSize W11.heap.size wr := ⟨hbq.size⟩
      haveI : LeSize w.heap.size wr := ⟨hbw2.size⟩
      by_cases hlt : q < 8
      ·have hqI : (q : Int) < 8 := by omega
       by_cases hgc : gc = 0
       ·subst hgc
        have hx := HAN.out q hlt rfl
        have hy := HAE.out (q / 2) rfl
        have hg := HB2.out q (by omega)
        have vV := HB2.out (8 + q / 2) (by omega)
        have ho := HUN.out q hlt
        generalize df t2 (8 + q / 2) = y2 at *
        generalize df t2 q = x at *
        generalize (t2.ph q).on = on at *
        obtain ⟨x0, x1, x2⟩ := hx
        cases on
        ·have x3 : ¬ 0 < x := fun h => by have := x0.1 h; cases this
         have x4 : decide (0 < x) = false := decide_eq_false x3
         have x5 : decide (2147483647 ≤ x) = false := decide_eq_false (by omega)
         clear x0
         go_wp2
         (refine ai (by kernel_rfl) (by kernel_rfl) ?_; (repeat (first | go_big_quiet_step ((first | fail)))); refine wpQuiet_nil ?_; rintro _ ⟨u, rfl⟩)
         go_wp2
         go_roundw
         case rel => exact ⟨q + 1, by omega, by go_num, by exact yd⟩
         case measure => simp [intOf]; omega
        ·have x3 : 0 < x := x0.2 rfl
         have x4 : decide (0 < x) = true := decide_eq_true x3
         have x5 : decide (2147483647 ≤ x) = false := decide_eq_false (by omega)
         clear x0
         go_wp2
         (refine ai (by kernel_rfl) (by kernel_rfl) ?_; (repeat (first | go_big_quiet_step ((first | fail)))); refine wpQuiet_nil ?_; rintro _ ⟨u, rfl⟩)
         go_wp2
         go_roundw
         case rel => exact ⟨q + 1, by omega, by go_num, by exact yd⟩
         case measure => simp [intOf]; omega
       ·have hgb : (gc == 0) = false := by simpa using hgc
        go_wp2_with (go_at_call 13; refine (Up.run (cH _)).mono ?_; rintro e w' ⟨rfl, uaw, rfl⟩)
        go_ret
        exact ⟨rfl, by exact yd⟩
      ·obtain rfl : q = 8 := by omega
       go_wp2_with (go_at_call 13; refine (Up.run (cH _)).mono ?_; rintro e w' ⟨rfl, uaw, rfl⟩)
       go_ret
       exact ⟨rfl, by exact yd⟩
  ·have hyb : (y == 0) = false := by simpa using hy0
   go_wp2
   go_loopw [13] (fun i wr => ∃ j : Nat, j ≤ 8 ∧ i = .int .i64 j ∧ Below W9.heap.size W9 wr) (fun i _ => 8 - (intOf i).toNat)
   case atStart => exact ⟨0, by omega, rfl, by first | exact Below.refl _ _ | all_goals try exact yd⟩
   case round =>
    obtain ⟨j, hj, rfl, hbr⟩ := hrel
    have iTr := iT.bel hbr
    have iUr := iU.bel hbr
    have iFr := iF.bel hbr
    have iBr := iB.bel hbr
    have iGr := iG.bel hbr
    haveI : LeSize W9.heap.size wr := ⟨hbr.size⟩
    by_cases hlt : j < 8
    ·have hjI : (j : Int) < 8 := by omega
     have hx := HBD.out j hlt
     have hg := HBG.out j hlt
     have ho := HON.out j hlt
     generalize df t j = x at *
     generalize (t.ph j).on = on at *
     obtain ⟨x0, x1, x2⟩ := hx
     cases on
     ·have x3 : ¬ 0 < x := fun h => by have := x0.1 h; cases this
      have x4 : decide (0 < x) = false := decide_eq_false x3
      clear x0
      go_wp2
      (refine ai (by kernel_rfl) (by kernel_rfl) ?_; (repeat (first | go_big_quiet_step ((first | fail)))); refine wpQuiet_nil ?_; rintro _ ⟨u, rfl⟩)
      go_wp2
      go_roundw
      case rel => exact ⟨j + 1, by omega, by go_num, by exact yd⟩
      case measure => simp [intOf]; omega
     ·have x3 : 0 < x := x0.2 rfl
      have x4 : decide (0 < x) = true := decide_eq_true x3
      clear x0
      go_wp2
      (refine ai (by kernel_rfl) (by kernel_rfl) ?_; (repeat (first | go_big_quiet_step ((first | fail)))); refine wpQuiet_nil ?_; rintro _ ⟨u, rfl⟩)
      go_wp2
      go_roundw
      case rel => exact ⟨j + 1, by omega, by go_num, by exact yd⟩
      case measure => simp [intOf]; omega
    ·obtain rfl : j = 8 := by omega
     have hbw := hw9.trans (hbr.mono hw9.size)
     haveI : LeSize w.heap.size wr := ⟨hbw.size⟩
     clear HBG HBD HON hw9
     have hUr := hU9.below hbr (Nat.le_refl _)
     have HAN : Hid (∀ p : Nat, p < 8 → (dR t2).1 = 0 → (0 < df t2 p ↔ (t2.ph p).on = true) ∧ 0 ≤ df t2 p ∧ df t2 p < 2147483647) := Lib.hid fun p hp h => ace h hp
     have HAE : Hid (∀ k : Nat, (dR t2).1 = 0 → df t2 (8 + k) < 2147483647) := Lib.hid fun k h => aa6 h k
     have HUN : Hid (∀ j : Nat, j < 8 → T2[j * 13]? = some (.bool (t2.ph j).on)) := Lib.hid fun j hj => by
      have := hUr.ph j 0 hj (by omega)
      rw [Nat.add_zero, Nat.mul_comm] at this
      rw [this]; rfl
     go_wp2_with (first | (refine aJ rfl rfl rfl ?_; go_simp))
     go_at_call 18
     refine (jt T2 t2 wr hUr).mono ?_
     unfold rj
     have HB2 : Hid (∀ j : Nat, j < 12 → (cx (df t2))[j]? = some (.int .i64 (df t2 j))) := Lib.hid fun j hj => cY _ j hj
     have hBs : (cx (df t2)).size = 12 := aE _ _
     have hB1B2 : (cx (df t2)).all (·.oneCell') = true := lN _
     generalize cx (df t2) = B2 at *
     have HBSB2 := Lib.hid hBs
     clear hBs
     generalize dR t2 = FA at *
     obtain ⟨gc, ga⟩ := FA
     rintro e w10 ⟨rfl, hb10⟩
     have hw10 : Below w.heap.size w w10 := hbw.trans (hb10.mono hbw.size)
     have iU10 := iUr.bel hb10
     haveI : LeSize w.heap.size w10 := ⟨hw10.size⟩
     have l102 := (Array.getElem?_eq_some_iff.1 iU10.out).1
     haveI : Apart w10.heap.size (w10.heap.size + 1) := ⟨by omega⟩
     haveI : Apart (w10.heap.size + 1) w10.heap.size := ⟨by omega⟩
     haveI : Apart w6.heap.size w10.heap.size := ⟨by omega⟩
     haveI : Apart w6.heap.size (w10.heap.size + 1) := ⟨by omega⟩
     clear hb10 hUr iTr iUr iFr iBr iGr lT lU lF lB lG hbr iT iU iF iB iG hT9 hU9
     go_upto_region 16 with (first | (refine ac (o := 0) (cs := B2) (C := #[.int .i64 0, .int .i64 0, .int .i64 0, .int .i64 0, .int .i64 0, .int .i64 0, .int .i64 0, .int .i64 0, .int .i64 0, .int .i64 0, .int .i64 0, .int .i64 0]) 45 rfl rfl rfl rfl (by rw [HBSB2.out]; decide) (by rw [HBSB2.out]; kernel_rfl) hB1B2 ?_; go_simp))
     refine eQ (fun W' => Below w10.heap.size w10 W' ∧ IsBlk W' w6.heap.size T2 34 ∧ IsBlk W' w10.heap.size B2 45 ∧ IsBlk W' (w10.heap.size + 1) #[.int .i64 gc, .int .i64 ga] 37) ⟨by (repeat' (first | (with_reducible exact Below.refl _ _) | (with_reducible assumption) | (with_reducible refine al _ _ ?_ ?_) | (with_reducible refine Below.setCell ?_ ?_ _) | (with_reducible refine Below.alloc ?_ ?_ _) | (with_reducible refine Below.drew ?_) | (with_reducible refine Up.base _ ?_ ?_) | (with_reducible exact LeSize.out) | exact LeSize.out | exact Nat.le_add_right_of_le LeSize.out | (with_reducible exact Nat.le_refl _) | (simp; done) | (simp; omega))), inferInstance, IsBlk.cast inferInstance (yp (by rw [HBSB2.out]; rfl)), IsBlk.cast inferInstance rfl⟩ ?_
     rintro W11 ⟨h1011, jU, jB, jG⟩
     have hw11 : Below w.heap.size w W11 := hw10.trans (h1011.mono hw10.size)
     haveI : LeSize w.heap.size W11 := ⟨hw11.size⟩
     have mU := jU.le
     have mB := jB.le
     have mG := jG.le
     clear h1011 hw10 iU10 hB1B2 HBSB2
     go_wp2
     go_loopw [16] (fun i wq => ∃ j : Nat, j ≤ 8 ∧ i = .int .i64 j ∧ Below W11.heap.size W11 wq) (fun i _ => 8 - (intOf i).toNat)
     case atStart => exact ⟨0, by omega, rfl, by first | exact Below.refl _ _ | all_goals try exact yd⟩
     case round =>
      obtain ⟨q, hq, rfl, hbq⟩ := hrel
      have jUr := jU.bel hbq
      have jBr := jB.bel hbq
      have jGr := jG.bel hbq
      have hbw2 := hw11.trans (hbq.mono hw11.size)
      haveI : LeSize W11.heap.size wr := ⟨hbq.size⟩
      haveI : LeSize w.heap.size wr := ⟨hbw2.size⟩
      by_cases hlt : q < 8
      ·have hqI : (q : Int) < 8 := by omega
       by_cases hgc : gc = 0
       ·subst hgc
        have hx := HAN.out q hlt rfl
        have hy := HAE.out (q / 2) rfl
        have hg := HB2.out q (by omega)
        have vV := HB2.out (8 + q / 2) (by omega)
        have ho := HUN.out q hlt
        generalize df t2 (8 + q / 2) = y2 at *
        generalize df t2 q = x at *
        generalize (t2.ph q).on = on at *
        obtain ⟨x0, x1, x2⟩ := hx
        cases on
        ·have x3 : ¬ 0 < x := fun h => by have := x0.1 h; cases this
         have x4 : decide (0 < x) = false := decide_eq_false x3
         have x5 : decide (2147483647 ≤ x) = false := decide_eq_false (by omega)
         clear x0
         go_wp2
         (refine ai (by kernel_rfl) (by kernel_rfl) ?_; (repeat (first | go_big_quiet_step ((first | fail)))); refine wpQuiet_nil ?_; rintro _ ⟨u, rfl⟩)
         go_wp2
         go_roundw
         case rel => exact ⟨q + 1, by omega, by go_num, by exact yd⟩
         case measure => simp [intOf]; omega
        ·have x3 : 0 < x := x0.2 rfl
         have x4 : decide (0 < x) = true := decide_eq_true x3
         have x5 : decide (2147483647 ≤ x) = false := decide_eq_false (by omega)
         clear x0
         go_wp2
         (refine ai (by kernel_rfl) (by kernel_rfl) ?_; (repeat (first | go_big_quiet_step ((first | fail)))); refine wpQuiet_nil ?_; rintro _ ⟨u, rfl⟩)
         go_wp2
         go_roundw
         case rel => exact ⟨q + 1, by omega, by go_num, by exact yd⟩
         case measure => simp [intOf]; omega
       ·have hgb : (gc == 0) = false := by simpa using hgc
        go_wp2_with (go_at_call 13; refine (Up.run (cH _)).mono ?_; rintro e w' ⟨rfl, uaw, rfl⟩)
        go_ret
        exact ⟨rfl, by exact yd⟩
      ·obtain rfl : q = 8 := by omega
       go_wp2_with (go_at_call 13; refine (Up.run (cH _)).mono ?_; rintro e w' ⟨rfl, uaw, rfl⟩)
       go_ret
       exact ⟨rfl, by exact yd⟩
end
end Go.Proofs.YtodgfjgljcinlaaGreat
