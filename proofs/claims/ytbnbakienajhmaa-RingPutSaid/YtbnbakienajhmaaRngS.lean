/- 'awake' of package ring's laws: the table of two groups. The table of two groups: the walk. 'awake' of package ring's laws: begun. 'awake' of package ring's laws: begun, the walk. 'awake' of package ring's laws. The law RingPut. -/
import Derived.Test.YtbnbakienajhmaaRngI
import Derived.Test.YtbnbakienajhmaaRngK
import Derived.ChangeKeysEq
namespace Go.Proofs.Ytbnbakienajhmaa
section
section
open Go.RowKit Go.Shelf
set_option linter.unusedVariables false
attribute [local go_sem] IsBlk.cell IsBlk.frozen

def ph2 : Phs := ⟨true, 1, 0, 1, 1, 0, 10, 0, 0, 0, 0, false, false⟩
def t2 : Tab := ⟨fun p => if p < 2 then ph2 else ph0, [([0], []), ([1], [])], fun p => if p = 0 then 2 else if p = 1 then 1 else 0, [], [], [], 0, 0, 0, 0, 0, fun p => if p < 2 then 1 else 0, 0, 0⟩
def two1 : Array Value := ((spl TabZero 0 [.bool true, .int .i64 1, .int .i64 0, .int .i64 1, .int .i64 1, .int .i64 0, .int .i64 10, .int .i64 0, .int .i64 0, .int .i64 0, .int .i64 0, .bool false, .bool false]).setIfInBounds 105 (.int .i64 2)).setIfInBounds 121 (.int .i64 1)
def two2 : Array Value := ((spl two1 13 [.bool true, .int .i64 1, .int .i64 0, .int .i64 1, .int .i64 1, .int .i64 0, .int .i64 10, .int .i64 0, .int .i64 0, .int .i64 0, .int .i64 0, .bool false, .bool false]).setIfInBounds 106 (.int .i64 1)).setIfInBounds 122 (.int .i64 1)
theorem two_f0 : (spl TabZero 0 [.bool true, .int .i64 1, .int .i64 0, .int .i64 1, .int .i64 1, .int .i64 0, .int .i64 10, .int .i64 0, .int .i64 0, .int .i64 0, .int .i64 0, .bool false, .bool false])[105]? = some (.int .i64 0) ∧ (spl TabZero 0 [.bool true, .int .i64 1, .int .i64 0, .int .i64 1, .int .i64 1, .int .i64 0, .int .i64 10, .int .i64 0, .int .i64 0, .int .i64 0, .int .i64 0, .bool false, .bool false])[121]? = some (.int .i64 0) := ⟨by kernel_rfl, by kernel_rfl⟩
theorem two_f1 : (spl two1 13 [.bool true, .int .i64 1, .int .i64 0, .int .i64 1, .int .i64 1, .int .i64 0, .int .i64 10, .int .i64 0, .int .i64 0, .int .i64 0, .int .i64 0, .bool false, .bool false])[106]? = some (.int .i64 0) ∧ (spl two1 13 [.bool true, .int .i64 1, .int .i64 0, .int .i64 1, .int .i64 1, .int .i64 0, .int .i64 10, .int .i64 0, .int .i64 0, .int .i64 0, .int .i64 0, .bool false, .bool false])[122]? = some (.int .i64 0) := ⟨by kernel_rfl, by kernel_rfl⟩
theorem two2_104 : two2[104]? = some (.slice none 0 0) := by kernel_rfl
def twoT (a : Option Addr) : Array Value := two2.setIfInBounds 104 (.slice a 2 2)
theorem twoT_size (a : Option Addr) : (twoT a).size = 131 := by kernel_rfl
theorem twoT_one (a : Option Addr) : (twoT a).all (·.oneCell') = true := by kernel_rfl
theorem twoT_is (a : Option Addr) : twoT a = arrF 131 (tabAt t2 (.slice a 2 2) (.slice none 0 0) (.slice none 0 0) (.slice none 0 0)) := by kernel_rfl
theorem t2_row (i j : Nat) : (rowOf t2.gr i j).length ≤ 8 := by
  unfold rowOf t2
  rcases i with _ | _ | i
  · simp only [List.getElem?_cons_zero]; split <;> simp
  · simp only [List.getElem?_cons_succ, List.getElem?_cons_zero]; split <;> simp
  · simp
theorem t2_is {W : World} {b0 b1 b2 : Nat} {y0 y1 y2 : TypeId} (i0 : W.heap[b0]? = some (.cells #[.int .i64 0] y0)) (i1 : W.heap[b1]? = some (.cells #[.int .i64 1] y1)) (i2 : W.heap[b2]? = some (.cells #[.slice (some ⟨b0, 0, none⟩) 1 1, .slice none 0 0, .slice (some ⟨b1, 0, none⟩) 1 1, .slice none 0 0] y2)) : IsTab W (twoT (some ⟨b2, 0, none⟩)) t2 := by
  have l0 := (Array.getElem?_eq_some_iff.1 i0).1
  have l1 := (Array.getElem?_eq_some_iff.1 i1).1
  have l2 := (Array.getElem?_eq_some_iff.1 i2).1
  refine ⟨_, _, _, _, twoT_is _, ⟨⟨some ⟨b2, 0, none⟩, 2, fun i j => if j = 0 then (some ⟨if i = 0 then b0 else b1, 0, none⟩, 1) else (none, 0), rfl, .inr ⟨b2, 0, rfl, l2, fun i hi j hj => ?_⟩, fun i hi j hj => ?_⟩, ⟨none, 0, rfl, .inl rfl⟩, ⟨none, 0, rfl, .inl rfl⟩, ⟨none, 0, rfl, .inl rfl⟩, by decide, t2_row, by decide, by decide, by decide⟩⟩
  · have hi2 : i < 2 := hi
    rcases (show i = 0 ∨ i = 1 by omega) with rfl | rfl <;> rcases (show j = 0 ∨ j = 1 by omega) with rfl | rfl <;> exact laid_cell i2 _ rfl
  · have hi2 : i < 2 := hi
    rcases (show i = 0 ∨ i = 1 by omega) with rfl | rfl <;> rcases (show j = 0 ∨ j = 1 by omega) with rfl | rfl
    · refine .inr ⟨b0, 0, rfl, l0, fun q hq => ?_⟩
      have hq2 : q < 1 := hq
      obtain rfl : q = 0 := by omega
      exact laid_cell i0 _ rfl
    · exact .inl rfl
    · refine .inr ⟨b1, 0, rfl, l1, fun q hq => ?_⟩
      have hq2 : q < 1 := hq
      obtain rfl : q = 0 := by omega
      exact laid_cell i1 _ rfl
    · exact .inl rfl
end
section
open Go.RowKit Go.Shelf
set_option linter.unusedVariables false
attribute [local go_sem] IsBlk.cell IsBlk.frozen

set_option maxHeartbeats 8000000 in
set_option maxRecDepth 100000 in
theorem two_any (w : World) : Calls Try.prog 35 #[] w fun e w' => ∃ T, e = .returned (.agg T) ∧ IsTab w' T t2 ∧ Below w.heap.size w w' := by
  have z := zeroTab
  go_enter Try.func35, Try.ntmps35
  go_wp2
  go_loopw [2] (fun i wr => ∃ k : Int, (0 ≤ k ∧ k ≤ 2) ∧ i = .int .i64 k ∧ Below w.heap.size w wr ∧ LeSize (w.heap.size + 1 + 1) wr ∧ IsBlk wr w.heap.size TabZero 32 ∧ ∃ C, IsBlk wr (w.heap.size + 1) C 32 ∧ ((k = 0 ∧ C = TabZero) ∨ (k = 1 ∧ C = two1) ∨ (k = 2 ∧ C = two2))) (fun i _ => 2 - (intOf i).toNat)
  case atStart => exact ⟨0, by omega, rfl, by (repeat' (first | (with_reducible exact Below.refl _ _) | (with_reducible assumption) | (with_reducible refine Below.setCell ?_ ?_ _) | (with_reducible refine Below.alloc ?_ ?_ _) | (with_reducible refine Below.drew ?_) | (with_reducible refine Up.base _ ?_ ?_) | (with_reducible exact LeSize.out) | exact LeSize.out | exact Nat.le_add_right_of_le LeSize.out | exact Nat.le_add_right_of_le (Nat.le_add_right_of_le LeSize.out) | (with_reducible exact Nat.le_refl _) | (simp; done) | (simp; omega))), inferInstance, inferInstance, _, inferInstance, .inl ⟨rfl, rfl⟩⟩
  case round =>
    obtain ⟨k, hk, rfl, hb, iS, iR, C, iC, hC⟩ := hrel
    haveI : LeSize w.heap.size wr := ⟨hb.size⟩
    haveI a1' : Apart w.heap.size (w.heap.size + 1) := ⟨by omega⟩
    rcases hC with ⟨rfl, rfl⟩ | ⟨rfl, rfl⟩ | ⟨rfl, rfl⟩
    · obtain ⟨f1, f2⟩ := two_f0
      have hs0 : TabZero.size = 131 := by kernel_rfl
      go_wp2_with (refine wpList_store_part (o := 0) (C := TabZero) 24 rfl rfl rfl rfl (by rw [hs0]; decide) (by kernel_rfl) (by kernel_rfl) ?_; go_simp)
      go_roundw
      case rel => exact ⟨1, by omega, rfl, ((below_setCells _ _ hb (Nat.le_succ _)).setCell (p := ⟨w.heap.size + 1, 105, none⟩) (Nat.le_succ _) _).setCell (p := ⟨w.heap.size + 1, 121, none⟩) (Nat.le_succ _) _, inferInstance, inferInstance, two1, ⟨IsBlk.out⟩, .inr (.inl ⟨rfl, rfl⟩)⟩
      case measure => simp [intOf]
    · obtain ⟨f1, f2⟩ := two_f1
      have hs0 : two1.size = 131 := by kernel_rfl
      go_wp2_with (refine wpList_store_part (o := 13) (C := two1) 24 rfl rfl rfl rfl (by rw [hs0]; decide) (by kernel_rfl) (by kernel_rfl) ?_; go_simp)
      go_roundw
      case rel => exact ⟨2, by omega, rfl, ((below_setCells _ _ hb (Nat.le_succ _)).setCell (p := ⟨w.heap.size + 1, 106, none⟩) (Nat.le_succ _) _).setCell (p := ⟨w.heap.size + 1, 122, none⟩) (Nat.le_succ _) _, inferInstance, inferInstance, two2, ⟨IsBlk.out⟩, .inr (.inr ⟨rfl, rfl⟩)⟩
      case measure => simp [intOf]
    · have f104 := two2_104
      have hsw := iS.out
      haveI a2' : Apart wr.heap.size (w.heap.size + 1) := ⟨by omega⟩
      haveI a3' : Apart (wr.heap.size + 1) (w.heap.size + 1) := ⟨by omega⟩
      haveI a4' : Apart (wr.heap.size + 1 + 1) (w.heap.size + 1) := ⟨by omega⟩
      go_upto_region 9 with fail
      obtain ⟨WX, hWX⟩ : ∃ WX, ((((wr.setCell ⟨w.heap.size + 1, 104, none⟩ (.slice (some ⟨wr.heap.size + 1 + 1, 0, none⟩) 2 2)).alloc (.cells #[.int .i64 0] 3)).alloc (.cells #[.int .i64 1] 3)).alloc (.cells #[.slice (some ⟨wr.heap.size, 0, none⟩) 1 1, .slice none 0 0, .slice (some ⟨wr.heap.size + 1, 0, none⟩) 1 1, .slice none 0 0] 92)) = WX := ⟨_, rfl⟩
      have i0 : IsBlk WX wr.heap.size #[.int .i64 0] 3 := by rw [← hWX]; infer_instance
      have i1 : IsBlk WX (wr.heap.size + 1) #[.int .i64 1] 3 := by rw [← hWX]; infer_instance
      have i2 : IsBlk WX (wr.heap.size + 1 + 1) #[.slice (some ⟨wr.heap.size, 0, none⟩) 1 1, .slice none 0 0, .slice (some ⟨wr.heap.size + 1, 0, none⟩) 1 1, .slice none 0 0] 92 := by rw [← hWX]; infer_instance
      have iT : IsBlk WX (w.heap.size + 1) (twoT (some ⟨wr.heap.size + 1 + 1, 0, none⟩)) 32 := by rw [← hWX]; exact ⟨IsBlk.out⟩
      have iZ : IsBlk WX w.heap.size TabZero 32 := by rw [← hWX]; infer_instance
      have hbW : Below w.heap.size w WX := by
        rw [← hWX]
        exact (((hb.setCell (p := ⟨w.heap.size + 1, 104, none⟩) (Nat.le_succ _) _).alloc (by simp [World.setCell]; omega) _).alloc (by simp [World.setCell]; omega) _).alloc (by simp [World.setCell]; omega) _
      rw [hWX]
      clear hWX
      have HSET : Hid ((WX.setCells w.heap.size 0 (twoT (some ⟨wr.heap.size + 1 + 1, 0, none⟩)).toList).heap[w.heap.size]? = some (.cells (twoT (some ⟨wr.heap.size + 1 + 1, 0, none⟩)) 32)) := Lib.hid (by rw [heap_sets_same _ iZ.out, spl_all (by rw [twoT_size]; rfl)])
      have HTAB : Hid (IsTab (WX.setCells w.heap.size 0 (twoT (some ⟨wr.heap.size + 1 + 1, 0, none⟩)).toList) (twoT (some ⟨wr.heap.size + 1 + 1, 0, none⟩)) t2) := Lib.hid (t2_is (by rw [heap_sets_other _ _ (show wr.heap.size ≠ w.heap.size by omega)]; exact i0.out) (by rw [heap_sets_other _ _ (show wr.heap.size + 1 ≠ w.heap.size by omega)]; exact i1.out) (by rw [heap_sets_other _ _ (show wr.heap.size + 1 + 1 ≠ w.heap.size by omega)]; exact i2.out))
      haveI : Sz131 (twoT (some ⟨wr.heap.size + 1 + 1, 0, none⟩)) := ⟨twoT_size _⟩
      have hz0 : TabZero.size = 131 := rfl
      go_wp2_with (first | (refine l_ltab rfl rfl rfl ?_; go_simp) | (refine wpList_store_part (o := 0) (cs := twoT _) 32 rfl rfl rfl rfl (by rw [twoT_size]; exact Nat.le_refl _) (by rw [twoT_size]; kernel_rfl) (twoT_one _) ?_; go_simp))
      refine bodyPost_ret (results_cell_row (p := 0) (ty := 32) rfl _ _ w.heap.size 32 (twoT _) (0, 0) _ rfl HSET.out Try.underlying32 rfl (by rw [twoT_size]; kernel_rfl)) rfl ?_
      exact ⟨_, rfl, HTAB.out, below_setCells _ _ hbW (Nat.le_refl _)⟩
end
section
open Go.RowKit Go.Shelf
set_option linter.unusedVariables false
attribute [local go_sem] IsBlk.cell IsBlk.frozen

def bgn19 (p : Phs) : Rn := ⟨0, 9999, 0, 0, 0, 0, 0, false, false, p.max, 0, 0⟩
set_option maxHeartbeats 2000000 in
theorem bgnr_any (p : Phs) (w : World) : Calls Try.prog 48 #[PqV p] w fun e w' => e = .returned (.agg (RuA (bgn19 p))) ∧ Below w.heap.size w w' := by
  unfold PqV bgn19 RuA
  go_enter Try.func48, Try.ntmps48
  go_wp2
  go_returns
  exact ⟨rfl, by (repeat' (first | (with_reducible exact Below.refl _ _) | (with_reducible assumption) | (with_reducible refine Below.setCell ?_ ?_ _) | (with_reducible refine Below.alloc ?_ ?_ _) | (with_reducible refine Below.drew ?_) | (with_reducible refine Up.base _ ?_ ?_) | (with_reducible exact LeSize.out) | exact LeSize.out | exact Nat.le_add_right_of_le LeSize.out | exact Nat.le_add_right_of_le (Nat.le_add_right_of_le LeSize.out) | (with_reducible exact Nat.le_refl _) | (simp; done) | (simp; omega)))⟩
def bgnR (t : Tab) : Array Value := arrF 96 fun i => ((RuA (bgn19 (t.ph (i / 12))))[i % 12]?).getD undef
theorem bgnR_runs (t : Tab) : IsRuns (bgnR t) fun p => bgn19 (t.ph p) := ⟨arrF_size _ _, fun k hk j hj => by
  unfold bgnR
  rw [arrF_get _ _ _ (by omega), show (k * 12 + j) / 12 = k by omega, show (k * 12 + j) % 12 = j by omega]
  have hl : j < (RuA (bgn19 (t.ph k))).size := by rw [ruA_sz]; exact hj
  rw [Array.getElem?_eq_getElem hl]; rfl⟩
theorem runs_ext {C : Array Value} {t : Tab} (hs : C.size = 96) (h : ∀ q, q < 8 → ∀ j, j < 12 → C[q * 12 + j]? = (RuA (bgn19 (t.ph q)))[j]?) : C = bgnR t := by
  refine arrF_of hs fun i hi => ?_
  have := h (i / 12) (by omega) (i % 12) (by omega)
  rw [show i / 12 * 12 + i % 12 = i by omega] at this
  have hl : i % 12 < (RuA (bgn19 (t.ph (i / 12)))).size := by rw [ruA_sz]; omega
  rw [this, Array.getElem?_eq_getElem hl]; rfl
theorem ruA_one (r : Rn) : (RuA r).all (·.oneCell') = true := by simp [RuA, Value.oneCell']
theorem bgnR_one (t : Tab) : (bgnR t).all (·.oneCell') = true := by
  unfold bgnR
  refine arrF_all fun i hi => ?_
  have hl : i % 12 < (RuA (bgn19 (t.ph (i / 12)))).size := by rw [ruA_sz]; omega
  rw [Array.getElem?_eq_getElem hl]
  exact Array.all_eq_true.1 (ruA_one (bgn19 (t.ph (i / 12)))) _ hl
end
section
open Go.RowKit Go.Shelf
set_option linter.unusedVariables false
attribute [local go_sem] IsBlk.cell IsBlk.frozen

set_option maxHeartbeats 8000000 in
set_option maxRecDepth 100000 in
theorem begun_any (T : Array Value) (t : Tab) (w : World) (hT : IsTab w T t) : Calls Try.prog 19 #[.agg T] w fun e w' => e = .returned (.agg (bgnR t)) ∧ Below w.heap.size w w' := by
  haveI : Sz131 T := ⟨hT.size⟩
  have HPX : Hid (∀ k, k < 8 → IsPx T (k * 13) (t.ph k)) := Lib.hid fun k hk => isPx_of hT hk
  clear hT
  go_enter Try.func19, Try.ntmps19
  go_wp2
  go_loopw [4] (fun i wr => ∃ k : Nat, k ≤ 8 ∧ i = .int .i64 k ∧ Below w.heap.size w wr ∧ LeSize (w.heap.size + 1 + 1 + 1) wr ∧ IsBlk wr w.heap.size T 32 ∧ (∃ Z, IsBlk wr (w.heap.size + 1) Z 46 ∧ Z.size = 96) ∧ ∃ C, IsBlk wr (w.heap.size + 1 + 1) C 46 ∧ C.size = 96 ∧ Hid (∀ q, q < k → ∀ j, j < 12 → C[q * 12 + j]? = (RuA (bgn19 (t.ph q)))[j]?)) (fun i _ => 8 - (intOf i).toNat)
  case atStart => exact ⟨0, by omega, rfl, by (repeat' (first | (with_reducible exact Below.refl _ _) | (with_reducible assumption) | (with_reducible refine Below.setCell ?_ ?_ _) | (with_reducible refine Below.alloc ?_ ?_ _) | (with_reducible refine Below.drew ?_) | (with_reducible refine Up.base _ ?_ ?_) | (with_reducible exact LeSize.out) | exact LeSize.out | exact Nat.le_add_right_of_le LeSize.out | exact Nat.le_add_right_of_le (Nat.le_add_right_of_le LeSize.out) | (with_reducible exact Nat.le_refl _) | (simp; done) | (simp; omega))), inferInstance, inferInstance, ⟨_, inferInstance, by kernel_rfl⟩, _, inferInstance, by kernel_rfl, Lib.hid fun q hq => by omega⟩
  case round =>
    obtain ⟨k, hk, rfl, hb, iS, iT, ⟨Z, iZ, hZs⟩, C, iC, hCs, hC⟩ := hrel
    haveI : LeSize w.heap.size wr := ⟨hb.size⟩
    haveI a1' : Apart w.heap.size (w.heap.size + 1 + 1) := ⟨by omega⟩
    haveI a2' : Apart (w.heap.size + 1) (w.heap.size + 1 + 1) := ⟨by omega⟩
    haveI a3' : Apart (w.heap.size + 1 + 1) (w.heap.size + 1) := ⟨by omega⟩
    by_cases hlt : k < 8
    · haveI := HPX.out k hlt
      have hkI : (k : Int) < 8 := by omega
      have HSZ := Lib.hid hCs
      have HZS := Lib.hid hZs
      clear hCs hZs
      obtain ⟨bp, hbp⟩ : ∃ bp, bgn19 (t.ph k) = bp := ⟨_, rfl⟩
      have HBG : Hid (∀ w', Calls Try.prog 48 #[PqV (t.ph k)] w' fun e w'' => e = .returned (.agg (RuA bp)) ∧ Below w'.heap.size w' w'') := Lib.hid fun w' => by rw [← hbp]; exact bgnr_any _ w'
      have HN : Hid (∀ q, q < k + 1 → ∀ j, j < 12 → (spl C (k * 12) (RuA bp).toList)[q * 12 + j]? = (RuA (bgn19 (t.ph q)))[j]?) := Lib.hid fun q hq j hj => by
        rw [spl_get, ← hbp]
        have hl12 : (RuA (bgn19 (t.ph k))).toList.length = 12 := rfl
        rw [hl12, HSZ.out]
        by_cases he : q = k
        · subst he
          rw [if_pos (by omega), show q * 12 + j - q * 12 = j by omega, Array.getElem?_toList]
        · rw [if_neg (by omega)]
          exact hC.out q (by omega) j hj
      have HSS : Hid ((spl C (k * 12) (RuA bp).toList).size = 96) := Lib.hid (by rw [spl_size]; exact HSZ.out)
      clear hbp hC
      generalize t.ph k = ph at *
      go_wp2_with (first | (refine l_lpx rfl rfl rfl ?_; go_simp) | (go_at_call 48; refine (Up.run (HBG.out _)).mono ?_; rintro e w' ⟨rfl, ubg, rfl⟩) | (refine wpList_store_part (o := k * 12) (cs := RuA bp) 45 rfl rfl rfl rfl (by rw [HSZ.out, ruA_sz]; omega) (by kernel_rfl) (ruA_one _) ?_; go_simp))
      go_roundw
      case rel => exact ⟨k + 1, by omega, by go_num, below_setCells _ _ (hb.trans (ubg.bel.mono hb.size)) (by omega), inferInstance, inferInstance, ⟨Z, inferInstance, HZS.out⟩, spl C (k * 12) (RuA bp).toList, inferInstance, HSS.out, HN⟩
      case measure => simp [intOf]; omega
    · obtain rfl : k = 8 := by omega
      obtain rfl := runs_ext hCs hC.out
      haveI : Sz96 (bgnR t) := ⟨hCs⟩
      have HONE := Lib.hid (bgnR_one t)
      have HSET : Hid ((wr.setCells (w.heap.size + 1) 0 (bgnR t).toList).heap[w.heap.size + 1]? = some (.cells (bgnR t) 46)) := Lib.hid (by rw [heap_sets_same _ iZ.out, spl_all (by rw [hCs, hZs])])
      have HS1 := Lib.hid hCs
      have HS2 := Lib.hid hZs
      generalize hCE : bgnR t = C at *
      have HCE := Lib.hid hCE
      clear hCs hZs hC hCE
      go_wp2_with (first | (refine l_lruns rfl rfl rfl ?_; go_simp) | (refine wpList_store_part (o := 0) (cs := C) 46 rfl rfl rfl rfl (by rw [HS1.out, HS2.out]; exact Nat.le_refl _) (by rw [HS1.out]; kernel_rfl) HONE.out ?_; go_simp))
      refine bodyPost_ret (results_cell_row (p := 2) (ty := 46) rfl _ _ (w.heap.size + 1) 46 C (0, 0) _ rfl HSET.out Try.underlying46 rfl (by rw [HS1.out]; kernel_rfl)) rfl ?_
      exact ⟨by rw [HCE.out], below_setCells _ _ hb (Nat.le_succ _)⟩
end
end
section
section
open Go.RowKit Go.Shelf
set_option linter.unusedVariables false
attribute [local go_sem] IsBlk.cell IsBlk.frozen

theorem two_up (w : World) : Calls Try.prog 35 #[] w fun e w' => ∃ T, ∃ u : Up w, e = .returned (.agg T) ∧ w' = u.w ∧ IsTab u.w T t2 := by
  refine (two_any w).mono ?_
  rintro e w' ⟨T, rfl, hT, hb⟩
  exact ⟨T, ⟨w', hb⟩, rfl, rfl, hT⟩
def rn19 : Nat → Rn := fun p => bgn19 (t2.ph p)
theorem step_t2 : stepV t2 rn19 0 1 (-1) (-1) = .tuple #[.agg #[.int .i64 0, .int .i64 0, .int .i64 (-1), .bool false], .int .i64 1, .int .i64 0] := by kernel_rfl
theorem now_t2 : atZ t2.gr 0 0 0 = 0 := by kernel_rfl
theorem put_t2 : putG t2.gr 2 = 1 := by kernel_rfl
set_option maxHeartbeats 8000000 in
set_option maxRecDepth 100000 in
theorem awake19_any (w : World) : Calls Try.prog 10 #[] w fun e w' => e = .returned (.bool true) ∧ Below w.heap.size w w' := by
  have z := zeroTab
  have hfd : ∀ (a b c : Int) (x : Bool) (w : World), Sem.run Try.prog (Instr.field 36 (.agg #[.int .i64 a, .int .i64 b, .int .i64 c, .bool x]) 0) w = .ok (.int .i64 a) w := fun a b c x w => by kernel_rfl
  go_enter Try.func10, Try.ntmps10
  go_upto_region 2 with (first | (go_at_call 35; refine (two_up _).mono ?_; rintro e w' ⟨T, uT, rfl, rfl, hT⟩) | (refine l_newTab rfl rfl rfl rfl inferInstance hT rfl ?_; go_simp))
  haveI : Sz131 T := ⟨hT.size⟩
  haveI : Sz96 (bgnR t2) := ⟨(bgnR_runs t2).1⟩
  have HT : Hid (∀ w', Below uT.w.heap.size uT.w w' → IsTab w' T t2) := Lib.hid fun w' hb => hT.below hb (Nat.le_refl _)
  have HBG : Hid (∀ w', Below uT.w.heap.size uT.w w' → Calls Try.prog 19 #[.agg T] w' fun e w'' => e = .returned (.agg (bgnR t2)) ∧ Below w'.heap.size w' w'') := Lib.hid fun w' hb => begun_any T t2 w' (HT.out w' hb)
  have HST : Hid (∀ w', Below uT.w.heap.size uT.w w' → Calls Try.prog 12 #[.agg T, .agg #[.int .i64 0, .int .i64 (-1), .int .i64 (-1), .bool false], .agg (bgnR t2), .int .i64 1] w' fun e w'' => e = .returned (.tuple #[.agg #[.int .i64 0, .int .i64 0, .int .i64 (-1), .bool false], .int .i64 1, .int .i64 0]) ∧ Below w'.heap.size w' w'') := Lib.hid fun w' hb => by
    rw [← step_t2]; exact ring_step_main T t2 (bgnR t2) rn19 0 (-1) (-1) 1 w' (HT.out w' hb) (bgnR_runs t2)
  have HNW : Hid (∀ w', Below uT.w.heap.size uT.w w' → Calls Try.prog 36 #[.agg T, .agg #[.int .i64 0, .int .i64 0, .int .i64 (-1), .bool false], .int .i64 0] w' fun e w'' => e = .returned (.int .i64 0) ∧ Below w'.heap.size w' w'') := Lib.hid fun w' hb => by
    have := ring_now0 T t2 0 0 (-1) false w' (HT.out w' hb)
    rwa [now_t2] at this
  have HPT : Hid (∀ w', Below uT.w.heap.size uT.w w' → Calls Try.prog 8 #[.agg T, .int .i64 2] w' fun e w'' => e = .returned (.agg #[.int .i64 1, .int .i64 (putA t2.gr 2).1, .int .i64 (putA t2.gr 2).2, .bool false]) ∧ Below w'.heap.size w' w'') := Lib.hid fun w' hb => by
    have := ring_put T t2 2 w' (HT.out w' hb)
    rwa [put_t2] at this
  generalize (putA t2.gr 2).1 = q1 at *
  generalize (putA t2.gr 2).2 = q2 at *
  generalize bgnR t2 = R at *
  clear hT
  (refine wp_region_up_alloc_e [(8, 11), (9, 11)] 11 10 (by kernel_rfl) (by kernel_rfl) (by kernel_rfl) rfl rfl (fun A w => by simp only [go_sem]; rfl) ?_; intro X; simp only [addL, addAt, List.push_toArray, List.append_toArray, List.nil_append, List.cons_append, List.take_succ_cons, List.take_zero, List.drop_succ_cons, List.drop_zero, List.eraseIdx_cons_succ, List.eraseIdx_cons_zero]; (repeat (first | (go_big_quiet_want; refine q_ltab rfl rfl ?_; simp only [Act.put, List.setIfInBounds_toArray, List.set_cons_succ, List.set_cons_zero]; go_big_quiet_on) | go_big_quiet_step ((first | (go_at_call 19; (with_reducible refine Up.calls (HBG.out _ ?_)); (repeat' (first | (with_reducible exact Below.refl _ _) | (with_reducible assumption) | (with_reducible refine Below.setCell ?_ ?_ _) | (with_reducible refine Below.alloc ?_ ?_ _) | (with_reducible refine Below.drew ?_) | (with_reducible refine Up.base _ ?_ ?_) | (with_reducible exact LeSize.out) | exact LeSize.out | exact Nat.le_add_right_of_le LeSize.out | exact Nat.le_add_right_of_le (Nat.le_add_right_of_le LeSize.out) | (with_reducible exact Nat.le_refl _) | (simp; done) | (simp; omega)))) | (go_at_call 12; (with_reducible refine Up.calls (HST.out _ ?_)); (repeat' (first | (with_reducible exact Below.refl _ _) | (with_reducible assumption) | (with_reducible refine Below.setCell ?_ ?_ _) | (with_reducible refine Below.alloc ?_ ?_ _) | (with_reducible refine Below.drew ?_) | (with_reducible refine Up.base _ ?_ ?_) | (with_reducible exact LeSize.out) | exact LeSize.out | exact Nat.le_add_right_of_le LeSize.out | exact Nat.le_add_right_of_le (Nat.le_add_right_of_le LeSize.out) | (with_reducible exact Nat.le_refl _) | (simp; done) | (simp; omega)))) | fail)))); refine wpQuiet_nil ?_; clear X; rintro q u hq hO; (try simp at hq); have lO := laid_le hO; have hOB : IsBlk u.w q _ _ := ⟨hO⟩; clear hO; go_simp)
  haveI : LeSize uT.w.heap.size u.w := ⟨by have := u.bel.size; simp only [World.size_alloc] at this; omega⟩
  haveI : Apart uT.w.heap.size q := ⟨by omega⟩
  go_wp2
  refine NoPanic.normal ?_
  go_wp2_with (first | (refine g_ltab rfl rfl rfl ?_; go_simp) | (go_at_call 36; refine (Up.run (HNW.out _ (by (repeat' (first | (with_reducible exact Below.refl _ _) | (with_reducible assumption) | (with_reducible refine Below.setCell ?_ ?_ _) | (with_reducible refine Below.alloc ?_ ?_ _) | (with_reducible refine Below.drew ?_) | (with_reducible refine Up.base _ ?_ ?_) | (with_reducible exact LeSize.out) | exact LeSize.out | exact Nat.le_add_right_of_le LeSize.out | exact Nat.le_add_right_of_le (Nat.le_add_right_of_le LeSize.out) | (with_reducible exact Nat.le_refl _) | (simp; done) | (simp; omega)))))).mono ?_; rintro e w' ⟨rfl, unw, rfl⟩) | (go_at_call 8; refine (Up.run (HPT.out _ (by (repeat' (first | (with_reducible exact Below.refl _ _) | (with_reducible assumption) | (with_reducible refine Below.setCell ?_ ?_ _) | (with_reducible refine Below.alloc ?_ ?_ _) | (with_reducible refine Below.drew ?_) | (with_reducible refine Up.base _ ?_ ?_) | (with_reducible exact LeSize.out) | exact LeSize.out | exact Nat.le_add_right_of_le LeSize.out | exact Nat.le_add_right_of_le (Nat.le_add_right_of_le LeSize.out) | (with_reducible exact Nat.le_refl _) | (simp; done) | (simp; omega)))))).mono ?_; rintro e w' ⟨rfl, upt, rfl⟩))
  go_ret
  have hwu := uT.bel.size
  exact ⟨rfl, by (repeat' (first | (with_reducible exact Below.refl _ _) | (with_reducible assumption) | (with_reducible refine Below.setCell ?_ ?_ _) | (with_reducible refine Below.alloc ?_ ?_ _) | (with_reducible refine Below.drew ?_) | (with_reducible refine Up.base _ ?_ ?_) | (with_reducible exact LeSize.out) | exact LeSize.out | exact Nat.le_add_right_of_le LeSize.out | exact Nat.le_add_right_of_le (Nat.le_add_right_of_le LeSize.out) | (with_reducible exact Nat.le_refl _) | (simp; done) | (simp; omega)))⟩
end
section
open Go.ChangeShapes Go.WideShapes Go.ChangeAt Go.RowKit Go.Shelf
set_option linter.unusedVariables false
attribute [local go_sem] IsBlk.cell IsBlk.frozen

theorem eq_two (y u : Int) (w : World) : Sem.run Try.prog (Op.equalIn 9999 34 (.agg #[.int .i64 y, .int .i64 u]) (.agg #[.int .i64 y, .int .i64 u])) w = .ok true w := by
  obtain ⟨i0, hinfo⟩ : ∃ i, Try.prog.info? 3 = some i := by
    have : (Try.prog.info? 3).isSome = true := by kernel_rfl
    exact Option.isSome_iff_exists.1 this
  have hc : Try.prog.cellsOf 3 = 1 := by kernel_rfl
  have := run_equalIn_array (P := Try.prog) w 9998 #[.int .i64 y, .int .i64 u] #[.int .i64 y, .int .i64 u] Try.underlying34 hinfo
  rw [this, hc]
  simp [List.range_succ, Op.eqItems, part, isAgg, run_underlying Try.underlying3, Sem.run_bind, Result.andThen, go_sem]
set_option maxHeartbeats 8000000 in
set_option maxRecDepth 100000 in
theorem ringPut_walk (a : Option Addr) (cap : Nat) (zs : List Int) (s : Int) (w : World) (hl : zs.length ≤ cap ∧ cap ≤ 9223372036854775807) (_ : Hdr w a cap) (hz : Ints w a zs) (_ : ∀ i, i < zs.length → InKind .i64 (zs.getD i 0)) (_ : InKind .i64 s) :
    Calls Try.prog 3 #[.slice a zs.length cap, .int .i64 s] w fun e w' => e = .returned (.bool true) ∧ Below w.heap.size w w' := by
  have HZ : Hid (∀ w', Below w.heap.size w w' → Ints w' a zs) := Lib.hid fun w' hb => Row1.below hz hb (Nat.le_refl _)
  have HZL : Hid (zs.length ≤ 9223372036854775807) := Lib.hid (by omega)
  have z := zeroTab
  have heq : ∀ (x y u : Int) (b : Bool) (w : World), Sem.run Try.prog (binOp .eql 36 (.agg #[.int .i64 x, .int .i64 y, .int .i64 u, .bool b]) (.agg #[.int .i64 x, .int .i64 y, .int .i64 u, .bool b])) w = .ok (.bool true) w := fun x y u b w => by simp [go_sem, eq_two, Result.andThen]
  clear hz hl
  go_enter Try.func3, Try.ntmps3
  go_upto_region 2 with (first | (go_at_call 7; refine (ltable_up _ _ _ _ HZL.out (HZ.out _ (by (repeat' (first | (with_reducible exact Below.refl _ _) | (with_reducible assumption) | (with_reducible refine Below.setCell ?_ ?_ _) | (with_reducible refine Below.alloc ?_ ?_ _) | (with_reducible refine Below.drew ?_) | (with_reducible refine Up.base _ ?_ ?_) | (with_reducible exact LeSize.out) | exact LeSize.out | exact Nat.le_add_right_of_le LeSize.out | exact Nat.le_add_right_of_le (Nat.le_add_right_of_le LeSize.out) | (with_reducible exact Nat.le_refl _) | (simp; done) | (simp; omega)))))).mono ?_; rintro e w' ⟨T, uT, rfl, rfl, hT⟩) | (refine l_newTab rfl rfl rfl rfl inferInstance hT rfl ?_; go_simp))
  haveI : Sz131 T := ⟨hT.size⟩
  have HT : Hid (∀ w', Below uT.w.heap.size uT.w w' → IsTab w' T (tabM zs)) := Lib.hid fun w' hb => hT.below hb (Nat.le_refl _)
  have HPA : Hid (∀ w', Below uT.w.heap.size uT.w w' → Calls Try.prog 8 #[.agg T, .int .i64 s] w' fun e w'' => e = .returned (.agg #[.int .i64 (putG (tabM zs).gr s), .int .i64 (putA (tabM zs).gr s).1, .int .i64 (putA (tabM zs).gr s).2, .bool false]) ∧ Below w'.heap.size w' w'') := Lib.hid fun w' hb => ring_put T (tabM zs) s w' (HT.out w' hb)
  have HPB : Hid (∀ w', Below uT.w.heap.size uT.w w' → Calls Try.prog 9 #[.agg T, .int .i64 s] w' fun e w'' => e = .returned (.agg #[.int .i64 (putG (tabM zs).gr s), .int .i64 (putA (tabM zs).gr s).1, .int .i64 (putA (tabM zs).gr s).2, .bool false]) ∧ Below w'.heap.size w' w'') := Lib.hid fun w' hb => rput_any T (tabM zs) s w' (HT.out w' hb)
  generalize (putA (tabM zs).gr s).1 = q1 at *
  generalize (putA (tabM zs).gr s).2 = q2 at *
  generalize putG (tabM zs).gr s = q0 at *
  clear hT
  (refine wp_region_up (by kernel_rfl) (by kernel_rfl) ?_; (repeat (first | (go_big_quiet_want; refine q_ltab rfl rfl ?_; simp only [Act.put, List.setIfInBounds_toArray, List.set_cons_succ, List.set_cons_zero]; go_big_quiet_on) | go_big_quiet_step ((first | (go_at_call 8; (with_reducible refine Up.calls (HPA.out _ ?_)); (repeat' (first | (with_reducible exact Below.refl _ _) | (with_reducible assumption) | (with_reducible refine Below.setCell ?_ ?_ _) | (with_reducible refine Below.alloc ?_ ?_ _) | (with_reducible refine Below.drew ?_) | (with_reducible refine Up.base _ ?_ ?_) | (with_reducible exact LeSize.out) | exact LeSize.out | exact Nat.le_add_right_of_le LeSize.out | exact Nat.le_add_right_of_le (Nat.le_add_right_of_le LeSize.out) | (with_reducible exact Nat.le_refl _) | (simp; done) | (simp; omega)))) | (go_at_call 9; (with_reducible refine Up.calls (HPB.out _ ?_)); (repeat' (first | (with_reducible exact Below.refl _ _) | (with_reducible assumption) | (with_reducible refine Below.setCell ?_ ?_ _) | (with_reducible refine Below.alloc ?_ ?_ _) | (with_reducible refine Below.drew ?_) | (with_reducible refine Up.base _ ?_ ?_) | (with_reducible exact LeSize.out) | exact LeSize.out | exact Nat.le_add_right_of_le LeSize.out | exact Nat.le_add_right_of_le (Nat.le_add_right_of_le LeSize.out) | (with_reducible exact Nat.le_refl _) | (simp; done) | (simp; omega)))) | (go_at_call 10; exact Up.calls (awake19_any _)) | fail)))); refine wpQuiet_nil ?_; rintro _ ⟨u, rfl⟩)
  go_wp2
  go_ret
  have hwu := uT.bel.size
  exact ⟨rfl, by (repeat' (first | (with_reducible exact Below.refl _ _) | (with_reducible assumption) | (with_reducible refine Below.setCell ?_ ?_ _) | (with_reducible refine Below.alloc ?_ ?_ _) | (with_reducible refine Below.drew ?_) | (with_reducible refine Up.base _ ?_ ?_) | (with_reducible exact LeSize.out) | exact LeSize.out | exact Nat.le_add_right_of_le LeSize.out | exact Nat.le_add_right_of_le (Nat.le_add_right_of_le LeSize.out) | (with_reducible exact Nat.le_refl _) | (simp; done) | (simp; omega)))⟩
set_option maxRecDepth 100000 in
theorem RingPut_lifted (os : Os) (started : os.Started) (H : Type) (enc : TypeId × Value → H) :
    ReturnsInHanded {} Try.checked os 3 .any (Rows.ringPutSpec.pre6 enc Try.prog Try.f3 Rows.ringPutRow.domain false) (Rows.ringPutSpec.post enc Try.prog Try.f3 false true false false) := by
  refine returnsInHanded_of_change (C := Try.checked) own started (by kernel_rfl) Try.func3
    (ChangeSpec.witness6 (enc := enc) (C := Try.checked) false ⟨#[], #[.slice none 0 0, .int .i64 0], []⟩ 8 (by kernel_rfl) (by kernel_rfl) (by kernel_rfl) (by kernel_rfl)) ?_
  intro W base args ds gs before hval0 hW hcnd _
  have hval : ∀ (j : Nat) t v, Try.f3.params[j]? = some t → args[j]? = some v → Value.okWide Try.prog W .any base t v := hval0
  have hW' := hW
  obtain ⟨p, q, hA0, hV, rfl, hfz, hnd⟩ := hW
  have hA : DataW.TrodAll enc Try.prog W 0 (fun _ => true) true Try.f3.params.toList args.toList ds p := hA0
  rw [Try.params3] at hA hval
  obtain ⟨v0, vs0, d0, ds0, p0, q0, hargs, rfl, rfl, h0, r0⟩ := trodAll_cons hA
  obtain ⟨v1, vs1, d1, ds1, p1, q1, rfl, rfl, rfl, h1, r1⟩ := trodAll_cons r0
  obtain ⟨rfl, rfl, rfl⟩ := trodAll_nil r1
  obtain rfl : args = #[v0, v1] := by cases args; simp_all
  obtain ⟨rfl, rfl⟩ := trodVars_none hV
  have k0 := h0
  have lt0 : ∀ x ∈ p0, x.block < W.heap.size := by obtain ⟨m, hm⟩ := k0; exact DataW.trod_lt m _ _ _ hm
  have k1 := h1
  have lt1 : ∀ x ∈ p1, x.block < W.heap.size := by obtain ⟨m, hm⟩ := k1; exact DataW.trod_lt m _ _ _ hm
  obtain ⟨a0, cap0, z0, rfl, hl0, hm0, hh0, hr0, iz0⟩ := open_ints1 Try.underlying22 Try.underlying3 (by kernel_rfl) (hval 0 22 v0 rfl rfl) k0
  obtain ⟨a1, rfl, w1⟩ := open_int1 Try.underlying3 (hval 1 3 v1 rfl rfl)
  clear hA0 hval0
  refine (ringPut_walk a0 cap0 z0 a1 W ⟨hl0, hm0⟩ hh0 hr0 iz0 w1).mono fun e W' ⟨he, bel⟩ => ?_
  subst he
  exact ⟨_, rfl, _, _, _, [], _, [], hW', trodAll_mk1 (shut_bool Try.underlying4 _), (trodAll_cons_mk (Below.trod laidOut (by kernel_rfl) (of_decide_eq_true (by kernel_rfl)) k0 bel lt0) (trodAll_cons_mk (Below.trod laidOut (by kernel_rfl) (of_decide_eq_true (by kernel_rfl)) k1 bel lt1) trodAll_mk0)), rfl, bel.frame _, fun h => by cases h⟩

theorem RingPut_over : Rows.ringPutRow.holds Try.pinned (OpenSpec.ofChange Rows.ringPutSpec) :=
  OpenClaim.holds_of_wide 3 Try.f3 rfl rfl rfl rfl rfl rfl rfl ⟨rfl, rfl, rfl, rfl, rfl⟩ rfl rfl rfl rfl rfl (by kernel_rfl) Try.func3 (by kernel_rfl)
    (of_decide_eq_true (by kernel_rfl)) (by unfold Func.isWrapper; first | (rw [if_pos (by decide +kernel)]; kernel_rfl) | (rw [if_neg (by decide +kernel)]; exact ⟨rfl, rfl⟩))
    (fun os started H enc _ => RingPut_lifted os started H enc)

/-- The given statement. -/
theorem RingPut_holds : Rows.RingPutSaid := RingPut_over
#print axioms RingPut_holds
end
end
end Go.Proofs.Ytbnbakienajhmaa
