/- 'awake' of package ring's laws: the table of two groups. The table of two groups: the walk. 'awake' of package ring's laws: begun. 'awake' of package ring's laws: begun, the walk. 'awake' of package ring's laws. The law RingPut. Rings: the answers' Green, Reds; Clash; the laws' Rings. Rings: rings of a table, by any numbers. Plain laws of a table by numbers: each phase stands once; conflicts are symmetric. Plain laws of a tick of the rings: who begins, who ends. The contract of package plan: Beside. The contract of package plan: On. The contracts of package ring: ahead, Pressed. Rings that go on: the play's block of cells; a tick as a plain function. Rings that go on: the walk of a tick. Facts of RingMay that RingOnce wants. Between two crossings each phase begins at most once, and two that conflict are never both other than red: the plain law. Between two crossings each phase begins at most once, and two that conflict are never both other than red. -/
import Derived.Test.YtbnbakienajhmaaRngI
import Derived.Test.YtbnbakienajhmaaRngK
import Derived.ChangeKeysEq
import Derived.Test.YtbnbakienajhmaaRngB
import Derived.Test.YtbnbakienajhmaaPlnA
import Derived.Test.YtbnbakienajhmaaTabO
import Derived.Test.YtbnbakienajhmaaPlnK
import Derived.Test.YtbnbakienajhmaaSetT
import Derived.Test.YtbnbakienajhmaaQrIn
import Derived.Test.YtbnbakienajhmaaPhH
import Derived.Test.YtbnbakienajhmaaEdge
import Derived.Deep.DeepCutAuto
namespace Go.Proofs.Ytbnbakienajhmaa
section
section
section
open Go.RowKit Go.Shelf
set_option linter.unusedVariables false
attribute [local go_sem] IsBlk.cell IsBlk.frozen

def ph2 : Phs := ⟨true, 1, 0, 1, 1, 0, 10, 0, 0, 0, 0, false, false⟩
def t2 : Tab := ⟨fun p => if p < 2 then ph2 else ph0, [([0], []), ([1], [])], fun p => if p = 0 then 2 else if p = 1 then 1 else 0, [], [], [], 0, 0, 0, 0, 0, fun p => if p < 2 then 1 else 0, 0, 0⟩
def two1 : Array Value := ((spl TabZero 0 [.bool true, .int .i64 1, .int .i64 0, .int .i64 1, .int .i64 1, .int .i64 0, .int .i64 10, .int .i64 0, .int .i64 0, .int .i64 0, .int .i64 0, .bool false, .bool false]).setIfInBounds 105 (.int .i64 2)).setIfInBounds 121 (.int .i64 1)
def two2 : Array Value := ((spl two1 13 [.bool true, .int .i64 1, .int .i64 0, .int .i64 1, .int .i64 1, .int .i64 0, .int .i64 10, .int .i64 0, .int .i64 0, .int .i64 0, .int .i64 0, .bool false, .bool false]).setIfInBounds 106 (.int .i64 1)).setIfInBounds 122 (.int .i64 1)
theorem two_f0 : (spl TabZero 0 [.bool true, .int .i64 1, .int .i64 0, .int .i64 1, .int .i64 1, .int .i64 0, .int .i64 10, .int .i64 0, .int .i64 0, .int .i64 0, .int .i64 0, .bool false, .bool false])[105]? = some (.int .i64 0) ∧ (spl TabZero 0 [.bool true, .int .i64 1, .int .i64 0, .int .i64 1, .int .i64 1, .int .i64 0, .int .i64 10, .int .i64 0, .int .i64 0, .int .i64 0, .int .i64 0, .bool false, .bool false])[121]? = some (.int .i64 0) := ⟨by kernel_rfl, by kernel_rfl⟩
theorem two_f1 : (spl two1 13 [.bool true, .int .i64 1, .int .i64 0, .int .i64 1, .int .i64 1, .int .i64 0, .int .i64 10, .int .i64 0, .int .i64 0, .int .i64 0, .int .i64 0, .bool false, .bool false])[106]? = some (.int .i64 0) ∧ (spl two1 13 [.bool true, .int .i64 1, .int .i64 0, .int .i64 1, .int .i64 1, .int .i64 0, .int .i64 10, .int .i64 0, .int .i64 0, .int .i64 0, .int .i64 0, .bool false, .bool false])[122]? = some (.int .i64 0) := ⟨by kernel_rfl, by kernel_rfl⟩
theorem two2_104 : two2[104]? = some (.slice none 0 0) := by kernel_rfl
def twoT (a : Option Addr) : Array Value := two2.setIfInBounds 104 (.slice a 2 2)
theorem twoT_size (a : Option Addr) : (twoT a).size = 131 := by kernel_rfl
theorem twoT_one (a : Option Addr) : (twoT a).all (·.oneCell') = true := by kernel_rfl
theorem twoT_is (a : Option Addr) : twoT a = arrF 131 (tabAt t2 (.slice a 2 2) (.slice none 0 0) (.slice none 0 0) (.slice none 0 0)) := by kernel_rfl
theorem t2_row (i j : Nat) : (rowOf t2.gr i j).length ≤ 8 := by
  unfold rowOf t2
  rcases i with _ | _ | i
  · simp only [List.getElem?_cons_zero]; split <;> simp
  · simp only [List.getElem?_cons_succ, List.getElem?_cons_zero]; split <;> simp
  · simp
theorem t2_is {W : World} {b0 b1 b2 : Nat} {y0 y1 y2 : TypeId} (i0 : W.heap[b0]? = some (.cells #[.int .i64 0] y0)) (i1 : W.heap[b1]? = some (.cells #[.int .i64 1] y1)) (i2 : W.heap[b2]? = some (.cells #[.slice (some ⟨b0, 0, none⟩) 1 1, .slice none 0 0, .slice (some ⟨b1, 0, none⟩) 1 1, .slice none 0 0] y2)) : IsTab W (twoT (some ⟨b2, 0, none⟩)) t2 := by
  have l0 := (Array.getElem?_eq_some_iff.1 i0).1
  have l1 := (Array.getElem?_eq_some_iff.1 i1).1
  have l2 := (Array.getElem?_eq_some_iff.1 i2).1
  refine ⟨_, _, _, _, twoT_is _, ⟨⟨some ⟨b2, 0, none⟩, 2, fun i j => if j = 0 then (some ⟨if i = 0 then b0 else b1, 0, none⟩, 1) else (none, 0), rfl, .inr ⟨b2, 0, rfl, l2, fun i hi j hj => ?_⟩, fun i hi j hj => ?_⟩, ⟨none, 0, rfl, .inl rfl⟩, ⟨none, 0, rfl, .inl rfl⟩, ⟨none, 0, rfl, .inl rfl⟩, by decide, t2_row, by decide, by decide, by decide⟩⟩
  · have hi2 : i < 2 := hi
    rcases (show i = 0 ∨ i = 1 by omega) with rfl | rfl <;> rcases (show j = 0 ∨ j = 1 by omega) with rfl | rfl <;> exact laid_cell i2 _ rfl
  · have hi2 : i < 2 := hi
    rcases (show i = 0 ∨ i = 1 by omega) with rfl | rfl <;> rcases (show j = 0 ∨ j = 1 by omega) with rfl | rfl
    · refine .inr ⟨b0, 0, rfl, l0, fun q hq => ?_⟩
      have hq2 : q < 1 := hq
      obtain rfl : q = 0 := by omega
      exact laid_cell i0 _ rfl
    · exact .inl rfl
    · refine .inr ⟨b1, 0, rfl, l1, fun q hq => ?_⟩
      have hq2 : q < 1 := hq
      obtain rfl : q = 0 := by omega
      exact laid_cell i1 _ rfl
    · exact .inl rfl
end
section
open Go.RowKit Go.Shelf
set_option linter.unusedVariables false
attribute [local go_sem] IsBlk.cell IsBlk.frozen

set_option maxHeartbeats 8000000 in
set_option maxRecDepth 100000 in
theorem two_any (w : World) : Calls Try.prog 35 #[] w fun e w' => ∃ T, e = .returned (.agg T) ∧ IsTab w' T t2 ∧ Below w.heap.size w w' := by
  have z := zeroTab
  go_enter Try.func35, Try.ntmps35
  go_wp2
  go_loopw [2] (fun i wr => ∃ k : Int, (0 ≤ k ∧ k ≤ 2) ∧ i = .int .i64 k ∧ Below w.heap.size w wr ∧ LeSize (w.heap.size + 1 + 1) wr ∧ IsBlk wr w.heap.size TabZero 32 ∧ ∃ C, IsBlk wr (w.heap.size + 1) C 32 ∧ ((k = 0 ∧ C = TabZero) ∨ (k = 1 ∧ C = two1) ∨ (k = 2 ∧ C = two2))) (fun i _ => 2 - (intOf i).toNat)
  case atStart => exact ⟨0, by omega, rfl, by (repeat' (first | (with_reducible exact Below.refl _ _) | (with_reducible assumption) | (with_reducible refine Below.setCell ?_ ?_ _) | (with_reducible refine Below.alloc ?_ ?_ _) | (with_reducible refine Below.drew ?_) | (with_reducible refine Up.base _ ?_ ?_) | (with_reducible exact LeSize.out) | exact LeSize.out | exact Nat.le_add_right_of_le LeSize.out | exact Nat.le_add_right_of_le (Nat.le_add_right_of_le LeSize.out) | (with_reducible exact Nat.le_refl _) | (simp; done) | (simp; omega))), inferInstance, inferInstance, _, inferInstance, .inl ⟨rfl, rfl⟩⟩
  case round =>
    obtain ⟨k, hk, rfl, hb, iS, iR, C, iC, hC⟩ := hrel
    haveI : LeSize w.heap.size wr := ⟨hb.size⟩
    haveI a1' : Apart w.heap.size (w.heap.size + 1) := ⟨by omega⟩
    rcases hC with ⟨rfl, rfl⟩ | ⟨rfl, rfl⟩ | ⟨rfl, rfl⟩
    · obtain ⟨f1, f2⟩ := two_f0
      have hs0 : TabZero.size = 131 := by kernel_rfl
      go_wp2_with (refine wpList_store_part (o := 0) (C := TabZero) 24 rfl rfl rfl rfl (by rw [hs0]; decide) (by kernel_rfl) (by kernel_rfl) ?_; go_simp)
      go_roundw
      case rel => exact ⟨1, by omega, rfl, ((below_setCells _ _ hb (Nat.le_succ _)).setCell (p := ⟨w.heap.size + 1, 105, none⟩) (Nat.le_succ _) _).setCell (p := ⟨w.heap.size + 1, 121, none⟩) (Nat.le_succ _) _, inferInstance, inferInstance, two1, ⟨IsBlk.out⟩, .inr (.inl ⟨rfl, rfl⟩)⟩
      case measure => simp [intOf]
    · obtain ⟨f1, f2⟩ := two_f1
      have hs0 : two1.size = 131 := by kernel_rfl
      go_wp2_with (refine wpList_store_part (o := 13) (C := two1) 24 rfl rfl rfl rfl (by rw [hs0]; decide) (by kernel_rfl) (by kernel_rfl) ?_; go_simp)
      go_roundw
      case rel => exact ⟨2, by omega, rfl, ((below_setCells _ _ hb (Nat.le_succ _)).setCell (p := ⟨w.heap.size + 1, 106, none⟩) (Nat.le_succ _) _).setCell (p := ⟨w.heap.size + 1, 122, none⟩) (Nat.le_succ _) _, inferInstance, inferInstance, two2, ⟨IsBlk.out⟩, .inr (.inr ⟨rfl, rfl⟩)⟩
      case measure => simp [intOf]
    · have f104 := two2_104
      have hsw := iS.out
      haveI a2' : Apart wr.heap.size (w.heap.size + 1) := ⟨by omega⟩
      haveI a3' : Apart (wr.heap.size + 1) (w.heap.size + 1) := ⟨by omega⟩
      haveI a4' : Apart (wr.heap.size + 1 + 1) (w.heap.size + 1) := ⟨by omega⟩
      go_upto_region 9 with fail
      obtain ⟨WX, hWX⟩ : ∃ WX, ((((wr.setCell ⟨w.heap.size + 1, 104, none⟩ (.slice (some ⟨wr.heap.size + 1 + 1, 0, none⟩) 2 2)).alloc (.cells #[.int .i64 0] 3)).alloc (.cells #[.int .i64 1] 3)).alloc (.cells #[.slice (some ⟨wr.heap.size, 0, none⟩) 1 1, .slice none 0 0, .slice (some ⟨wr.heap.size + 1, 0, none⟩) 1 1, .slice none 0 0] 92)) = WX := ⟨_, rfl⟩
      have i0 : IsBlk WX wr.heap.size #[.int .i64 0] 3 := by rw [← hWX]; infer_instance
      have i1 : IsBlk WX (wr.heap.size + 1) #[.int .i64 1] 3 := by rw [← hWX]; infer_instance
      have i2 : IsBlk WX (wr.heap.size + 1 + 1) #[.slice (some ⟨wr.heap.size, 0, none⟩) 1 1, .slice none 0 0, .slice (some ⟨wr.heap.size + 1, 0, none⟩) 1 1, .slice none 0 0] 92 := by rw [← hWX]; infer_instance
      have iT : IsBlk WX (w.heap.size + 1) (twoT (some ⟨wr.heap.size + 1 + 1, 0, none⟩)) 32 := by rw [← hWX]; exact ⟨IsBlk.out⟩
      have iZ : IsBlk WX w.heap.size TabZero 32 := by rw [← hWX]; infer_instance
      have hbW : Below w.heap.size w WX := by
        rw [← hWX]
        exact (((hb.setCell (p := ⟨w.heap.size + 1, 104, none⟩) (Nat.le_succ _) _).alloc (by simp [World.setCell]; omega) _).alloc (by simp [World.setCell]; omega) _).alloc (by simp [World.setCell]; omega) _
      rw [hWX]
      clear hWX
      have HSET : Hid ((WX.setCells w.heap.size 0 (twoT (some ⟨wr.heap.size + 1 + 1, 0, none⟩)).toList).heap[w.heap.size]? = some (.cells (twoT (some ⟨wr.heap.size + 1 + 1, 0, none⟩)) 32)) := Lib.hid (by rw [heap_sets_same _ iZ.out, spl_all (by rw [twoT_size]; rfl)])
      have HTAB : Hid (IsTab (WX.setCells w.heap.size 0 (twoT (some ⟨wr.heap.size + 1 + 1, 0, none⟩)).toList) (twoT (some ⟨wr.heap.size + 1 + 1, 0, none⟩)) t2) := Lib.hid (t2_is (by rw [heap_sets_other _ _ (show wr.heap.size ≠ w.heap.size by omega)]; exact i0.out) (by rw [heap_sets_other _ _ (show wr.heap.size + 1 ≠ w.heap.size by omega)]; exact i1.out) (by rw [heap_sets_other _ _ (show wr.heap.size + 1 + 1 ≠ w.heap.size by omega)]; exact i2.out))
      haveI : Sz131 (twoT (some ⟨wr.heap.size + 1 + 1, 0, none⟩)) := ⟨twoT_size _⟩
      have hz0 : TabZero.size = 131 := rfl
      go_wp2_with (first | (refine l_ltab rfl rfl rfl ?_; go_simp) | (refine wpList_store_part (o := 0) (cs := twoT _) 32 rfl rfl rfl rfl (by rw [twoT_size]; exact Nat.le_refl _) (by rw [twoT_size]; kernel_rfl) (twoT_one _) ?_; go_simp))
      refine bodyPost_ret (results_cell_row (p := 0) (ty := 32) rfl _ _ w.heap.size 32 (twoT _) (0, 0) _ rfl HSET.out Try.underlying32 rfl (by rw [twoT_size]; kernel_rfl)) rfl ?_
      exact ⟨_, rfl, HTAB.out, below_setCells _ _ hbW (Nat.le_refl _)⟩
end
section
open Go.RowKit Go.Shelf
set_option linter.unusedVariables false
attribute [local go_sem] IsBlk.cell IsBlk.frozen

def bgn19 (p : Phs) : Rn := ⟨0, 9999, 0, 0, 0, 0, 0, false, false, p.max, 0, 0⟩
set_option maxHeartbeats 2000000 in
theorem bgnr_any (p : Phs) (w : World) : Calls Try.prog 48 #[PqV p] w fun e w' => e = .returned (.agg (RuA (bgn19 p))) ∧ Below w.heap.size w w' := by
  unfold PqV bgn19 RuA
  go_enter Try.func48, Try.ntmps48
  go_wp2
  go_returns
  exact ⟨rfl, by (repeat' (first | (with_reducible exact Below.refl _ _) | (with_reducible assumption) | (with_reducible refine Below.setCell ?_ ?_ _) | (with_reducible refine Below.alloc ?_ ?_ _) | (with_reducible refine Below.drew ?_) | (with_reducible refine Up.base _ ?_ ?_) | (with_reducible exact LeSize.out) | exact LeSize.out | exact Nat.le_add_right_of_le LeSize.out | exact Nat.le_add_right_of_le (Nat.le_add_right_of_le LeSize.out) | (with_reducible exact Nat.le_refl _) | (simp; done) | (simp; omega)))⟩
def bgnR (t : Tab) : Array Value := arrF 96 fun i => ((RuA (bgn19 (t.ph (i / 12))))[i % 12]?).getD undef
theorem bgnR_runs (t : Tab) : IsRuns (bgnR t) fun p => bgn19 (t.ph p) := ⟨arrF_size _ _, fun k hk j hj => by
  unfold bgnR
  rw [arrF_get _ _ _ (by omega), show (k * 12 + j) / 12 = k by omega, show (k * 12 + j) % 12 = j by omega]
  have hl : j < (RuA (bgn19 (t.ph k))).size := by rw [ruA_sz]; exact hj
  rw [Array.getElem?_eq_getElem hl]; rfl⟩
theorem runs_ext {C : Array Value} {t : Tab} (hs : C.size = 96) (h : ∀ q, q < 8 → ∀ j, j < 12 → C[q * 12 + j]? = (RuA (bgn19 (t.ph q)))[j]?) : C = bgnR t := by
  refine arrF_of hs fun i hi => ?_
  have := h (i / 12) (by omega) (i % 12) (by omega)
  rw [show i / 12 * 12 + i % 12 = i by omega] at this
  have hl : i % 12 < (RuA (bgn19 (t.ph (i / 12)))).size := by rw [ruA_sz]; omega
  rw [this, Array.getElem?_eq_getElem hl]; rfl
theorem ruA_one (r : Rn) : (RuA r).all (·.oneCell') = true := by simp [RuA, Value.oneCell']
theorem bgnR_one (t : Tab) : (bgnR t).all (·.oneCell') = true := by
  unfold bgnR
  refine arrF_all fun i hi => ?_
  have hl : i % 12 < (RuA (bgn19 (t.ph (i / 12)))).size := by rw [ruA_sz]; omega
  rw [Array.getElem?_eq_getElem hl]
  exact Array.all_eq_true.1 (ruA_one (bgn19 (t.ph (i / 12)))) _ hl
end
section
open Go.RowKit Go.Shelf
set_option linter.unusedVariables false
attribute [local go_sem] IsBlk.cell IsBlk.frozen

set_option maxHeartbeats 8000000 in
set_option maxRecDepth 100000 in
theorem begun_any (T : Array Value) (t : Tab) (w : World) (hT : IsTab w T t) : Calls Try.prog 19 #[.agg T] w fun e w' => e = .returned (.agg (bgnR t)) ∧ Below w.heap.size w w' := by
  haveI : Sz131 T := ⟨hT.size⟩
  have HPX : Hid (∀ k, k < 8 → IsPx T (k * 13) (t.ph k)) := Lib.hid fun k hk => isPx_of hT hk
  clear hT
  go_enter Try.func19, Try.ntmps19
  go_wp2
  go_loopw [4] (fun i wr => ∃ k : Nat, k ≤ 8 ∧ i = .int .i64 k ∧ Below w.heap.size w wr ∧ LeSize (w.heap.size + 1 + 1 + 1) wr ∧ IsBlk wr w.heap.size T 32 ∧ (∃ Z, IsBlk wr (w.heap.size + 1) Z 46 ∧ Z.size = 96) ∧ ∃ C, IsBlk wr (w.heap.size + 1 + 1) C 46 ∧ C.size = 96 ∧ Hid (∀ q, q < k → ∀ j, j < 12 → C[q * 12 + j]? = (RuA (bgn19 (t.ph q)))[j]?)) (fun i _ => 8 - (intOf i).toNat)
  case atStart => exact ⟨0, by omega, rfl, by (repeat' (first | (with_reducible exact Below.refl _ _) | (with_reducible assumption) | (with_reducible refine Below.setCell ?_ ?_ _) | (with_reducible refine Below.alloc ?_ ?_ _) | (with_reducible refine Below.drew ?_) | (with_reducible refine Up.base _ ?_ ?_) | (with_reducible exact LeSize.out) | exact LeSize.out | exact Nat.le_add_right_of_le LeSize.out | exact Nat.le_add_right_of_le (Nat.le_add_right_of_le LeSize.out) | (with_reducible exact Nat.le_refl _) | (simp; done) | (simp; omega))), inferInstance, inferInstance, ⟨_, inferInstance, by kernel_rfl⟩, _, inferInstance, by kernel_rfl, Lib.hid fun q hq => by omega⟩
  case round =>
    obtain ⟨k, hk, rfl, hb, iS, iT, ⟨Z, iZ, hZs⟩, C, iC, hCs, hC⟩ := hrel
    haveI : LeSize w.heap.size wr := ⟨hb.size⟩
    haveI a1' : Apart w.heap.size (w.heap.size + 1 + 1) := ⟨by omega⟩
    haveI a2' : Apart (w.heap.size + 1) (w.heap.size + 1 + 1) := ⟨by omega⟩
    haveI a3' : Apart (w.heap.size + 1 + 1) (w.heap.size + 1) := ⟨by omega⟩
    by_cases hlt : k < 8
    · haveI := HPX.out k hlt
      have hkI : (k : Int) < 8 := by omega
      have HSZ := Lib.hid hCs
      have HZS := Lib.hid hZs
      clear hCs hZs
      obtain ⟨bp, hbp⟩ : ∃ bp, bgn19 (t.ph k) = bp := ⟨_, rfl⟩
      have HBG : Hid (∀ w', Calls Try.prog 48 #[PqV (t.ph k)] w' fun e w'' => e = .returned (.agg (RuA bp)) ∧ Below w'.heap.size w' w'') := Lib.hid fun w' => by rw [← hbp]; exact bgnr_any _ w'
      have HN : Hid (∀ q, q < k + 1 → ∀ j, j < 12 → (spl C (k * 12) (RuA bp).toList)[q * 12 + j]? = (RuA (bgn19 (t.ph q)))[j]?) := Lib.hid fun q hq j hj => by
        rw [spl_get, ← hbp]
        have hl12 : (RuA (bgn19 (t.ph k))).toList.length = 12 := rfl
        rw [hl12, HSZ.out]
        by_cases he : q = k
        · subst he
          rw [if_pos (by omega), show q * 12 + j - q * 12 = j by omega, Array.getElem?_toList]
        · rw [if_neg (by omega)]
          exact hC.out q (by omega) j hj
      have HSS : Hid ((spl C (k * 12) (RuA bp).toList).size = 96) := Lib.hid (by rw [spl_size]; exact HSZ.out)
      clear hbp hC
      generalize t.ph k = ph at *
      go_wp2_with (first | (refine l_lpx rfl rfl rfl ?_; go_simp) | (go_at_call 48; refine (Up.run (HBG.out _)).mono ?_; rintro e w' ⟨rfl, ubg, rfl⟩) | (refine wpList_store_part (o := k * 12) (cs := RuA bp) 45 rfl rfl rfl rfl (by rw [HSZ.out, ruA_sz]; omega) (by kernel_rfl) (ruA_one _) ?_; go_simp))
      go_roundw
      case rel => exact ⟨k + 1, by omega, by go_num, below_setCells _ _ (hb.trans (ubg.bel.mono hb.size)) (by omega), inferInstance, inferInstance, ⟨Z, inferInstance, HZS.out⟩, spl C (k * 12) (RuA bp).toList, inferInstance, HSS.out, HN⟩
      case measure => simp [intOf]; omega
    · obtain rfl : k = 8 := by omega
      obtain rfl := runs_ext hCs hC.out
      haveI : Sz96 (bgnR t) := ⟨hCs⟩
      have HONE := Lib.hid (bgnR_one t)
      have HSET : Hid ((wr.setCells (w.heap.size + 1) 0 (bgnR t).toList).heap[w.heap.size + 1]? = some (.cells (bgnR t) 46)) := Lib.hid (by rw [heap_sets_same _ iZ.out, spl_all (by rw [hCs, hZs])])
      have HS1 := Lib.hid hCs
      have HS2 := Lib.hid hZs
      generalize hCE : bgnR t = C at *
      have HCE := Lib.hid hCE
      clear hCs hZs hC hCE
      go_wp2_with (first | (refine l_lruns rfl rfl rfl ?_; go_simp) | (refine wpList_store_part (o := 0) (cs := C) 46 rfl rfl rfl rfl (by rw [HS1.out, HS2.out]; exact Nat.le_refl _) (by rw [HS1.out]; kernel_rfl) HONE.out ?_; go_simp))
      refine bodyPost_ret (results_cell_row (p := 2) (ty := 46) rfl _ _ (w.heap.size + 1) 46 C (0, 0) _ rfl HSET.out Try.underlying46 rfl (by rw [HS1.out]; kernel_rfl)) rfl ?_
      exact ⟨by rw [HCE.out], below_setCells _ _ hb (Nat.le_succ _)⟩
end
end
section
section
open Go.RowKit Go.Shelf
set_option linter.unusedVariables false
attribute [local go_sem] IsBlk.cell IsBlk.frozen

theorem two_up (w : World) : Calls Try.prog 35 #[] w fun e w' => ∃ T, ∃ u : Up w, e = .returned (.agg T) ∧ w' = u.w ∧ IsTab u.w T t2 := by
  refine (two_any w).mono ?_
  rintro e w' ⟨T, rfl, hT, hb⟩
  exact ⟨T, ⟨w', hb⟩, rfl, rfl, hT⟩
def rn19 : Nat → Rn := fun p => bgn19 (t2.ph p)
theorem step_t2 : stepV t2 rn19 0 1 (-1) (-1) = .tuple #[.agg #[.int .i64 0, .int .i64 0, .int .i64 (-1), .bool false], .int .i64 1, .int .i64 0] := by kernel_rfl
theorem now_t2 : atZ t2.gr 0 0 0 = 0 := by kernel_rfl
theorem put_t2 : putG t2.gr 2 = 1 := by kernel_rfl
set_option maxHeartbeats 8000000 in
set_option maxRecDepth 100000 in
theorem awake19_any (w : World) : Calls Try.prog 10 #[] w fun e w' => e = .returned (.bool true) ∧ Below w.heap.size w w' := by
  have z := zeroTab
  have hfd : ∀ (a b c : Int) (x : Bool) (w : World), Sem.run Try.prog (Instr.field 36 (.agg #[.int .i64 a, .int .i64 b, .int .i64 c, .bool x]) 0) w = .ok (.int .i64 a) w := fun a b c x w => by kernel_rfl
  go_enter Try.func10, Try.ntmps10
  go_upto_region 2 with (first | (go_at_call 35; refine (two_up _).mono ?_; rintro e w' ⟨T, uT, rfl, rfl, hT⟩) | (refine l_newTab rfl rfl rfl rfl inferInstance hT rfl ?_; go_simp))
  haveI : Sz131 T := ⟨hT.size⟩
  haveI : Sz96 (bgnR t2) := ⟨(bgnR_runs t2).1⟩
  have HT : Hid (∀ w', Below uT.w.heap.size uT.w w' → IsTab w' T t2) := Lib.hid fun w' hb => hT.below hb (Nat.le_refl _)
  have HBG : Hid (∀ w', Below uT.w.heap.size uT.w w' → Calls Try.prog 19 #[.agg T] w' fun e w'' => e = .returned (.agg (bgnR t2)) ∧ Below w'.heap.size w' w'') := Lib.hid fun w' hb => begun_any T t2 w' (HT.out w' hb)
  have HST : Hid (∀ w', Below uT.w.heap.size uT.w w' → Calls Try.prog 12 #[.agg T, .agg #[.int .i64 0, .int .i64 (-1), .int .i64 (-1), .bool false], .agg (bgnR t2), .int .i64 1] w' fun e w'' => e = .returned (.tuple #[.agg #[.int .i64 0, .int .i64 0, .int .i64 (-1), .bool false], .int .i64 1, .int .i64 0]) ∧ Below w'.heap.size w' w'') := Lib.hid fun w' hb => by
    rw [← step_t2]; exact ring_step_main T t2 (bgnR t2) rn19 0 (-1) (-1) 1 w' (HT.out w' hb) (bgnR_runs t2)
  have HNW : Hid (∀ w', Below uT.w.heap.size uT.w w' → Calls Try.prog 36 #[.agg T, .agg #[.int .i64 0, .int .i64 0, .int .i64 (-1), .bool false], .int .i64 0] w' fun e w'' => e = .returned (.int .i64 0) ∧ Below w'.heap.size w' w'') := Lib.hid fun w' hb => by
    have := ring_now0 T t2 0 0 (-1) false w' (HT.out w' hb)
    rwa [now_t2] at this
  have HPT : Hid (∀ w', Below uT.w.heap.size uT.w w' → Calls Try.prog 8 #[.agg T, .int .i64 2] w' fun e w'' => e = .returned (.agg #[.int .i64 1, .int .i64 (putA t2.gr 2).1, .int .i64 (putA t2.gr 2).2, .bool false]) ∧ Below w'.heap.size w' w'') := Lib.hid fun w' hb => by
    have := ring_put T t2 2 w' (HT.out w' hb)
    rwa [put_t2] at this
  generalize (putA t2.gr 2).1 = q1 at *
  generalize (putA t2.gr 2).2 = q2 at *
  generalize bgnR t2 = R at *
  clear hT
  (refine wp_region_up_alloc_e [(8, 11), (9, 11)] 11 10 (by kernel_rfl) (by kernel_rfl) (by kernel_rfl) rfl rfl (fun A w => by simp only [go_sem]; rfl) ?_; intro X; (repeat (first | simp only [addL] | simp only [addAt] | simp only [List.push_toArray] | simp only [List.append_toArray] | simp only [List.nil_append] | simp only [List.cons_append] | simp only [List.take_succ_cons] | simp only [List.take_zero] | simp only [List.drop_succ_cons] | simp only [List.drop_zero] | simp only [List.eraseIdx_cons_succ] | simp only [List.eraseIdx_cons_zero])); (repeat (first | (go_big_quiet_want; refine q_ltab rfl rfl ?_; simp only [Act.put, List.setIfInBounds_toArray, List.set_cons_succ, List.set_cons_zero]; go_big_quiet_on) | go_big_quiet_step ((first | (go_at_call 19; (with_reducible refine Up.calls (HBG.out _ ?_)); (repeat' (first | (with_reducible exact Below.refl _ _) | (with_reducible assumption) | (with_reducible refine Below.setCell ?_ ?_ _) | (with_reducible refine Below.alloc ?_ ?_ _) | (with_reducible refine Below.drew ?_) | (with_reducible refine Up.base _ ?_ ?_) | (with_reducible exact LeSize.out) | exact LeSize.out | exact Nat.le_add_right_of_le LeSize.out | exact Nat.le_add_right_of_le (Nat.le_add_right_of_le LeSize.out) | (with_reducible exact Nat.le_refl _) | (simp; done) | (simp; omega)))) | (go_at_call 12; (with_reducible refine Up.calls (HST.out _ ?_)); (repeat' (first | (with_reducible exact Below.refl _ _) | (with_reducible assumption) | (with_reducible refine Below.setCell ?_ ?_ _) | (with_reducible refine Below.alloc ?_ ?_ _) | (with_reducible refine Below.drew ?_) | (with_reducible refine Up.base _ ?_ ?_) | (with_reducible exact LeSize.out) | exact LeSize.out | exact Nat.le_add_right_of_le LeSize.out | exact Nat.le_add_right_of_le (Nat.le_add_right_of_le LeSize.out) | (with_reducible exact Nat.le_refl _) | (simp; done) | (simp; omega)))) | fail)))); refine wpQuiet_nil ?_; clear X; rintro q u hq hO; (try simp at hq); have lO := laid_le hO; have hOB : IsBlk u.w q _ _ := ⟨hO⟩; clear hO; go_simp)
  haveI : LeSize uT.w.heap.size u.w := ⟨by have := u.bel.size; simp only [World.size_alloc] at this; omega⟩
  haveI : Apart uT.w.heap.size q := ⟨by omega⟩
  go_wp2
  refine NoPanic.normal ?_
  go_wp2_with (first | (refine g_ltab rfl rfl rfl ?_; go_simp) | (go_at_call 36; refine (Up.run (HNW.out _ (by (repeat' (first | (with_reducible exact Below.refl _ _) | (with_reducible assumption) | (with_reducible refine Below.setCell ?_ ?_ _) | (with_reducible refine Below.alloc ?_ ?_ _) | (with_reducible refine Below.drew ?_) | (with_reducible refine Up.base _ ?_ ?_) | (with_reducible exact LeSize.out) | exact LeSize.out | exact Nat.le_add_right_of_le LeSize.out | exact Nat.le_add_right_of_le (Nat.le_add_right_of_le LeSize.out) | (with_reducible exact Nat.le_refl _) | (simp; done) | (simp; omega)))))).mono ?_; rintro e w' ⟨rfl, unw, rfl⟩) | (go_at_call 8; refine (Up.run (HPT.out _ (by (repeat' (first | (with_reducible exact Below.refl _ _) | (with_reducible assumption) | (with_reducible refine Below.setCell ?_ ?_ _) | (with_reducible refine Below.alloc ?_ ?_ _) | (with_reducible refine Below.drew ?_) | (with_reducible refine Up.base _ ?_ ?_) | (with_reducible exact LeSize.out) | exact LeSize.out | exact Nat.le_add_right_of_le LeSize.out | exact Nat.le_add_right_of_le (Nat.le_add_right_of_le LeSize.out) | (with_reducible exact Nat.le_refl _) | (simp; done) | (simp; omega)))))).mono ?_; rintro e w' ⟨rfl, upt, rfl⟩))
  go_ret
  have hwu := uT.bel.size
  exact ⟨rfl, by (repeat' (first | (with_reducible exact Below.refl _ _) | (with_reducible assumption) | (with_reducible refine Below.setCell ?_ ?_ _) | (with_reducible refine Below.alloc ?_ ?_ _) | (with_reducible refine Below.drew ?_) | (with_reducible refine Up.base _ ?_ ?_) | (with_reducible exact LeSize.out) | exact LeSize.out | exact Nat.le_add_right_of_le LeSize.out | exact Nat.le_add_right_of_le (Nat.le_add_right_of_le LeSize.out) | (with_reducible exact Nat.le_refl _) | (simp; done) | (simp; omega)))⟩
end
section
open Go.ChangeShapes Go.WideShapes Go.ChangeAt Go.RowKit Go.Shelf
set_option linter.unusedVariables false
attribute [local go_sem] IsBlk.cell IsBlk.frozen

theorem eq_two (y u : Int) (w : World) : Sem.run Try.prog (Op.equalIn 9999 34 (.agg #[.int .i64 y, .int .i64 u]) (.agg #[.int .i64 y, .int .i64 u])) w = .ok true w := by
  obtain ⟨i0, hinfo⟩ : ∃ i, Try.prog.info? 3 = some i := by
    have : (Try.prog.info? 3).isSome = true := by kernel_rfl
    exact Option.isSome_iff_exists.1 this
  have hc : Try.prog.cellsOf 3 = 1 := by kernel_rfl
  have := run_equalIn_array (P := Try.prog) w 9998 #[.int .i64 y, .int .i64 u] #[.int .i64 y, .int .i64 u] Try.underlying34 hinfo
  rw [this, hc]
  simp [List.range_succ, Op.eqItems, part, isAgg, run_underlying Try.underlying3, Sem.run_bind, Result.andThen, go_sem]
set_option maxHeartbeats 8000000 in
set_option maxRecDepth 100000 in
theorem ringPut_walk (a : Option Addr) (cap : Nat) (zs : List Int) (s : Int) (w : World) (hl : zs.length ≤ cap ∧ cap ≤ 9223372036854775807) (_ : Hdr w a cap) (hz : Ints w a zs) (_ : ∀ i, i < zs.length → InKind .i64 (zs.getD i 0)) (_ : InKind .i64 s) :
    Calls Try.prog 3 #[.slice a zs.length cap, .int .i64 s] w fun e w' => e = .returned (.bool true) ∧ Below w.heap.size w w' := by
  have HZ : Hid (∀ w', Below w.heap.size w w' → Ints w' a zs) := Lib.hid fun w' hb => Row1.below hz hb (Nat.le_refl _)
  have HZL : Hid (zs.length ≤ 9223372036854775807) := Lib.hid (by omega)
  have z := zeroTab
  have heq : ∀ (x y u : Int) (b : Bool) (w : World), Sem.run Try.prog (binOp .eql 36 (.agg #[.int .i64 x, .int .i64 y, .int .i64 u, .bool b]) (.agg #[.int .i64 x, .int .i64 y, .int .i64 u, .bool b])) w = .ok (.bool true) w := fun x y u b w => by simp [go_sem, eq_two, Result.andThen]
  clear hz hl
  go_enter Try.func3, Try.ntmps3
  go_upto_region 2 with (first | (go_at_call 7; refine (ltable_up _ _ _ _ HZL.out (HZ.out _ (by (repeat' (first | (with_reducible exact Below.refl _ _) | (with_reducible assumption) | (with_reducible refine Below.setCell ?_ ?_ _) | (with_reducible refine Below.alloc ?_ ?_ _) | (with_reducible refine Below.drew ?_) | (with_reducible refine Up.base _ ?_ ?_) | (with_reducible exact LeSize.out) | exact LeSize.out | exact Nat.le_add_right_of_le LeSize.out | exact Nat.le_add_right_of_le (Nat.le_add_right_of_le LeSize.out) | (with_reducible exact Nat.le_refl _) | (simp; done) | (simp; omega)))))).mono ?_; rintro e w' ⟨T, uT, rfl, rfl, hT⟩) | (refine l_newTab rfl rfl rfl rfl inferInstance hT rfl ?_; go_simp))
  haveI : Sz131 T := ⟨hT.size⟩
  have HT : Hid (∀ w', Below uT.w.heap.size uT.w w' → IsTab w' T (tabM zs)) := Lib.hid fun w' hb => hT.below hb (Nat.le_refl _)
  have HPA : Hid (∀ w', Below uT.w.heap.size uT.w w' → Calls Try.prog 8 #[.agg T, .int .i64 s] w' fun e w'' => e = .returned (.agg #[.int .i64 (putG (tabM zs).gr s), .int .i64 (putA (tabM zs).gr s).1, .int .i64 (putA (tabM zs).gr s).2, .bool false]) ∧ Below w'.heap.size w' w'') := Lib.hid fun w' hb => ring_put T (tabM zs) s w' (HT.out w' hb)
  have HPB : Hid (∀ w', Below uT.w.heap.size uT.w w' → Calls Try.prog 9 #[.agg T, .int .i64 s] w' fun e w'' => e = .returned (.agg #[.int .i64 (putG (tabM zs).gr s), .int .i64 (putA (tabM zs).gr s).1, .int .i64 (putA (tabM zs).gr s).2, .bool false]) ∧ Below w'.heap.size w' w'') := Lib.hid fun w' hb => rput_any T (tabM zs) s w' (HT.out w' hb)
  generalize (putA (tabM zs).gr s).1 = q1 at *
  generalize (putA (tabM zs).gr s).2 = q2 at *
  generalize putG (tabM zs).gr s = q0 at *
  clear hT
  (refine wp_region_up (by kernel_rfl) (by kernel_rfl) ?_; (repeat (first | (go_big_quiet_want; refine q_ltab rfl rfl ?_; simp only [Act.put, List.setIfInBounds_toArray, List.set_cons_succ, List.set_cons_zero]; go_big_quiet_on) | go_big_quiet_step ((first | (go_at_call 8; (with_reducible refine Up.calls (HPA.out _ ?_)); (repeat' (first | (with_reducible exact Below.refl _ _) | (with_reducible assumption) | (with_reducible refine Below.setCell ?_ ?_ _) | (with_reducible refine Below.alloc ?_ ?_ _) | (with_reducible refine Below.drew ?_) | (with_reducible refine Up.base _ ?_ ?_) | (with_reducible exact LeSize.out) | exact LeSize.out | exact Nat.le_add_right_of_le LeSize.out | exact Nat.le_add_right_of_le (Nat.le_add_right_of_le LeSize.out) | (with_reducible exact Nat.le_refl _) | (simp; done) | (simp; omega)))) | (go_at_call 9; (with_reducible refine Up.calls (HPB.out _ ?_)); (repeat' (first | (with_reducible exact Below.refl _ _) | (with_reducible assumption) | (with_reducible refine Below.setCell ?_ ?_ _) | (with_reducible refine Below.alloc ?_ ?_ _) | (with_reducible refine Below.drew ?_) | (with_reducible refine Up.base _ ?_ ?_) | (with_reducible exact LeSize.out) | exact LeSize.out | exact Nat.le_add_right_of_le LeSize.out | exact Nat.le_add_right_of_le (Nat.le_add_right_of_le LeSize.out) | (with_reducible exact Nat.le_refl _) | (simp; done) | (simp; omega)))) | (go_at_call 10; exact Up.calls (awake19_any _)) | fail)))); refine wpQuiet_nil ?_; rintro _ ⟨u, rfl⟩)
  go_wp2
  go_ret
  have hwu := uT.bel.size
  exact ⟨rfl, by (repeat' (first | (with_reducible exact Below.refl _ _) | (with_reducible assumption) | (with_reducible refine Below.setCell ?_ ?_ _) | (with_reducible refine Below.alloc ?_ ?_ _) | (with_reducible refine Below.drew ?_) | (with_reducible refine Up.base _ ?_ ?_) | (with_reducible exact LeSize.out) | exact LeSize.out | exact Nat.le_add_right_of_le LeSize.out | exact Nat.le_add_right_of_le (Nat.le_add_right_of_le LeSize.out) | (with_reducible exact Nat.le_refl _) | (simp; done) | (simp; omega)))⟩
set_option maxRecDepth 100000 in
theorem RingPut_lifted (os : Os) (started : os.Started) (H : Type) (enc : TypeId × Value → H) :
    ReturnsInHanded {} Try.checked os 3 .any (Rows.ringPutSpec.pre6 enc Try.prog Try.f3 Rows.ringPutRow.domain false) (Rows.ringPutSpec.post enc Try.prog Try.f3 false true false false) := by
  refine returnsInHanded_of_change (C := Try.checked) own started (by kernel_rfl) Try.func3
    (ChangeSpec.witness6 (enc := enc) (C := Try.checked) false ⟨#[], #[.slice none 0 0, .int .i64 0], []⟩ 8 (by kernel_rfl) (by kernel_rfl) (by kernel_rfl) (by kernel_rfl)) ?_
  intro W base args ds gs before hval0 hW hcnd _
  have hval : ∀ (j : Nat) t v, Try.f3.params[j]? = some t → args[j]? = some v → Value.okWide Try.prog W .any base t v := hval0
  have hW' := hW
  obtain ⟨p, q, hA0, hV, rfl, hfz, hnd⟩ := hW
  have hA : DataW.TrodAll enc Try.prog W 0 (fun _ => true) true Try.f3.params.toList args.toList ds p := hA0
  rw [Try.params3] at hA hval
  obtain ⟨v0, vs0, d0, ds0, p0, q0, hargs, rfl, rfl, h0, r0⟩ := trodAll_cons hA
  obtain ⟨v1, vs1, d1, ds1, p1, q1, rfl, rfl, rfl, h1, r1⟩ := trodAll_cons r0
  obtain ⟨rfl, rfl, rfl⟩ := trodAll_nil r1
  obtain rfl : args = #[v0, v1] := by cases args; simp_all
  obtain ⟨rfl, rfl⟩ := trodVars_none hV
  have k0 := h0
  have lt0 : ∀ x ∈ p0, x.block < W.heap.size := by obtain ⟨m, hm⟩ := k0; exact DataW.trod_lt m _ _ _ hm
  have k1 := h1
  have lt1 : ∀ x ∈ p1, x.block < W.heap.size := by obtain ⟨m, hm⟩ := k1; exact DataW.trod_lt m _ _ _ hm
  obtain ⟨a0, cap0, z0, rfl, hl0, hm0, hh0, hr0, iz0⟩ := open_ints1 Try.underlying22 Try.underlying3 (by kernel_rfl) (hval 0 22 v0 rfl rfl) k0
  obtain ⟨a1, rfl, w1⟩ := open_int1 Try.underlying3 (hval 1 3 v1 rfl rfl)
  clear hA0 hval0
  refine (ringPut_walk a0 cap0 z0 a1 W ⟨hl0, hm0⟩ hh0 hr0 iz0 w1).mono fun e W' ⟨he, bel⟩ => ?_
  subst he
  exact ⟨_, rfl, _, _, _, [], _, [], hW', trodAll_mk1 (shut_bool Try.underlying4 _), (trodAll_cons_mk (Below.trod laidOut (by kernel_rfl) (of_decide_eq_true (by kernel_rfl)) k0 bel lt0) (trodAll_cons_mk (Below.trod laidOut (by kernel_rfl) (of_decide_eq_true (by kernel_rfl)) k1 bel lt1) trodAll_mk0)), rfl, bel.frame _, fun h => by cases h⟩

theorem RingPut_over : Rows.ringPutRow.holds Try.pinned (OpenSpec.ofChange Rows.ringPutSpec) :=
  OpenClaim.holds_of_wide 3 Try.f3 rfl rfl rfl rfl rfl rfl rfl ⟨rfl, rfl, rfl, rfl, rfl⟩ rfl rfl rfl rfl rfl (by kernel_rfl) Try.func3 (by kernel_rfl)
    (of_decide_eq_true (by kernel_rfl)) (by unfold Func.isWrapper; first | (rw [if_pos (by decide +kernel)]; kernel_rfl) | (rw [if_neg (by decide +kernel)]; exact ⟨rfl, rfl⟩))
    (fun os started H enc _ => RingPut_lifted os started H enc)

/-- The given statement. -/
theorem RingPut_holds : Rows.RingPutSaid := RingPut_over
#print axioms RingPut_holds
end
end
end
section
section
section
open Go.RowKit
set_option linter.unusedVariables false
attribute [local go_sem] IsBlk.cell IsBlk.frozen ruA_0 ruA_1 ruA_2 ruA_3 ruA_4 ruA_5 ruA_6 ruA_7 ruA_8

set_option maxHeartbeats 1000000 in
theorem rref_red (o : Rn) (w : World) : Calls Try.prog 47 #[.agg (RuA o)] w fun e w' => e = .returned (.bool (redM o)) ∧ Below w.heap.size w w' := by
  unfold redM RuA
  cases n1 : (o.c == 1) <;> cases n2 : (o.c == 2) <;> cases n3 : (o.c == 3)
  all_goals (try (exfalso; simp at n1 n2 n3; omega))
  all_goals
    have m1 : (o.c != 1) = !(o.c == 1) := rfl
    have m2 : (o.c != 2) = !(o.c == 2) := rfl
    have m3 : (o.c != 3) = !(o.c == 3) := rfl
    rw [n1] at m1
    rw [n2] at m2
    rw [n3] at m3
    go_enter Try.func47, Try.ntmps47
    go_wp2
    go_ret
    exact ⟨rfl, by (repeat' (first | (with_reducible exact Below.refl _ _) | (with_reducible assumption) | (with_reducible refine Below.setCell ?_ ?_ _) | (with_reducible refine Below.alloc ?_ ?_ _) | (with_reducible refine Below.drew ?_) | (with_reducible refine Up.base _ ?_ ?_) | (with_reducible exact LeSize.out) | exact LeSize.out | exact Nat.le_add_right_of_le LeSize.out | exact Nat.le_add_right_of_le (Nat.le_add_right_of_le LeSize.out) | (with_reducible exact Nat.le_refl _) | (simp; done) | (simp; omega)))⟩
set_option maxHeartbeats 4000000 in
set_option maxRecDepth 100000 in
theorem rref_green (R : Array Value) (rn : Nat → Rn) (w : World) (hR : IsRuns R rn) :
    Calls Try.prog 18 #[.agg R] w fun e w' => e = .returned (.int .i64 (grnN rn 8)) ∧ Below w.heap.size w w' := by
  have HC : Hid (∀ k, k < 8 → R[k * 12]? = some (.int .i64 (rn k).c)) := Lib.hid fun k hk => hR.2 k hk 0 (by omega)
  clear hR
  go_enter Try.func18, Try.ntmps18
  go_wp2
  go_loopw [3, 4] (fun s i wr => ∃ k : Nat, k ≤ 8 ∧ i = .int .i64 k ∧ s = .int .i64 (grnN rn k) ∧ IsBlk wr w.heap.size R 46 ∧ Below w.heap.size w wr) (fun _ i _ => 8 - (intOf i).toNat)
  case atStart => exact ⟨0, Nat.zero_le _, rfl, rfl, inferInstance, by (repeat' (first | (with_reducible exact Below.refl _ _) | (with_reducible assumption) | (with_reducible refine Below.setCell ?_ ?_ _) | (with_reducible refine Below.alloc ?_ ?_ _) | (with_reducible refine Below.drew ?_) | (with_reducible refine Up.base _ ?_ ?_) | (with_reducible exact LeSize.out) | exact LeSize.out | exact Nat.le_add_right_of_le LeSize.out | exact Nat.le_add_right_of_le (Nat.le_add_right_of_le LeSize.out) | (with_reducible exact Nat.le_refl _) | (simp; done) | (simp; omega)))⟩
  case round =>
    obtain ⟨k, hk, rfl, rfl, iR, hb⟩ := hrel
    haveI : LeSize w.heap.size wr := ⟨hb.size⟩
    by_cases hlt : k < 8
    · have hc := HC.out k hlt
      have HS := Lib.hid (grnN_s rn k rfl)
      have hkI : (k : Int) < 8 := by omega
      generalize rn k = r at *
      generalize grnN rn k = s0 at *
      cases hcc : (r.c == 1)
      all_goals
        rw [hcc] at HS
        go_wp2_with (go_at_call 23; refine (Up.run (rwith_any _ _ _)).mono ?_; rintro e w' ⟨rfl, urw, rfl⟩)
        go_roundw
        case rel => exact ⟨k + 1, by omega, by go_num, by rw [HS.out]; rfl, inferInstance, by (repeat' (first | (with_reducible exact Below.refl _ _) | (with_reducible assumption) | (with_reducible refine Below.setCell ?_ ?_ _) | (with_reducible refine Below.alloc ?_ ?_ _) | (with_reducible refine Below.drew ?_) | (with_reducible refine Up.base _ ?_ ?_) | (with_reducible exact LeSize.out) | exact LeSize.out | exact Nat.le_add_right_of_le LeSize.out | exact Nat.le_add_right_of_le (Nat.le_add_right_of_le LeSize.out) | (with_reducible exact Nat.le_refl _) | (simp; done) | (simp; omega)))⟩
        case measure => simp [intOf]; omega
    · obtain rfl : k = 8 := by omega
      go_wp2
      go_ret
      exact ⟨rfl, by (repeat' (first | (with_reducible exact Below.refl _ _) | (with_reducible assumption) | (with_reducible refine Below.setCell ?_ ?_ _) | (with_reducible refine Below.alloc ?_ ?_ _) | (with_reducible refine Below.drew ?_) | (with_reducible refine Up.base _ ?_ ?_) | (with_reducible exact LeSize.out) | exact LeSize.out | exact Nat.le_add_right_of_le LeSize.out | exact Nat.le_add_right_of_le (Nat.le_add_right_of_le LeSize.out) | (with_reducible exact Nat.le_refl _) | (simp; done) | (simp; omega)))⟩
def rdsN (r : Nat → Rn) : Nat → Int
  | 0 => 0
  | n + 1 => if redM (r n) then withM (rdsN r n) n else rdsN r n
theorem rdsN_s (r : Nat → Rn) (n : Nat) {b : Bool} (h : redM (r n) = b) : rdsN r (n + 1) = if b then withM (rdsN r n) n else rdsN r n := by subst h; rfl
set_option maxHeartbeats 4000000 in
set_option maxRecDepth 100000 in
theorem rref_reds (R : Array Value) (rn : Nat → Rn) (w : World) (hR : IsRuns R rn) :
    Calls Try.prog 16 #[.agg R] w fun e w' => e = .returned (.int .i64 (rdsN rn 8)) ∧ Below w.heap.size w w' := by
  have HRU : Hid (∀ k, k < 8 → IsRu R (k * 12) (rn k)) := Lib.hid fun k hk => ⟨fun j hj => hR.2 k hk j hj⟩
  clear hR
  go_enter Try.func16, Try.ntmps16
  go_wp2
  go_loopw [3, 4] (fun s i wr => ∃ k : Nat, k ≤ 8 ∧ i = .int .i64 k ∧ s = .int .i64 (rdsN rn k) ∧ IsBlk wr w.heap.size R 46 ∧ Below w.heap.size w wr) (fun _ i _ => 8 - (intOf i).toNat)
  case atStart => exact ⟨0, Nat.zero_le _, rfl, rfl, inferInstance, by (repeat' (first | (with_reducible exact Below.refl _ _) | (with_reducible assumption) | (with_reducible refine Below.setCell ?_ ?_ _) | (with_reducible refine Below.alloc ?_ ?_ _) | (with_reducible refine Below.drew ?_) | (with_reducible refine Up.base _ ?_ ?_) | (with_reducible exact LeSize.out) | exact LeSize.out | exact Nat.le_add_right_of_le LeSize.out | exact Nat.le_add_right_of_le (Nat.le_add_right_of_le LeSize.out) | (with_reducible exact Nat.le_refl _) | (simp; done) | (simp; omega)))⟩
  case round =>
    obtain ⟨k, hk, rfl, rfl, iR, hb⟩ := hrel
    haveI : LeSize w.heap.size wr := ⟨hb.size⟩
    by_cases hlt : k < 8
    · haveI := HRU.out k hlt
      have HS := Lib.hid (rdsN_s rn k rfl)
      have hkI : (k : Int) < 8 := by omega
      have HC : Hid (∀ w', Calls Try.prog 47 #[.agg (RuA (rn k))] w' fun e w'' => e = .returned (.bool (redM (rn k))) ∧ Below w'.heap.size w' w'') := Lib.hid fun w' => rref_red _ w'
      generalize rdsN rn k = s0 at *
      cases hcc : redM (rn k)
      all_goals
        rw [hcc] at HS HC
        generalize rn k = r at *
        go_wp2_with (first | (refine l_ru rfl rfl rfl ?_; go_simp) | (go_at_call 47; refine (Up.run (HC.out _)).mono ?_; rintro e w' ⟨rfl, urd, rfl⟩) | (go_at_call 23; refine (Up.run (rwith_any _ _ _)).mono ?_; rintro e w' ⟨rfl, urw, rfl⟩))
        go_roundw
        case rel => exact ⟨k + 1, by omega, by go_num, by rw [HS.out]; rfl, inferInstance, by (repeat' (first | (with_reducible exact Below.refl _ _) | (with_reducible assumption) | (with_reducible refine Below.setCell ?_ ?_ _) | (with_reducible refine Below.alloc ?_ ?_ _) | (with_reducible refine Below.drew ?_) | (with_reducible refine Up.base _ ?_ ?_) | (with_reducible exact LeSize.out) | exact LeSize.out | exact Nat.le_add_right_of_le LeSize.out | exact Nat.le_add_right_of_le (Nat.le_add_right_of_le LeSize.out) | (with_reducible exact Nat.le_refl _) | (simp; done) | (simp; omega)))⟩
        case measure => simp [intOf]; omega
    · obtain rfl : k = 8 := by omega
      go_wp2
      go_ret
      exact ⟨rfl, by (repeat' (first | (with_reducible exact Below.refl _ _) | (with_reducible assumption) | (with_reducible refine Below.setCell ?_ ?_ _) | (with_reducible refine Below.alloc ?_ ?_ _) | (with_reducible refine Below.drew ?_) | (with_reducible refine Up.base _ ?_ ?_) | (with_reducible exact LeSize.out) | exact LeSize.out | exact Nat.le_add_right_of_le LeSize.out | exact Nat.le_add_right_of_le (Nat.le_add_right_of_le LeSize.out) | (with_reducible exact Nat.le_refl _) | (simp; done) | (simp; omega)))⟩
def clashM (t : Tab) (p q : Nat) : Bool := hasM (t.cf p) q || hasM (t.cf q) p
set_option maxHeartbeats 4000000 in
set_option maxRecDepth 100000 in
theorem clash_any (T : Array Value) (t : Tab) (p q : Nat) (w : World) (hT : IsTab w T t) (hp : p < 8) (hq : q < 8) :
    Calls Try.prog 15 #[.agg T, .int .i64 p, .int .i64 q] w fun e w' => e = .returned (.bool (clashM t p q)) ∧ Below w.heap.size w w' := by
  have c1 := hT.cf p hp
  have c2 := hT.cf q hq
  have hpI : (p : Int) < 8 := by omega
  have hqI : (q : Int) < 8 := by omega
  unfold clashM
  generalize t.cf p = cp at *
  generalize t.cf q = cq at *
  clear hT
  have H1 : Hid (∀ w', Calls Try.prog 14 #[.int .i64 cp, .int .i64 q] w' fun e w'' => e = .returned (.bool (hasM cp q)) ∧ w' = w'') := Lib.hid fun w' => rhas_any _ _ w'
  have H2 : Hid (∀ w', Calls Try.prog 14 #[.int .i64 cq, .int .i64 p] w' fun e w'' => e = .returned (.bool (hasM cq p)) ∧ w' = w'') := Lib.hid fun w' => rhas_any _ _ w'
  cases h1 : hasM cp q
  all_goals
    rw [h1] at H1
    go_enter Try.func15, Try.ntmps15
    go_wp2_with (go_at_call 14; first | (with_reducible refine (H1.out _).mono ?_; rintro e w' ⟨rfl, rfl⟩) | (with_reducible refine (H2.out _).mono ?_; rintro e w' ⟨rfl, rfl⟩))
    go_ret
    exact ⟨by simp, by (repeat' (first | (with_reducible exact Below.refl _ _) | (with_reducible assumption) | (with_reducible refine Below.setCell ?_ ?_ _) | (with_reducible refine Below.alloc ?_ ?_ _) | (with_reducible refine Below.drew ?_) | (with_reducible refine Up.base _ ?_ ?_) | (with_reducible exact LeSize.out) | exact LeSize.out | exact Nat.le_add_right_of_le LeSize.out | exact Nat.le_add_right_of_le (Nat.le_add_right_of_le LeSize.out) | (with_reducible exact Nat.le_refl _) | (simp; done) | (simp; omega)))⟩
end
end
section
section
open Go.RowKit
set_option linter.unusedVariables false
attribute [local go_sem] IsBlk.cell IsBlk.frozen

def ringG (t : Tab) (g : Int) : Int := g % (t.gr.length : Int)
def ringP (t : Tab) (g k a : Int) : Int := a % (((rowZ t.gr (ringG t g) k).length : Int) + 1) - 1
set_option maxHeartbeats 8000000 in
set_option maxRecDepth 100000 in
theorem lrings_any (T : Array Value) (t : Tab) (g a0 a1 : Int) (x : Bool) (w : World) (hT : IsTab w T t) (hn : 1 ≤ t.gr.length) :
    Calls Try.prog 11 #[.agg T, .agg #[.int .i64 g, .int .i64 a0, .int .i64 a1, .bool x]] w fun e w' => e = .returned (.agg #[.int .i64 (ringG t g), .int .i64 (ringP t g 0 a0), .int .i64 (ringP t g 1 a1), .bool x]) ∧ Below w.heap.size w w' := by
  obtain ⟨gv, d, r, b, hTe, hI⟩ := hT
  obtain ⟨ga, gcap, H, rfl, hrow, hints⟩ := hI.gr
  have t104 : T[104]? = some (.slice ga t.gr.length gcap) := by rw [hTe, arrF_get _ _ _ (by omega)]; rfl
  have lg := hI.lg
  have lr := Lib.hid hI.lr
  clear hI hTe hints
  have hG0 : 0 ≤ ringG t g := Int.emod_nonneg _ (by omega)
  have hG1 : ringG t g < t.gr.length := Int.emod_lt_of_pos _ (by omega)
  obtain ⟨n, hgn⟩ := Int.eq_ofNat_of_zero_le hG0
  have hnl : n < t.gr.length := by omega
  have hP0 : ringP t g 0 a0 = a0 % (((rowOf t.gr n 0).length : Int) + 1) - 1 := by unfold ringP rowZ; rw [if_pos (by omega), hgn]; rfl
  have hP1 : ringP t g 1 a1 = a1 % (((rowOf t.gr n 1).length : Int) + 1) - 1 := by unfold ringP rowZ; rw [if_pos (by omega), hgn]; rfl
  have HPG : Hid (∀ w', Calls Try.prog 22 #[.int .i64 g, .int .i64 t.gr.length] w' fun e w'' => e = .returned (.int .i64 n) ∧ w' = w'') := Lib.hid fun w' => by rw [← hgn]; exact place_any g t.gr.length w' (by omega) (by omega)
  have hl0 := lr.out n 0
  have hl1 := lr.out n 1
  have HPL0 : Hid (∀ w', Calls Try.prog 22 #[.int .i64 a0, .int .i64 (((rowOf t.gr n 0).length : Int) + 1)] w' fun e w'' => e = .returned (.int .i64 (a0 % (((rowOf t.gr n 0).length : Int) + 1))) ∧ w' = w'') := Lib.hid fun w' => place_any a0 _ w' (by omega) (by omega)
  have HPL1 : Hid (∀ w', Calls Try.prog 22 #[.int .i64 a1, .int .i64 (((rowOf t.gr n 1).length : Int) + 1)] w' fun e w'' => e = .returned (.int .i64 (a1 % (((rowOf t.gr n 1).length : Int) + 1))) ∧ w' = w'') := Lib.hid fun w' => place_any a1 _ w' (by omega) (by omega)
  have hm0 : 0 ≤ a0 % (((rowOf t.gr n 0).length : Int) + 1) ∧ a0 % (((rowOf t.gr n 0).length : Int) + 1) ≤ 8 := ⟨Int.emod_nonneg _ (by omega), by have := Int.emod_lt_of_pos a0 (show 0 < ((rowOf t.gr n 0).length : Int) + 1 by omega); omega⟩
  have hm1 : 0 ≤ a1 % (((rowOf t.gr n 1).length : Int) + 1) ∧ a1 % (((rowOf t.gr n 1).length : Int) + 1) ≤ 8 := ⟨Int.emod_nonneg _ (by omega), by have := Int.emod_lt_of_pos a1 (show 0 < ((rowOf t.gr n 1).length : Int) + 1 by omega); omega⟩
  rw [hP0, hP1, hgn]
  generalize a0 % (((rowOf t.gr n 0).length : Int) + 1) = z0 at *
  generalize a1 % (((rowOf t.gr n 1).length : Int) + 1) = z1 at *
  obtain ⟨gb, goff, rfl, hgb, hgc⟩ := hrow.resolve_left (by omega)
  have hc0 : w.cell? ⟨gb, goff + n * 2, none⟩ = some (.slice (H n 0).1 (rowOf t.gr n 0).length (H n 0).2) := hgc n hnl 0 (by omega)
  have hc1 : w.cell? ⟨gb, goff + n * 2 + 1, none⟩ = some (.slice (H n 1).1 (rowOf t.gr n 1).length (H n 1).2) := hgc n hnl 1 (by omega)
  have e0 : ((t.gr.length : Int) == 0) = false := beq_eq_false_iff_ne.2 (by omega)
  have hnI : (n : Int) < t.gr.length := by omega
  generalize (rowOf t.gr n 0).length = l0 at *
  generalize (rowOf t.gr n 1).length = l1 at *
  generalize (H n 0).1 = A0 at *
  generalize (H n 1).1 = A1 at *
  generalize (H n 0).2 = C0 at *
  generalize (H n 1).2 = C1 at *
  generalize t.gr.length = L at *
  haveI : LeSize (gb + 1) w := ⟨hgb⟩
  clear hgc hrow hP0 hP1 hG0 hG1 hgn lr
  go_enter Try.func11, Try.ntmps11
  go_wp2_with (go_at_call 22; refine (HPG.out _).mono ?_; rintro e w' ⟨rfl, rfl⟩)
  go_loopw [7] (fun i wr => ∃ k : Int, (0 ≤ k ∧ k ≤ 2) ∧ i = .int .i64 k ∧ Below w.heap.size w wr ∧ LeSize (w.heap.size + 1 + 1 + 1 + 1) wr ∧ IsBlk wr w.heap.size T 32 ∧ IsBlk wr (w.heap.size + 1) #[.int .i64 g, .int .i64 a0, .int .i64 a1, .bool x] 36 ∧ IsBlk wr (w.heap.size + 1 + 1) #[.int .i64 0, .int .i64 0, .int .i64 0, .bool false] 36 ∧ ∃ b0 b1, IsBlk wr (w.heap.size + 1 + 1 + 1) #[.int .i64 n, .int .i64 b0, .int .i64 b1, .bool x] 36 ∧ ((k = 0 ∧ b0 = 0 ∧ b1 = 0) ∨ (k = 1 ∧ b0 = z0 - 1 ∧ b1 = 0) ∨ (k = 2 ∧ b0 = z0 - 1 ∧ b1 = z1 - 1))) (fun i _ => 2 - (intOf i).toNat)
  case atStart => exact ⟨0, by omega, rfl, by (repeat' (first | (with_reducible exact Below.refl _ _) | (with_reducible assumption) | (with_reducible refine Below.setCell ?_ ?_ _) | (with_reducible refine Below.alloc ?_ ?_ _) | (with_reducible refine Below.drew ?_) | (with_reducible refine Up.base _ ?_ ?_) | (with_reducible exact LeSize.out) | exact LeSize.out | exact Nat.le_add_right_of_le LeSize.out | exact Nat.le_add_right_of_le (Nat.le_add_right_of_le LeSize.out) | (with_reducible exact Nat.le_refl _) | (simp; done) | (simp; omega))), inferInstance, inferInstance, inferInstance, inferInstance, 0, 0, ⟨IsBlk.out⟩, .inl ⟨rfl, rfl, rfl⟩⟩
  case round =>
    obtain ⟨k, hk, rfl, hb, iS, iT, iG, iZ, b0, b1, iO, hcs⟩ := hrel
    haveI : LeSize w.heap.size wr := ⟨hb.size⟩
    haveI : LeSize (gb + 1) wr := ⟨by have := hb.size; omega⟩
    have hd0 : wr.cell? ⟨gb, goff + n * 2, none⟩ = some (.slice A0 l0 C0) := by rw [hb.cell (p := ⟨gb, goff + n * 2, none⟩) hgb]; exact hc0
    have hd1 : wr.cell? ⟨gb, goff + n * 2 + 1, none⟩ = some (.slice A1 l1 C1) := by rw [hb.cell (p := ⟨gb, goff + n * 2 + 1, none⟩) hgb]; exact hc1
    haveI a1' : Apart w.heap.size (w.heap.size + 1 + 1 + 1) := ⟨by omega⟩
    haveI a2' : Apart (w.heap.size + 1) (w.heap.size + 1 + 1 + 1) := ⟨by omega⟩
    haveI a3' : Apart (w.heap.size + 1 + 1) (w.heap.size + 1 + 1 + 1) := ⟨by omega⟩
    rcases hcs with ⟨rfl, rfl, rfl⟩ | ⟨rfl, rfl, rfl⟩ | ⟨rfl, rfl, rfl⟩
    · have HPL := HPL0
      clear HPL0 HPL1 HPG
      go_wp2
      (refine wp_region_up_tail 18 (by kernel_rfl) (by kernel_rfl) ?_; simp only [List.take_succ_cons, List.take_zero, List.drop_succ_cons, List.drop_zero]; (repeat (first | go_big_quiet_step ((first | (go_at_call 22; exact Up.pure (HPL.out _)) | fail)))); refine wpQuiet_nil ?_; rintro _ ⟨u, rfl⟩)
      go_wp2
      go_roundw
      case rel => exact ⟨1, by omega, rfl, by (repeat' (first | (with_reducible exact Below.refl _ _) | (with_reducible assumption) | (with_reducible refine Below.setCell ?_ ?_ _) | (with_reducible refine Below.alloc ?_ ?_ _) | (with_reducible refine Below.drew ?_) | (with_reducible refine Up.base _ ?_ ?_) | (with_reducible exact LeSize.out) | exact LeSize.out | exact Nat.le_add_right_of_le LeSize.out | exact Nat.le_add_right_of_le (Nat.le_add_right_of_le LeSize.out) | (with_reducible exact Nat.le_refl _) | (simp; done) | (simp; omega))), inferInstance, inferInstance, inferInstance, inferInstance, z0 - 1, 0, ⟨IsBlk.out⟩, .inr (.inl ⟨rfl, rfl, rfl⟩)⟩
      case measure => simp [intOf]
    · have HPL := HPL1
      clear HPL0 HPL1 HPG
      go_wp2
      (refine wp_region_up_tail 18 (by kernel_rfl) (by kernel_rfl) ?_; simp only [List.take_succ_cons, List.take_zero, List.drop_succ_cons, List.drop_zero]; (repeat (first | go_big_quiet_step ((first | (go_at_call 22; exact Up.pure (HPL.out _)) | fail)))); refine wpQuiet_nil ?_; rintro _ ⟨u, rfl⟩)
      go_wp2
      go_roundw
      case rel => exact ⟨2, by omega, rfl, by (repeat' (first | (with_reducible exact Below.refl _ _) | (with_reducible assumption) | (with_reducible refine Below.setCell ?_ ?_ _) | (with_reducible refine Below.alloc ?_ ?_ _) | (with_reducible refine Below.drew ?_) | (with_reducible refine Up.base _ ?_ ?_) | (with_reducible exact LeSize.out) | exact LeSize.out | exact Nat.le_add_right_of_le LeSize.out | exact Nat.le_add_right_of_le (Nat.le_add_right_of_le LeSize.out) | (with_reducible exact Nat.le_refl _) | (simp; done) | (simp; omega))), inferInstance, inferInstance, inferInstance, inferInstance, z0 - 1, z1 - 1, ⟨IsBlk.out⟩, .inr (.inr ⟨rfl, rfl, rfl⟩)⟩
      case measure => simp [intOf]
    · go_wp2
      go_returns
      exact ⟨rfl, by (repeat' (first | (with_reducible exact Below.refl _ _) | (with_reducible assumption) | (with_reducible refine Below.setCell ?_ ?_ _) | (with_reducible refine Below.alloc ?_ ?_ _) | (with_reducible refine Below.drew ?_) | (with_reducible refine Up.base _ ?_ ?_) | (with_reducible exact LeSize.out) | exact LeSize.out | exact Nat.le_add_right_of_le LeSize.out | exact Nat.le_add_right_of_le (Nat.le_add_right_of_le LeSize.out) | (with_reducible exact Nat.le_refl _) | (simp; done) | (simp; omega)))⟩
end
end
section
set_option linter.unusedVariables false

/-! ### Who stands in a table's rows -/
theorem fillR_app (a m k : Nat) : fillR a m ++ fillR (a + m) k = fillR a (m + k) := by
  unfold fillR
  rw [List.range_add, List.map_append, List.map_map]
  congr 1
  refine List.map_congr_left fun i _ => ?_
  show ((a + m + i : Nat) : Int) = ((a + (m + i) : Nat) : Int)
  omega
theorem fillR_len (a m : Nat) : (fillR a m).length = m := by simp [fillR]
theorem fillR_get {a m i : Nat} (h : i < m) : (fillR a m).getD i 0 = ((a + i : Nat) : Int) := by simp [fillR, List.getD, h]
theorem spI_fill (a m g k : Nat) (h : a + m ≤ 8) : ∀ n, n ≤ m → (spI (fillR a m) g k n).map (·.p) = fillR a n
  | 0, _ => rfl
  | n + 1, hn => by
    rw [spI_succ, List.map_append, spI_fill a m g k h n (by omega), fillR_get (by omega), ← fillR_app a n 1]
    have : okP ((a + n : Nat) : Int) = true := by unfold okP; simp; omega
    rw [if_pos this]
    simp [fillR]
theorem rowOf_app {l : List (List Int × List Int)} (x : List Int × List Int) {i : Nat} (h : i < l.length) (j : Nat) : rowOf (l ++ [x]) i j = rowOf l i j := by
  unfold rowOf; rw [List.getElem?_append_left h]
theorem spK_app {l : List (List Int × List Int)} (x : List Int × List Int) {i : Nat} (h : i < l.length) (n : Nat) : spK (l ++ [x]) i n = spK l i n := by
  unfold spK
  have : (fun k => spI (rowOf (l ++ [x]) i k) i k (rowOf (l ++ [x]) i k).length) = fun k => spI (rowOf l i k) i k (rowOf l i k).length := funext fun k => by rw [rowOf_app x h]
  rw [this]
theorem spG_app {l : List (List Int × List Int)} (x : List Int × List Int) : ∀ n, n ≤ l.length → spG (l ++ [x]) n = spG l n
  | 0, _ => rfl
  | n + 1, h => by rw [spG_succ, spG_succ, spG_app x n (by omega), spK_app x (by omega)]
theorem spots_rows (zs : List Int) (k : Nat) (hk : k ≤ 3) : ∀ g, g ≤ k → (spG (rowsGo zs k g).2 g).map (·.p) = fillR 0 (rowsGo zs k g).1
  | 0, _ => rfl
  | g + 1, h => by
    have ih := spots_rows zs k hk g (by omega)
    obtain ⟨b1, b2, b3⟩ := rowsGo_bd zs k hk g (by omega)
    obtain ⟨c1, c2, c3⟩ := rowsGo_bd zs k hk (g + 1) h
    simp only [rowsGo] at c1 c2 c3 ⊢
    generalize rowsGo zs k g = q at *
    generalize fillN (rw0 zs g) q.1 (8 - (k - 1 - g)) = m0 at *
    generalize fillN (rw1 zs g m0) (q.1 + m0) (8 - (k - 1 - g)) = m1 at *
    have e0 : rowOf (q.2 ++ [(fillR q.1 m0, fillR (q.1 + m0) m1)]) g 0 = fillR q.1 m0 := by unfold rowOf; rw [List.getElem?_append_right (by omega), b3]; simp
    have e1 : rowOf (q.2 ++ [(fillR q.1 m0, fillR (q.1 + m0) m1)]) g 1 = fillR (q.1 + m0) m1 := by unfold rowOf; rw [List.getElem?_append_right (by omega), b3]; simp
    rw [spG_succ, spG_app _ _ (by omega), List.map_append, ih, spK_succ, spK_succ, e0, e1, fillR_len, fillR_len]
    have e2 : spK (q.2 ++ [(fillR q.1 m0, fillR (q.1 + m0) m1)]) g 0 = [] := rfl
    rw [e2, List.nil_append, List.map_append, spI_fill _ _ _ _ (by omega) _ (Nat.le_refl _), spI_fill _ _ _ _ (by omega) _ (Nat.le_refl _)]
    have := fillR_app 0 q.1 m0
    rw [Nat.zero_add] at this
    rw [← List.append_assoc, this]
    have := fillR_app 0 (q.1 + m0) m1
    rw [Nat.zero_add] at this
    rw [this]
theorem mem_fill {n : Nat} {a : Int} : a ∈ fillR 0 n ↔ 0 ≤ a ∧ a < n := by
  unfold fillR
  simp only [List.mem_map, List.mem_range]
  constructor
  · rintro ⟨i, hi, rfl⟩; omega
  · intro h; exact ⟨a.toNat, by omega, by omega⟩
theorem spots_p (zs : List Int) : (spotsM (tabM zs).gr).map (·.p) = fillR 0 (rowsM zs).1 := by
  have hb := rowsM_bd zs
  have hg := groupsN_bd zs
  show (spG (rowsM zs).2 (rowsM zs).2.length).map (·.p) = _
  rw [hb.2.2]
  exact spots_rows zs (groupsN zs) hg.2 (groupsN zs) (Nat.le_refl _)
theorem fillR_lt (a m : Nat) : (fillR a m).Pairwise (· < ·) := by
  unfold fillR
  refine List.Pairwise.map _ (fun i j h => ?_) List.pairwise_lt_range
  omega
theorem find_own : ∀ (l : List Spot), (l.map (·.p)).Pairwise (· < ·) → ∀ s ∈ l, l.find? (fun x => x.p == s.p) = some s
  | [], _, s, h => by cases h
  | x :: l, hp, s, hs => by
    rw [List.map_cons, List.pairwise_cons] at hp
    rcases List.mem_cons.1 hs with rfl | hs
    · rw [List.find?_cons_of_pos (by simp)]
    · have hlt : x.p < s.p := hp.1 _ (List.mem_map.2 ⟨s, hs, rfl⟩)
      rw [List.find?_cons_of_neg (by simp; omega)]
      exact find_own l hp.2 s hs
theorem where_spot (zs : List Int) {s : Spot} (h : s ∈ spotsM (tabM zs).gr) : whereM (tabM zs).gr s.p = some s := by
  unfold whereM
  exact find_own _ (by rw [spots_p]; exact fillR_lt _ _) s h
theorem spot_in {gr : List (List Int × List Int)} {g k i : Nat} (hg : g < gr.length) (hk : k < 2) (hi : i < (rowOf gr g k).length) (hp : okP ((rowOf gr g k).getD i 0) = true) : (⟨g, k, i, (rowOf gr g k).getD i 0⟩ : Spot) ∈ spotsM gr := by
  unfold spotsM spG
  refine List.mem_flatMap.2 ⟨g, by simpa using hg, ?_⟩
  unfold spK
  refine List.mem_flatMap.2 ⟨k, by simpa using hk, ?_⟩
  unfold spI
  refine List.mem_filterMap.2 ⟨i, by simpa using hi, ?_⟩
  rw [if_pos hp]
theorem beside_rows (zs : List Int) {g i j : Nat} (hg : g < (tabM zs).gr.length) (hi : i < (rowOf (tabM zs).gr g 0).length) (hj : j < (rowOf (tabM zs).gr g 1).length) (hp : okP ((rowOf (tabM zs).gr g 0).getD i 0) = true) (hq : okP ((rowOf (tabM zs).gr g 1).getD j 0) = true) :
    besideM (tabM zs).gr ((rowOf (tabM zs).gr g 0).getD i 0) ((rowOf (tabM zs).gr g 1).getD j 0) = true ∧ besideM (tabM zs).gr ((rowOf (tabM zs).gr g 1).getD j 0) ((rowOf (tabM zs).gr g 0).getD i 0) = true ∧ (rowOf (tabM zs).gr g 0).getD i 0 ≠ (rowOf (tabM zs).gr g 1).getD j 0 := by
  have h1 := where_spot zs (spot_in hg (by omega : 0 < 2) hi hp)
  have h2 := where_spot zs (spot_in hg (by omega : 1 < 2) hj hq)
  simp only at h1 h2
  refine ⟨by unfold besideM; rw [h1, h2]; simp, by unfold besideM; rw [h1, h2]; simp, fun e => ?_⟩
  rw [e, h2] at h1
  simp at h1
/-! ### Conflicts -/
theorem hasM_with (s p q : Int) : hasM (withM s p) q = (hasM s q || (decide (0 ≤ q ∧ q < 8) && decide (p = q))) := by
  unfold withM
  rw [hasM_pack]
  unfold hasM oneM
  by_cases hq : 0 ≤ q ∧ q < 8
  · have e : ((q.toNat : Nat) : Int) = q := by omega
    simp only [hq, and_self, decide_true, Bool.true_and, e]
  · simp [hq]
def SymC (cf : Nat → Int) : Prop := ∀ a b : Nat, a < 8 → b < 8 → hasM (cf a) b = hasM (cf b) a
theorem symC_S {gr : List (List Int × List Int)} {zs : List Int} {p q : Nat} {cf : Nat → Int} (h : SymC cf) (hpq : q < p) (hp : p < 8) : SymC (cfS gr zs p q cf) := by
  unfold cfS
  split
  · intro a b ha hb
    have hq' : (0 : Int) ≤ q ∧ (q : Int) < 8 := by omega
    have hp' : (0 : Int) ≤ p ∧ (p : Int) < 8 := by omega
    have key : ∀ x y : Nat, x < 8 → y < 8 → hasM ((fset (fset cf p (withM (cf p) q)) q (withM (fset cf p (withM (cf p) q) q) p)) x) y = (hasM (cf x) y || (decide (x = p) && decide (y = q)) || (decide (x = q) && decide (y = p))) := fun x y hx hy => by
      have hy' : (0 : Int) ≤ y ∧ (y : Int) < 8 := by omega
      unfold fset
      by_cases h1 : x = q
      · subst h1
        have hne : x ≠ p := by omega
        rw [if_pos rfl, if_neg hne, hasM_with]
        simp only [hy', and_self, decide_true, Bool.true_and, hne, decide_false, Bool.false_and, Bool.or_false]
        congr 1
        rw [Bool.eq_iff_iff]; simp only [decide_eq_true_eq]; omega
      · rw [if_neg h1]
        by_cases h2 : x = p
        · subst h2
          rw [if_pos rfl, hasM_with]
          simp only [hy', and_self, decide_true, Bool.true_and, h1, decide_false, Bool.false_and, Bool.or_false]
          congr 1
          rw [Bool.eq_iff_iff]; simp only [decide_eq_true_eq]; omega
        · rw [if_neg h2]
          simp [h1, h2]
    rw [key a b ha hb, key b a hb ha, h a b ha hb, Bool.or_assoc, Bool.or_assoc]
    congr 1
    rw [Bool.or_comm, Bool.and_comm (decide (a = q)), Bool.and_comm (decide (a = p))]
  · exact h
theorem symC_Q {gr : List (List Int × List Int)} {zs : List Int} {p : Nat} {cf : Nat → Int} (h : SymC cf) (hp : p < 8) : ∀ q, q ≤ p → SymC (cfQ gr zs p cf q)
  | 0, _ => h
  | q + 1, hq => symC_S (symC_Q h hp q (by omega)) (by omega) hp
theorem symC_P {gr : List (List Int × List Int)} {zs : List Int} : ∀ n, n ≤ 8 → SymC (cfP gr zs n)
  | 0, _ => fun _ _ _ _ => by simp [cfP]; unfold hasM bitM; simp
  | n + 1, h => symC_Q (symC_P n (by omega)) (by omega) n (Nat.le_refl _)
theorem tab_sym (zs : List Int) : SymC (tabM zs).cf := symC_P (rowsM zs).1 (rowsM_bd zs).2.1
end
section
section
open Go.RowKit
set_option linter.unusedVariables false

theorem andNot_pack (f g : Nat → Bool) : bits .andNot .i64 (packM f) (packM g) = packM fun i => f i && !g i := by
  rw [bits_andNot]
  unfold packM
  rw [toNat_small (packN_lt _), toNat_small (packN_lt _)]
  have hp : packN g < 2 ^ 64 := by have := packN_lt g; omega
  have e : packN f &&& (2 ^ 64 - (packN g + 1)) = packN (fun i => f i && !g i) := Nat.eq_of_testBit_eq fun i => by
    rw [Nat.testBit_and, Nat.testBit_two_pow_sub_succ hp, packN_test, packN_test, packN_test]
    by_cases hi : i < 8
    · have : i < 64 := by omega
      simp [hi, this]
    · simp [hi]
  rw [e, wrap_small (packN_lt _)]
theorem andNot_zero {e g : Int} (he : 0 ≤ e ∧ e ≤ 255) (hg : 0 ≤ g ∧ g ≤ 255) (h : ∀ q : Nat, q < 8 → hasM e q = true → hasM g q = true) : bits .andNot .i64 e g = 0 := by
  rw [← pack_of he, ← pack_of hg, andNot_pack, pack_zero]
  intro i hi
  have := h i hi
  rw [hasM_nat _ hi, hasM_nat _ hi] at this
  cases hb : bitM e i
  · rfl
  · rw [this hb]; rfl
theorem and_zero2 {e g : Int} (he : 0 ≤ e ∧ e ≤ 255) (hg : 0 ≤ g ∧ g ≤ 255) (h : ∀ q : Nat, q < 8 → hasM e q = true → hasM g q = false) : bits .and .i64 e g = 0 := by
  rw [← pack_of he, ← pack_of hg, and_pack, pack_zero]
  intro i hi
  have := h i hi
  rw [hasM_nat _ hi, hasM_nat _ hi] at this
  cases hb : bitM e i
  · rfl
  · rw [this hb]; rfl
theorem or_zero2 {e g : Int} (he : 0 ≤ e ∧ e ≤ 255) (hg : 0 ≤ g ∧ g ≤ 255) (h : bits .or .i64 e g = 0) : e = 0 := by
  rw [← pack_of he, ← pack_of hg, or_pack, pack_zero] at h
  rw [← pack_of he, pack_zero]
  intro i hi
  have := h i hi
  cases hb : bitM e i
  · rfl
  · rw [hb] at this; simp at this
theorem hasM_zero (q : Int) : hasM 0 q = false := by unfold hasM bitM; simp
theorem grn_has (rn : Nat → Rn) (q : Nat) : ∀ n, n ≤ 8 → hasM (grnN rn n) q = (decide (q < n) && ((rn q).c == 1))
  | 0, _ => by unfold grnN; rw [hasM_zero]; simp
  | n + 1, h => by
    rw [grnN_s rn n rfl]
    have ih := grn_has rn q n (by omega)
    cases hc : ((rn n).c == 1)
    · simp only [Bool.false_eq_true, if_false]
      rw [ih, Bool.eq_iff_iff]
      simp only [Bool.and_eq_true, decide_eq_true_eq]
      constructor
      · rintro ⟨h1, h2⟩; exact ⟨by omega, h2⟩
      · rintro ⟨h1, h2⟩
        refine ⟨?_, h2⟩
        by_cases he : q = n
        · subst he; rw [hc] at h2; cases h2
        · omega
    · simp only [if_true]
      rw [hasM_with, ih, Bool.eq_iff_iff]
      simp only [Bool.or_eq_true, Bool.and_eq_true, decide_eq_true_eq]
      constructor
      · rintro (⟨h1, h2⟩ | ⟨h1, h2⟩)
        · exact ⟨by omega, h2⟩
        · have : q = n := by omega
          subst this; exact ⟨by omega, hc⟩
      · rintro ⟨h1, h2⟩
        by_cases he : q = n
        · subst he; exact .inr ⟨by omega, rfl⟩
        · exact .inl ⟨by omega, h2⟩
theorem grn_bd (rn : Nat → Rn) : ∀ n, 0 ≤ grnN rn n ∧ grnN rn n ≤ 255
  | 0 => by unfold grnN; omega
  | n + 1 => by
    unfold grnN
    split
    · exact packM_bd _
    · exact grn_bd rn n
theorem rds_has (rn : Nat → Rn) (q : Nat) : ∀ n, n ≤ 8 → q < n → redM (rn q) = true → hasM (withM 0 q) q = true := fun n hn hq h => by
  rw [hasM_with]; simp; omega
def bgP (t : Tab) (rn : Nat → Rn) (g k : Int) (o : On1) : Bool := !o.bu && (decide (0 ≤ o.nx) && mayM t rn (atZ t.gr g k o.nx).toNat)
def enP (t : Tab) (rn : Nat → Rn) (want : Int) (o : On1) : Bool := o.bu && endsM t rn want o
theorem stepC_st (t : Tab) (rn : Nat → Rn) (g want k : Int) (o : On1) (a st en : Int) : (stepC t rn g want k o a st en).1 = if bgP t rn g k o = true then withM st (atZ t.gr g k o.nx) else st := by
  unfold stepC bgP
  cases o.bu
  · by_cases h : 0 ≤ o.nx
    · cases hm : mayM t rn (atZ t.gr g k o.nx).toNat <;> simp [h]
    · simp [h]
  · simp
theorem stepC_en (t : Tab) (rn : Nat → Rn) (g want k : Int) (o : On1) (a st en : Int) : (stepC t rn g want k o a st en).2.1 = if enP t rn want o = true then withM en o.ph else en := by
  unfold stepC enP
  cases o.bu
  · by_cases h : 0 ≤ o.nx
    · cases hm : mayM t rn (atZ t.gr g k o.nx).toNat <;> simp [h]
    · simp [h]
  · simp
/-- Where the next place of a ring is. -/
theorem atZ_pos {t : Tab} {n k : Nat} {want a : Int} (hn : n < t.gr.length) (hk : k < 2) (h : 0 ≤ nextZ (rowZ t.gr n k) want a) : ∃ i : Nat, i < (rowOf t.gr n k).length ∧ atZ t.gr n k (nextZ (rowZ t.gr n k) want a) = (rowOf t.gr n k).getD i 0 ∧ okP ((rowOf t.gr n k).getD i 0) = true := by
  have hr : rowZ t.gr n k = rowOf t.gr n k := by unfold rowZ; rw [if_pos (by omega)]; rfl
  obtain ⟨i, hi, hl, hh⟩ := nextZ_in h
  obtain ⟨h1, h2, _⟩ := atZ_next h
  rw [hr] at hl hh
  have ho := hasM_ok hh
  have hok : okP ((rowOf t.gr n k).getD i 0) = true := by
    generalize (rowOf t.gr n k).getD i 0 = p at *
    unfold okP; simp; exact ho
  refine ⟨i, hl, ?_, hok⟩
  unfold atZ
  rw [hi, hr, atR_in hl, if_neg]
  intro hz
  have := of_one ((rowOf t.gr n k).getD i 0)
  rw [hz, hok] at this
  simp at this
theorem two_len {l : List Int} (hp : l.Pairwise (· < ·)) {a b : Int} (h : ∀ x ∈ l, x = a ∨ x = b) : l.length ≤ 2 := by
  match l, hp, h with
  | [], _, _ => simp
  | [_], _, _ => simp
  | [_, _], _, _ => simp
  | x :: y :: z :: r, hp, h =>
    exfalso
    rw [List.pairwise_cons, List.pairwise_cons] at hp
    have h1 := hp.1 y (by simp)
    have h2 := hp.2.1 z (by simp)
    rcases h x (by simp) with e1 | e1 <;> rcases h y (by simp) with e2 | e2 <;> rcases h z (by simp) with e3 | e3 <;> omega
theorem listM_lt (s : Int) : (listM s).Pairwise (· < ·) := by
  unfold listM setL
  refine List.Pairwise.map _ (fun i j h => ?_) (List.Pairwise.filter _ List.pairwise_lt_range)
  simpa using h
/-- What a tick of the rings keeps. -/
structure MayOk (t : Tab) (rn : Nat → Rn) (want g g' : Int) (cr : Bool) (st en : Int) : Prop where
  grp : cr = true → g' = g
  apart : st ≠ 0 → bits .and .i64 en st = 0 ∧ cr = false
  ends : bits .andNot .i64 en (grnN rn 8) = 0
  len : (listM st).length ≤ 2
  may : ∀ p ∈ listM st, hasM want p = true ∧ mayM t rn p.toNat = true
  beside : ∀ i, 0 < i → i < (listM st).length → besideM t.gr ((listM st).getD i 0) ((listM st).getD 0 0) = true
theorem red_not1 {r : Rn} (h : redM r = true) : (r.c == 1) = false := by
  unfold redM at h; cases hc : (r.c == 1)
  · rfl
  · rw [hc] at h; simp at h
theorem step_ok (zs : List Int) (rn : Nat → Rn) (n : Nat) (want a0 a1 : Int) (hn : n < (tabM zs).gr.length) :
    MayOk (tabM zs) rn want n n (stCr (tabM zs) rn n want a0 a1) (stS2 (tabM zs) rn n want a0 a1).1 (stEn (tabM zs) rn n want a0 a1) := by
  have hst : (stS2 (tabM zs) rn n want a0 a1).1 = if bgP (tabM zs) rn n 1 (ringO (tabM zs) rn n want 1 a1) = true then withM (if bgP (tabM zs) rn n 0 (ringO (tabM zs) rn n want 0 a0) = true then withM 0 (atZ (tabM zs).gr n 0 (ringO (tabM zs) rn n want 0 a0).nx) else 0) (atZ (tabM zs).gr n 1 (ringO (tabM zs) rn n want 1 a1).nx) else (if bgP (tabM zs) rn n 0 (ringO (tabM zs) rn n want 0 a0) = true then withM 0 (atZ (tabM zs).gr n 0 (ringO (tabM zs) rn n want 0 a0).nx) else 0) := by
    unfold stS2 stS1; rw [stepC_st, stepC_st]
  have hen : (stS2 (tabM zs) rn n want a0 a1).2.1 = if enP (tabM zs) rn want (ringO (tabM zs) rn n want 1 a1) = true then withM (if enP (tabM zs) rn want (ringO (tabM zs) rn n want 0 a0) = true then withM 0 (ringO (tabM zs) rn n want 0 a0).ph else 0) (ringO (tabM zs) rn n want 1 a1).ph else (if enP (tabM zs) rn want (ringO (tabM zs) rn n want 0 a0) = true then withM 0 (ringO (tabM zs) rn n want 0 a0).ph else 0) := by
    unfold stS2 stS1; rw [stepC_en, stepC_en]
  -- who begins
  have hB : ∀ k : Nat, k < 2 → ∀ a, bgP (tabM zs) rn n k (ringO (tabM zs) rn n want k a) = true → ∃ i : Nat, i < (rowOf (tabM zs).gr n k).length ∧ atZ (tabM zs).gr n k (ringO (tabM zs) rn n want k a).nx = (rowOf (tabM zs).gr n k).getD i 0 ∧ okP ((rowOf (tabM zs).gr n k).getD i 0) = true ∧ hasM want (atZ (tabM zs).gr n k (ringO (tabM zs) rn n want k a).nx) = true ∧ mayM (tabM zs) rn (atZ (tabM zs).gr n k (ringO (tabM zs) rn n want k a).nx).toNat = true := fun k hk a h => by
    unfold bgP at h
    simp only [Bool.and_eq_true, decide_eq_true_eq] at h
    obtain ⟨_, h1, h2⟩ := h
    obtain ⟨i, hi, he, ho⟩ := atZ_pos hn hk h1
    exact ⟨i, hi, he, ho, (atZ_next h1).2.2, h2⟩
  have hE : ∀ k : Nat, ∀ a, enP (tabM zs) rn want (ringO (tabM zs) rn n want k a) = true → 0 ≤ (ringO (tabM zs) rn n want k a).ph ∧ (ringO (tabM zs) rn n want k a).ph < 8 ∧ ((rn (ringO (tabM zs) rn n want k a).ph.toNat).c == 1) = true := fun k a h => by
    unfold enP at h
    simp only [Bool.and_eq_true] at h
    have hb : (ringO (tabM zs) rn n want k a).bu = (decide (0 ≤ (ringO (tabM zs) rn n want k a).ph) && !redM (rn (ringO (tabM zs) rn n want k a).ph.toNat)) := rfl
    have hp : (ringO (tabM zs) rn n want k a).ph = -1 ∨ (0 ≤ (ringO (tabM zs) rn n want k a).ph ∧ (ringO (tabM zs) rn n want k a).ph < 8) := atR_ok _ _
    rw [h.1] at hb
    have h0 : 0 ≤ (ringO (tabM zs) rn n want k a).ph := by
      have := hb.symm
      simp only [Bool.and_eq_true, decide_eq_true_eq] at this
      exact this.1
    have h2 := h.2
    unfold endsM at h2
    simp only [Bool.and_eq_true] at h2
    exact ⟨h0, by omega, h2.1⟩
  have hB0 := hB 0 (by omega) a0
  have hB1 := hB 1 (by omega) a1
  have hE0 := hE 0 a0
  have hE1 := hE 1 a1
  clear hB hE
  simp only [show ((0 : Nat) : Int) = 0 from rfl, show ((1 : Nat) : Int) = 1 from rfl] at hB0 hB1 hE0 hE1
  have hO0 : stEn (tabM zs) rn n want a0 a1 = if stCr (tabM zs) rn n want a0 a1 = true then grnN rn 8 else (stS2 (tabM zs) rn n want a0 a1).2.1 := rfl
  have hC : stCr (tabM zs) rn n want a0 a1 = true → bits .or .i64 (stS2 (tabM zs) rn n want a0 a1).1 (stS2 (tabM zs) rn n want a0 a1).2.1 = 0 := fun h => by
    unfold stCr at h
    simp only [Bool.and_eq_true, beq_iff_eq] at h
    exact h.1.1.1
  rw [hO0]
  generalize stCr (tabM zs) rn n want a0 a1 = cr at *
  generalize (stS2 (tabM zs) rn n want a0 a1).1 = st at *
  generalize (stS2 (tabM zs) rn n want a0 a1).2.1 = en at *
  generalize ringO (tabM zs) rn n want 0 a0 = o0 at *
  generalize ringO (tabM zs) rn n want 1 a1 = o1 at *
  generalize bgP (tabM zs) rn n 0 o0 = B0 at *
  generalize bgP (tabM zs) rn n 1 o1 = B1 at *
  generalize enP (tabM zs) rn want o0 = E0 at *
  generalize enP (tabM zs) rn want o1 = E1 at *
  generalize atZ (tabM zs).gr n 0 o0.nx = P0 at *
  generalize atZ (tabM zs).gr n 1 o1.nx = P1 at *
  have bst : 0 ≤ st ∧ st ≤ 255 := by
    rw [hst]; split
    · exact packM_bd _
    · split
      · exact packM_bd _
      · omega
  have ben : 0 ≤ en ∧ en ≤ 255 := by
    rw [hen]; split
    · exact packM_bd _
    · split
      · exact packM_bd _
      · omega
  have bgr := grn_bd rn 8
  have mst : ∀ q, hasM st q = true → (B0 = true ∧ q = P0) ∨ (B1 = true ∧ q = P1) := fun q h => by
    rw [hst] at h
    cases B0 <;> cases B1 <;> simp only [Bool.false_eq_true, if_false, if_true, hasM_with, hasM_zero, Bool.or_eq_true, Bool.and_eq_true, decide_eq_true_eq, false_or] at h
    · exact .inr ⟨rfl, h.2.symm⟩
    · exact .inl ⟨rfl, h.2.symm⟩
    · rcases h with h | h
      · exact .inl ⟨rfl, h.2.symm⟩
      · exact .inr ⟨rfl, h.2.symm⟩
  have men : ∀ q : Nat, q < 8 → hasM en q = true → ((rn q).c == 1) = true := fun q hq h => by
    have : (E0 = true ∧ (q : Int) = o0.ph) ∨ (E1 = true ∧ (q : Int) = o1.ph) := by
      rw [hen] at h
      cases E0 <;> cases E1 <;> simp only [Bool.false_eq_true, if_false, if_true, hasM_with, hasM_zero, Bool.or_eq_true, Bool.and_eq_true, decide_eq_true_eq, false_or] at h
      · exact .inr ⟨rfl, h.2.symm⟩
      · exact .inl ⟨rfl, h.2.symm⟩
      · rcases h with h | h
        · exact .inl ⟨rfl, h.2.symm⟩
        · exact .inr ⟨rfl, h.2.symm⟩
    rcases this with ⟨h1, h2⟩ | ⟨h1, h2⟩
    · have := (hE0 h1).2.2; rw [← h2, Int.toNat_natCast] at this; exact this
    · have := (hE1 h1).2.2; rw [← h2, Int.toNat_natCast] at this; exact this
  have hmay : ∀ q, hasM st q = true → hasM want q = true ∧ mayM (tabM zs) rn q.toNat = true := fun q h => by
    rcases mst q h with ⟨h1, rfl⟩ | ⟨h1, rfl⟩
    · obtain ⟨_, _, _, _, h5, h6⟩ := hB0 h1; exact ⟨h5, h6⟩
    · obtain ⟨_, _, _, _, h5, h6⟩ := hB1 h1; exact ⟨h5, h6⟩
  have hlen : (listM st).length ≤ 2 := two_len (listM_lt st) (a := P0) (b := P1) fun x hx => (mst x (mem_listM.1 hx)).imp And.right And.right
  refine ⟨fun _ => rfl, fun h => ?_, ?_, hlen, fun p hp => hmay p (mem_listM.1 hp), fun i hi0 hi => ?_⟩
  · have hcr : cr = false := by
      cases hc : cr
      · rfl
      · exact absurd (or_zero2 bst ben (hC hc)) h
    refine ⟨?_, hcr⟩
    rw [hcr]
    simp only [Bool.false_eq_true, if_false]
    refine and_zero2 ben bst fun q hq he => ?_
    cases hs : hasM st q
    · rfl
    · have h1 := (hmay q hs).2
      unfold mayM at h1
      simp only [Bool.and_eq_true] at h1
      have := red_not1 h1.1.1
      rw [Int.toNat_natCast, men q hq he] at this
      cases this
  · cases cr
    · simp only [Bool.false_eq_true, if_false]
      refine andNot_zero ben bgr fun q hq he => ?_
      rw [grn_has rn q 8 (Nat.le_refl _), men q hq he]
      simp [hq]
    · simp only [if_true]
      exact andNot_zero bgr bgr fun q hq he => he
  · obtain rfl : i = 1 := by omega
    have hlt := listM_lt st
    have m0 : (listM st).getD 0 0 ∈ listM st := by rw [List.getD_eq_getElem?_getD, List.getElem?_eq_getElem (by omega)]; exact List.getElem_mem _
    have m1 : (listM st).getD 1 0 ∈ listM st := by rw [List.getD_eq_getElem?_getD, List.getElem?_eq_getElem hi]; exact List.getElem_mem _
    have hl : (listM st).getD 0 0 < (listM st).getD 1 0 := by
      have := List.pairwise_iff_getElem.1 hlt 0 1 (by omega) hi (by omega)
      rw [List.getD_eq_getElem?_getD, List.getD_eq_getElem?_getD, List.getElem?_eq_getElem (show 0 < (listM st).length by omega), List.getElem?_eq_getElem hi]
      exact this
    have c0 := mst _ (mem_listM.1 m0)
    have c1 := mst _ (mem_listM.1 m1)
    generalize (listM st).getD 0 0 = x at *
    generalize (listM st).getD 1 0 = y at *
    have hbb : B0 = true → B1 = true → besideM (tabM zs).gr P0 P1 = true ∧ besideM (tabM zs).gr P1 P0 = true := fun h0 h1 => by
      obtain ⟨i0, hi0, e0, k0, _, _⟩ := hB0 h0
      obtain ⟨i1, hi1, e1, k1, _, _⟩ := hB1 h1
      have := beside_rows zs hn hi0 hi1 k0 k1
      rw [e0, e1]
      exact ⟨this.1, this.2.1⟩
    rcases c0 with ⟨h0, rfl⟩ | ⟨h0, rfl⟩ <;> rcases c1 with ⟨h1, rfl⟩ | ⟨h1, rfl⟩
    · omega
    · exact (hbb h0 h1).2
    · exact (hbb h1 h0).1
    · omega
theorem cross_ok (t : Tab) (rn : Nat → Rn) (want g g' : Int) (cr : Bool) (h : cr = true → g' = g) : MayOk t rn want g g' cr 0 0 := by
  have hl : listM 0 = [] := by decide +kernel
  refine ⟨h, fun h => absurd rfl h, andNot_zero (by omega) (grn_bd rn 8) fun q _ h => ?_, by rw [hl]; simp, fun p hp => ?_, fun i _ hi => ?_⟩
  · rw [hasM_zero] at h; cases h
  · rw [hl] at hp; cases hp
  · rw [hl] at hi; simp at hi
end
end
end
section
open Go.RowKit
set_option linter.unusedVariables false
attribute [local go_sem] IsBlk.cell IsBlk.frozen

/-! ### Beside -/
end
section
open Go.RowKit
set_option linter.unusedVariables false
attribute [local go_sem] IsBlk.cell IsBlk.frozen

/-! ### On -/
theorem of_snoc (l : List Int) (x : Int) : ofM (l ++ [x]) = withM (ofM l) x := packM_congr fun i hi => by
  unfold ofM
  rw [bitM_pack _ hi, Bool.eq_iff_iff]
  simp only [List.contains_iff_mem, List.mem_append, List.mem_singleton, Bool.or_eq_true, oneM, decide_eq_true_eq]
  exact or_congr Iff.rfl ⟨Eq.symm, Eq.symm⟩
theorem load_phsA {w : World} {b : Nat} {C : Array Value} {t : TypeId} [h : IsBlk w b C t] [hz : Sz131 C] : Sem.run Try.prog (Instr.loadAt 25 (.pointer (some ⟨b, 0, none⟩))) w = .ok (.agg (C.extract 0 104)) w := by
  have e : ((C.extract 0 (0 + 104)).toList).length = 104 := by have := hz.out; simp; omega
  have := run_loadAt_mid (P := Try.prog) w b 0 25 (C.extract 0 (0 + 104)).toList _ (World.rangeAt_of_block h.out 0 104) Try.underlying25 rfl (by rw [e]; kernel_rfl)
  rwa [Array.toArray_toList, show C.extract 0 (0 + 104) = C.extract 0 104 by rw [Nat.zero_add]] at this
theorem q_lphsA {W : World} {K : Act → Prop} {op : Oper} {a : Act} {x : Operand} {b : Nat} {C : Array Value} {t : TypeId} [hz : Sz131 C] (ho : op.op = .load 25 x) (hx : a.eval x = .pointer (some ⟨b, 0, none⟩)) [h : IsBlk W b C t]
    (hk : K (a.put op.dst (.agg (C.extract 0 104)))) : op.quiet Try.prog a (fun w' => ∃ u : Up W, w' = u.w) K := quiet_load_at ho hx (fun u => load_phsA) hk
theorem z_lphsA {W : World} {Z : World → Prop} {K : Act → Prop} {op : Oper} {a : Act} {x : Operand} {b : Nat} {C : Array Value} {t : TypeId} [hz : Sz131 C] (ho : op.op = .load 25 x) (hx : a.eval x = .pointer (some ⟨b, 0, none⟩)) [h : IsBlk W b C t]
    (hk : K (a.put op.dst (.agg (C.extract 0 104)))) : op.quiet Try.prog a (fun w' => ∃ u : UpZ W Z, w' = u.up.w) K := quiet_load_z ho hx (fun u => load_phsA) hk
theorem l_lphsA {ops : Array Oper} {rest : List Oper} {op : Oper} {a : Act} {w : World} {Q : Exit → Act → World → Prop} {x : Operand} {b : Nat} {C : Array Value} {t : TypeId} [hz : Sz131 C] (hgd : op.guard = none) (ho : op.op = .load 25 x) (hx : a.eval x = .pointer (some ⟨b, 0, none⟩)) [h : IsBlk w b C t]
    (hk : wpList Try.prog ops Q rest (a.put op.dst (.agg (C.extract 0 104))) w) : wpList Try.prog ops Q (op :: rest) a w := wpList_load_at hgd ho hx load_phsA hk
theorem y_lphsA {ops : Array Oper} {S : World → Prop} {op : Oper} {a : Act} {x : Operand} {b : Nat} {C : Array Value} {t : TypeId} [hz : Sz131 C] (hw : Region.wanted op (yielded ops a.tmps) = true) (ho : op.op = .load 25 x) (hx : a.eval x = .pointer (some ⟨b, 0, none⟩)) (hS : ∀ w, S w → IsBlk w b C t) :
    YieldsIf Try.prog ops S op (.agg (C.extract 0 104)) a := yieldsIf_load_at hw ho hx (fun w hs => by haveI := hS w hs; exact load_phsA)
theorem info_ph13A : (Try.prog.info? 24).map (·.size) = some 13 := by kernel_rfl
theorem run_index_ph {C : Array Value} {p : Phs} {k : Nat} (hk : k < 8) (hs : C.size = 131) (h : ∀ j, j < 13 → C[k * 13 + j]? = some ((phC p).getD j undef)) (w : World) : Sem.run Try.prog (Instr.index 25 (.agg (C.extract 0 104)) (.int .i64 k)) w = .ok (.agg (PrR p)) w := by
  have hk8 : (k : Int) < 8 := by omega
  have e : C.extract (k * 13) (min (k * 13 + 13) 104) = PrR p := by
    rw [Nat.min_eq_left (by omega)]
    apply Array.ext_getElem?
    intro j
    by_cases hj : j < 13
    · have h1 : (C.extract (k * 13) (k * 13 + 13))[j]? = C[k * 13 + j]? := by
        rw [Array.getElem?_extract, if_pos (by omega)]
      rw [h1, h j hj]
      rcases (show j = 0 ∨ j = 1 ∨ j = 2 ∨ j = 3 ∨ j = 4 ∨ j = 5 ∨ j = 6 ∨ j = 7 ∨ j = 8 ∨ j = 9 ∨ j = 10 ∨ j = 11 ∨ j = 12 by omega) with rfl | rfl | rfl | rfl | rfl | rfl | rfl | rfl | rfl | rfl | rfl | rfl | rfl <;> rfl
    · rw [Array.getElem?_eq_none (by simp; omega), Array.getElem?_eq_none (by simp [PrR]; omega)]
  obtain ⟨i13, hi13, hs13⟩ : ∃ i, Try.prog.info? 24 = some i ∧ i.size = 13 := by
    have := info_ph13A
    cases hq : Try.prog.info? 24 with
    | none => simp [hq] at this
    | some i => exact ⟨i, rfl, by simpa [hq] using this⟩
  simp [Instr.index, asIntOf, Sem.run_bind, run_underlying Try.underlying25, part, isAgg, run_underlying Try.underlying24, Result.andThen, hk, sizeOf, typeInfo, hi13, hs13, go_sem, e]
theorem l_newPq {ops : Array Oper} {rest : List Oper} {op : Oper} {a : Act} {w : World} {Q : Exit → Act → World → Prop} {x y : Operand} {Z : Array Value} {t : TypeId} {b : Nat} {p : Phs} (hgd : op.guard = none) (ho : op.op = .store 24 x y) (hx : a.eval x = .pointer (some ⟨b, 0, none⟩)) (hy : a.eval y = .agg (PrR p)) (hb : SizeIs b w) (hs : 13 = Z.size)
    (h : wpList Try.prog ops Q rest (a.put op.dst undef) (w.alloc (.cells (PrR p) t))) : wpList Try.prog ops Q (op :: rest) a (w.alloc (.cells Z t)) :=
  wpList_store_newT (T := PrR p) 24 hgd ho hx hy hb hs (by kernel_rfl) (by simp [PrR, Value.oneCell']) h
set_option maxHeartbeats 8000000 in
set_option maxRecDepth 100000 in
theorem pon_any (T : Array Value) (t : Tab) (w : World) (hT : IsTab w T t) :
    Calls Try.prog 64 #[.agg T] w fun e w' => e = .returned (.int .i64 (onM t)) ∧ Below w.heap.size w w' := by
  haveI : Sz131 T := ⟨hT.size⟩
  have HX : Hid (∀ k, k < 8 → ∀ w, Sem.run Try.prog (Instr.index 25 (.agg (T.extract 0 104)) (.int .i64 (k : Nat))) w = .ok (.agg (PrR (t.ph k))) w) := Lib.hid fun k hk w' => run_index_ph hk hT.size (hT.isPh k hk).out w'
  have f0 : ∀ p, (PrR p)[0]? = some (.bool p.on) := fun p => rfl
  clear hT
  go_enter Try.func64, Try.ntmps64
  go_wp2_with (refine l_lphsA rfl rfl rfl ?_; go_simp)
  go_loopw [3, 8] (fun s i wr => ∃ k : Nat, k ≤ 8 ∧ i = .int .i64 k ∧ s = .int .i64 (ofM (onL t k)) ∧ Below (w.heap.size + 1) (w.alloc (.cells T 32)) wr) (fun _ i _ => 8 - (intOf i).toNat)
  case atStart => exact ⟨0, Nat.zero_le _, rfl, rfl, by (repeat' (first | (with_reducible exact Below.refl _ _) | (with_reducible assumption) | (with_reducible refine Below.setCell ?_ ?_ _) | (with_reducible refine Below.alloc ?_ ?_ _) | (with_reducible refine Below.drew ?_) | (with_reducible refine Up.base _ ?_ ?_) | (with_reducible exact LeSize.out) | exact LeSize.out | exact Nat.le_add_right_of_le LeSize.out | exact Nat.le_add_right_of_le (Nat.le_add_right_of_le LeSize.out) | (with_reducible exact Nat.le_refl _) | (simp; done) | (simp; omega)))⟩
  case round =>
    obtain ⟨k, hk, rfl, rfl, hb⟩ := hrel
    by_cases hlt : k < 8
    · have hix := HX.out k hlt
      have HS := Lib.hid (onL_succ t k)
      have HL : LeSize (w.heap.size + 1) wr := ⟨by have := hb.size; simpa using this⟩
      have hbw : Below w.heap.size w wr := ((Below.refl w.heap.size w).alloc (Nat.le_refl _) (.cells T 32)).trans (hb.mono (by omega))
      cases hon : (t.ph k).on
      · have HS2 : Hid (onL t (k + 1) = onL t k) := Lib.hid (by rw [HS.out, hon]; simp)
        clear HS
        go_wp2_with (refine l_newPq rfl rfl rfl rfl inferInstance rfl ?_; go_simp)
        go_roundw
        case rel => exact ⟨k + 1, by omega, by go_num, by rw [HS2.out], by (repeat' (first | (with_reducible exact Below.refl _ _) | (with_reducible assumption) | (with_reducible refine Below.setCell ?_ ?_ _) | (with_reducible refine Below.alloc ?_ ?_ _) | (with_reducible refine Below.drew ?_) | (with_reducible refine Up.base _ ?_ ?_) | (with_reducible exact LeSize.out) | exact LeSize.out | exact Nat.le_add_right_of_le LeSize.out | exact Nat.le_add_right_of_le (Nat.le_add_right_of_le LeSize.out) | (with_reducible exact Nat.le_refl _) | (simp; done) | (simp; omega)))⟩
        case measure => simp [intOf]; omega
      · have HS2 : Hid (ofM (onL t (k + 1)) = withM (ofM (onL t k)) k) := Lib.hid (by rw [HS.out, hon]; exact of_snoc _ _)
        clear HS
        go_wp2_with (first | (refine l_newPq rfl rfl rfl rfl inferInstance rfl ?_; go_simp) | (go_at_call 42; refine (swith_any _ _ _).mono ?_; rintro e w' ⟨rfl, rfl⟩))
        go_roundw
        case rel => exact ⟨k + 1, by omega, by go_num, by rw [HS2.out], by (repeat' (first | (with_reducible exact Below.refl _ _) | (with_reducible assumption) | (with_reducible refine Below.setCell ?_ ?_ _) | (with_reducible refine Below.alloc ?_ ?_ _) | (with_reducible refine Below.drew ?_) | (with_reducible refine Up.base _ ?_ ?_) | (with_reducible exact LeSize.out) | exact LeSize.out | exact Nat.le_add_right_of_le LeSize.out | exact Nat.le_add_right_of_le (Nat.le_add_right_of_le LeSize.out) | (with_reducible exact Nat.le_refl _) | (simp; done) | (simp; omega)))⟩
        case measure => simp [intOf]; omega
    · obtain rfl : k = 8 := by omega
      have hbw : Below w.heap.size w wr := ((Below.refl w.heap.size w).alloc (Nat.le_refl _) (.cells T 32)).trans (hb.mono (by omega))
      go_wp2
      go_ret
      exact ⟨rfl, by (repeat' (first | (with_reducible exact Below.refl _ _) | (with_reducible assumption) | (with_reducible refine Below.setCell ?_ ?_ _) | (with_reducible refine Below.alloc ?_ ?_ _) | (with_reducible refine Below.drew ?_) | (with_reducible refine Up.base _ ?_ ?_) | (with_reducible exact LeSize.out) | exact LeSize.out | exact Nat.le_add_right_of_le LeSize.out | exact Nat.le_add_right_of_le (Nat.le_add_right_of_le LeSize.out) | (with_reducible exact Nat.le_refl _) | (simp; done) | (simp; omega)))⟩
end
section
section
open Go.RowKit
set_option linter.unusedVariables false
attribute [local go_sem] IsBlk.cell IsBlk.frozen

/-- Does a phase stand ahead, beside a ring? -/
def ahM (gr : List (List Int × List Int)) (g a0 a1 k q : Int) : Bool :=
  (whereM gr q).isSome && (whG (whereM gr q) == g) && !(whK (whereM gr q) == k) && decide ((if whK (whereM gr q) = 0 then a0 else a1) < whI (whereM gr q))
theorem ret_boolE {a b : Bool} (h : a = b) : Ending.returned (.bool a) = .returned (.bool b) := by rw [h]
set_option maxHeartbeats 4000000 in
set_option maxRecDepth 100000 in
theorem ring_ahead (T : Array Value) (t : Tab) (g a0 a1 : Int) (x : Bool) (k q : Int) (w : World) (hT : IsTab w T t) :
    Calls Try.prog 65 #[.agg T, .agg #[.int .i64 g, .int .i64 a0, .int .i64 a1, .bool x], .int .i64 k, .int .i64 q] w fun e w' => e = .returned (.bool (ahM t.gr g a0 a1 k q)) ∧ Below w.heap.size w w' := by
  haveI : Sz131 T := ⟨hT.size⟩
  have HW : Hid (∀ w', Below w.heap.size w w' → Calls Try.prog 31 #[.agg T, .int .i64 q] w' fun e w'' => e = .returned (.tuple #[.int .i64 (whG (whereM t.gr q)), .int .i64 (whK (whereM t.gr q)), .int .i64 (whI (whereM t.gr q)), .bool (whereM t.gr q).isSome]) ∧ Below w'.heap.size w' w'') := Lib.hid fun w' hb => pwhere_any T t q w' (hT.below hb (Nat.le_refl _))
  have hk01 := whK_01 (gr := t.gr) (p := q)
  unfold ahM
  generalize whG (whereM t.gr q) = og at *
  generalize whK (whereM t.gr q) = ok at *
  generalize whI (whereM t.gr q) = oi at *
  generalize (whereM t.gr q).isSome = is at *
  clear hT
  obtain ⟨V, hV⟩ : ∃ V, (is && (og == g) && !(ok == k) && decide ((if ok = 0 then a0 else a1) < oi)) = V := ⟨_, rfl⟩
  rw [hV]
  have HV := Lib.hid hV
  clear hV
  go_enter Try.func65, Try.ntmps65
  go_upto_region 2 with (first | (refine l_ltab rfl rfl rfl ?_; go_simp) | (go_at_call 31; refine (Up.run (HW.out _ (by (repeat' (first | (with_reducible exact Below.refl _ _) | (with_reducible assumption) | (with_reducible refine Below.setCell ?_ ?_ _) | (with_reducible refine Below.alloc ?_ ?_ _) | (with_reducible refine Below.drew ?_) | (with_reducible refine Up.base _ ?_ ?_) | (with_reducible exact LeSize.out) | exact LeSize.out | exact Nat.le_add_right_of_le LeSize.out | exact Nat.le_add_right_of_le (Nat.le_add_right_of_le LeSize.out) | (with_reducible exact Nat.le_refl _) | (simp; done) | (simp; omega)))))).mono ?_; rintro e w' ⟨rfl, uw, rfl⟩))
  cases is
  · clear hk01
    go_wp2
    go_ret
    exact ⟨ret_boolE (by rw [← HV.out]; simp), by (repeat' (first | (with_reducible exact Below.refl _ _) | (with_reducible assumption) | (with_reducible refine Below.setCell ?_ ?_ _) | (with_reducible refine Below.alloc ?_ ?_ _) | (with_reducible refine Below.drew ?_) | (with_reducible refine Up.base _ ?_ ?_) | (with_reducible exact LeSize.out) | exact LeSize.out | exact Nat.le_add_right_of_le LeSize.out | exact Nat.le_add_right_of_le (Nat.le_add_right_of_le LeSize.out) | (with_reducible exact Nat.le_refl _) | (simp; done) | (simp; omega)))⟩
  · cases e : (og == g)
    · clear hk01
      go_wp2
      go_ret
      exact ⟨ret_boolE (by rw [← HV.out]; simp [e]), by (repeat' (first | (with_reducible exact Below.refl _ _) | (with_reducible assumption) | (with_reducible refine Below.setCell ?_ ?_ _) | (with_reducible refine Below.alloc ?_ ?_ _) | (with_reducible refine Below.drew ?_) | (with_reducible refine Up.base _ ?_ ?_) | (with_reducible exact LeSize.out) | exact LeSize.out | exact Nat.le_add_right_of_le LeSize.out | exact Nat.le_add_right_of_le (Nat.le_add_right_of_le LeSize.out) | (with_reducible exact Nat.le_refl _) | (simp; done) | (simp; omega)))⟩
    · cases f : (ok == k)
      · have f' : (ok != k) = true := by simp [bne, f]
        rcases hk01 with rfl | rfl
        · go_wp2
          go_ret
          exact ⟨ret_boolE (by rw [← HV.out]; simp [e, f]), by (repeat' (first | (with_reducible exact Below.refl _ _) | (with_reducible assumption) | (with_reducible refine Below.setCell ?_ ?_ _) | (with_reducible refine Below.alloc ?_ ?_ _) | (with_reducible refine Below.drew ?_) | (with_reducible refine Up.base _ ?_ ?_) | (with_reducible exact LeSize.out) | exact LeSize.out | exact Nat.le_add_right_of_le LeSize.out | exact Nat.le_add_right_of_le (Nat.le_add_right_of_le LeSize.out) | (with_reducible exact Nat.le_refl _) | (simp; done) | (simp; omega)))⟩
        · go_wp2
          go_ret
          exact ⟨ret_boolE (by rw [← HV.out]; simp [e, f]), by (repeat' (first | (with_reducible exact Below.refl _ _) | (with_reducible assumption) | (with_reducible refine Below.setCell ?_ ?_ _) | (with_reducible refine Below.alloc ?_ ?_ _) | (with_reducible refine Below.drew ?_) | (with_reducible refine Up.base _ ?_ ?_) | (with_reducible exact LeSize.out) | exact LeSize.out | exact Nat.le_add_right_of_le LeSize.out | exact Nat.le_add_right_of_le (Nat.le_add_right_of_le LeSize.out) | (with_reducible exact Nat.le_refl _) | (simp; done) | (simp; omega)))⟩
      · have f' : (ok != k) = false := by simp [bne, f]
        clear hk01
        go_wp2
        go_ret
        exact ⟨ret_boolE (by rw [← HV.out]; simp [e, f]), by (repeat' (first | (with_reducible exact Below.refl _ _) | (with_reducible assumption) | (with_reducible refine Below.setCell ?_ ?_ _) | (with_reducible refine Below.alloc ?_ ?_ _) | (with_reducible refine Below.drew ?_) | (with_reducible refine Up.base _ ?_ ?_) | (with_reducible exact LeSize.out) | exact LeSize.out | exact Nat.le_add_right_of_le LeSize.out | exact Nat.le_add_right_of_le (Nat.le_add_right_of_le LeSize.out) | (with_reducible exact Nat.le_refl _) | (simp; done) | (simp; omega)))⟩
end
section
open Go.RowKit Go.Shelf
set_option linter.unusedVariables false
attribute [local go_sem] Oper.semAt_some IsBlk.cell IsBlk.frozen

/-- Does one phase make another one pressed? -/
def prsC (gr : List (List Int × List Int)) (g a0 a1 p q : Int) : Bool := !(whereM gr p).isSome || !ahM gr g a0 a1 (whK (whereM gr p)) q
def prsIn (gr : List (List Int × List Int)) (g a0 a1 p : Int) (s : Int) (q : Int) : Int := if prsC gr g a0 a1 p q then withM s p else s
def prsOut (gr : List (List Int × List Int)) (g a0 a1 : Int) (qs : List Int) (s : Int) (p : Int) : Int := qs.foldl (prsIn gr g a0 a1 p) s
def pressZ (t : Tab) (rn : Nat → Rn) (g a0 a1 want : Int) : Int :=
  (listM (bits .and .i64 (grnN rn 8) (onM t))).foldl (prsOut t.gr g a0 a1 (listM (bits .andNot .i64 want (grnN rn 8)))) 0
theorem wpListIn_load_w {F : Fence} {n : Nat} {P : Program} {ops : Array Oper} {rest : List Oper} {op : Oper} {a : Act} {w : World} {Q : Exit → Act → World → Prop} {x : Operand} {ty : TypeId} {b o : Nat} {v : Value} (hw : Region.wanted op (yielded ops a.tmps) = true) (ho : op.op = .load ty x) (hx : a.eval x = .pointer (some ⟨b, o, none⟩))
    (hrun : Sem.run P (Instr.loadAt ty (.pointer (some ⟨b, o, none⟩))) w = .ok v w) (h : wpListIn F n P ops Q rest (a.put op.dst v) w) : wpListIn F n P ops Q (op :: rest) a w := by
  unfold wpListIn
  simp only [hw, if_true]
  unfold Oper.wpIn
  refine ⟨by simp [Oper.about, ho], ?_⟩
  rw [Oper.semAt_plain F _ _ (by rw [ho]; intro c hc'; cases hc')]
  unfold execOp
  simp only [ho, hx]
  generalize Instr.loadAt ty (Value.pointer (some ⟨b, o, none⟩)) = L at hrun ⊢
  simp [go_sem, hrun]
  exact h
theorem load_rings {w : World} {b : Nat} {g a0 a1 : Int} {x : Bool} {t : TypeId} (h : IsBlk w b #[.int .i64 g, .int .i64 a0, .int .i64 a1, .bool x] t) : Sem.run Try.prog (Instr.loadAt 36 (.pointer (some ⟨b, 0, none⟩))) w = .ok (.agg #[.int .i64 g, .int .i64 a0, .int .i64 a1, .bool x]) w := by
  have := run_loadAt_mid (P := Try.prog) w b 0 36 [.int .i64 g, .int .i64 a0, .int .i64 a1, .bool x] _ (blk_range h.out 0 _ fun j hj => by simp) Try.underlying36 rfl (by kernel_rfl)
  exact this
/-- While one phase is asked. -/
structure PrI (X W Y : World) (K U Bx H : Nat) (S1 ok : Int) (is : Bool) (p s : Int) (W2 : World) : Prop where
  s : W2.heap[K + 1]? = some (.cells #[.int .i64 s] 3)
  bx : W2.heap[Bx]? = some (.cells #[.int .i64 p] 3)
  h : W2.heap[H]? = some (.cells #[.int .i64 ok] 3)
  h1 : W2.heap[H + 1]? = some (.cells #[.bool is] 4)
  u : W2.heap[U]? = some (.cells #[.int .i64 S1] 3)
  sz : Y.heap.size ≤ W2.heap.size
  bel : Below (K + 1) X W2
  kf : KeepsFrom X.heap.size W W2
theorem keepsFrom_below {B : Nat} {W W2 : World} (h : Below W.heap.size W W2) : KeepsFrom B W W2 := ⟨h.size, fun j o _ h1 _ => by rw [h.block j (Array.getElem?_eq_some_iff.1 h1).1]; exact h1⟩
theorem PrI.below {X W Y : World} {K U Bx H : Nat} {S1 ok : Int} {is : Bool} {p s : Int} {W2 W3 : World} (h : PrI X W Y K U Bx H S1 ok is p s W2) (hb : Below W2.heap.size W2 W3) (hX : K + 1 ≤ W2.heap.size) : PrI X W Y K U Bx H S1 ok is p s W3 := by
  obtain ⟨h1, h2, h3, h4, h5, h6, h7, h8⟩ := h
  exact ⟨(hb.block _ (Array.getElem?_eq_some_iff.1 h1).1).trans h1, (hb.block _ (Array.getElem?_eq_some_iff.1 h2).1).trans h2, (hb.block _ (Array.getElem?_eq_some_iff.1 h3).1).trans h3, (hb.block _ (Array.getElem?_eq_some_iff.1 h4).1).trans h4, (hb.block _ (Array.getElem?_eq_some_iff.1 h5).1).trans h5, Nat.le_trans h6 hb.size, h7.trans (hb.mono hX), h8.trans (keepsFrom_below hb)⟩
theorem PrI.set {X W Y : World} {K U Bx H : Nat} {S1 ok : Int} {is : Bool} {p s : Int} {W2 : World} (h : PrI X W Y K U Bx H S1 ok is p s W2) (s' : Int) (e1 : Bx ≠ K + 1) (e2 : H ≠ K + 1) (e3 : H + 1 ≠ K + 1) (e4 : U ≠ K + 1) : PrI X W Y K U Bx H S1 ok is p s' (W2.setCell ⟨K + 1, 0, none⟩ (.int .i64 s')) := by
  obtain ⟨h1, h2, h3, h4, h5, h6, h7, h8⟩ := h
  exact ⟨by rw [heap_set_same h1]; rfl, (Below.heap_setCell _ _ _ _ e1).trans h2, (Below.heap_setCell _ _ _ _ e2).trans h3, (Below.heap_setCell _ _ _ _ e3).trans h4, (Below.heap_setCell _ _ _ _ e4).trans h5, by simpa using h6, h7.setCell (p := ⟨K + 1, 0, none⟩) (Nat.le_refl _) _, h8.trans ((KeepsOthers.setCell _ _ _).from _)⟩
theorem PrI.own {X W Y : World} {K U Bx H : Nat} {S1 ok : Int} {is : Bool} {p : Int} (f : List Int → Int) (hW : W.heap.size ≤ Y.heap.size) (hX : X.heap.size ≤ Y.heap.size) (hK : K + 1 ≤ X.heap.size) : OwnFrom Y.heap.size (fun (pre : List Int) W2 => PrI X W Y K U Bx H S1 ok is p (f pre) W2) := fun s A C row hs hg hr => by
  obtain ⟨h1, h2, h3, h4, h5, h6, h7, h8⟩ := hs
  exact ⟨blk_from _ _ _ (fun pre : List Int => #[.int .i64 (f pre)]) s A C row h1 hg hr, blk_from _ _ _ (fun _ : List Int => #[.int .i64 p]) s A C row h2 hg hr, blk_from _ _ _ (fun _ : List Int => #[.int .i64 ok]) s A C row h3 hg hr, blk_from _ _ _ (fun _ : List Int => #[.bool is]) s A C row h4 hg hr, blk_from _ _ _ (fun _ : List Int => #[.int .i64 S1]) s A C row h5 hg hr, Nat.le_trans h6 hg.size, ownFrom_below hK (Nat.le_trans hK hX) s A C row h7 hg hr, ownFrom_keepsFrom hW s A C row h8 hg hr⟩
set_option maxHeartbeats 8000000 in
set_option maxRecDepth 100000 in
theorem ring_pressed (T : Array Value) (t : Tab) (R : Array Value) (rn : Nat → Rn) (g a0 a1 : Int) (x : Bool) (want : Int) (w : World) (hT : IsTab w T t) (hR : IsRuns R rn) :
    Calls Try.prog 49 #[.agg T, .agg #[.int .i64 g, .int .i64 a0, .int .i64 a1, .bool x], .agg R, .int .i64 want] w fun e w' => e = .returned (.int .i64 (pressZ t rn g a0 a1 want)) ∧ Below w.heap.size w w' := by
  haveI : Sz131 T := ⟨hT.size⟩
  haveI : Sz96 R := ⟨hR.1⟩
  have HR := Lib.hid hR
  have HT : Hid (∀ w', Below w.heap.size w w' → IsTab w' T t) := Lib.hid fun w' hb => hT.below hb (Nat.le_refl _)
  have HO : Hid (∀ w', Below w.heap.size w w' → Calls Try.prog 64 #[.agg T] w' fun e w'' => e = .returned (.int .i64 (onM t)) ∧ Below w'.heap.size w' w'') := Lib.hid fun w' hb => pon_any T t w' (HT.out w' hb)
  have HW : Hid (∀ w', Below w.heap.size w w' → ∀ p, Calls Try.prog 31 #[.agg T, .int .i64 p] w' fun e w'' => e = .returned (.tuple #[.int .i64 (whG (whereM t.gr p)), .int .i64 (whK (whereM t.gr p)), .int .i64 (whI (whereM t.gr p)), .bool (whereM t.gr p).isSome]) ∧ Below w'.heap.size w' w'') := Lib.hid fun w' hb p => pwhere_any T t p w' (HT.out w' hb)
  have HA : Hid (∀ w', Below w.heap.size w w' → ∀ k q, Calls Try.prog 65 #[.agg T, .agg #[.int .i64 g, .int .i64 a0, .int .i64 a1, .bool x], .int .i64 k, .int .i64 q] w' fun e w'' => e = .returned (.bool (ahM t.gr g a0 a1 k q)) ∧ Below w'.heap.size w' w'') := Lib.hid fun w' hb k q => ring_ahead T t g a0 a1 x k q w' (HT.out w' hb)
  obtain ⟨V, hV⟩ : ∃ V, pressZ t rn g a0 a1 want = V := ⟨_, rfl⟩
  rw [hV]
  unfold pressZ at hV
  generalize hgn : grnN rn 8 = gn at *
  have HGN := Lib.hid hgn
  obtain ⟨S1, hS1⟩ : ∃ s, bits .and .i64 gn (onM t) = s := ⟨_, rfl⟩
  obtain ⟨S2, hS2⟩ : ∃ s, bits .andNot .i64 want gn = s := ⟨_, rfl⟩
  rw [hS1, hS2] at hV
  have HV := Lib.hid hV
  clear hT hR hgn hV
  refine (callsIn_wide (n := 9)).1 ?_
  refine callsIn_of_wp_marks Try.func49 rfl trivial ?_ rfl
  simp only [Try.ntmps49, List.size_toArray, List.length_cons, List.length_nil, Nat.reduceAdd, Nat.reduceSub, Array.replicate_succ, Array.replicate_zero, List.push_toArray, List.append_toArray, List.nil_append, List.cons_append]
  refine wpIn_wide.2 ?_
  go_upto_region 2 with (first | (refine l_lruns rfl rfl rfl ?_; go_simp) | (go_at_call 45; refine (Up.run (ring_greens _ _ _ HR.out)).mono ?_; rintro e w' ⟨rfl, u1, rfl⟩; rw [HGN.out]))
  (refine wp_region_up_tail 4 (by kernel_rfl) (by kernel_rfl) ?_; simp only [List.take_succ_cons, List.take_zero, List.drop_succ_cons, List.drop_zero]; (repeat (first | (go_big_quiet_want; refine q_ltab rfl rfl ?_; simp only [Act.put, List.setIfInBounds_toArray, List.set_cons_succ, List.set_cons_zero]; go_big_quiet_on) | go_big_quiet_step ((first | (go_at_call 64; (with_reducible refine Up.calls (HO.out _ ?_)); (repeat' (first | (with_reducible exact Below.refl _ _) | (with_reducible assumption) | (with_reducible refine Below.setCell ?_ ?_ _) | (with_reducible refine Below.alloc ?_ ?_ _) | (with_reducible refine Below.drew ?_) | (with_reducible refine Up.base _ ?_ ?_) | (with_reducible exact LeSize.out) | exact LeSize.out | exact Nat.le_add_right_of_le LeSize.out | exact Nat.le_add_right_of_le (Nat.le_add_right_of_le LeSize.out) | (with_reducible exact Nat.le_refl _) | (simp; done) | (simp; omega)))) | fail)))); refine wpQuiet_nil ?_; rintro _ ⟨u, rfl⟩)
  go_wp2_with (go_at_call 33; refine (each_any _ _).mono ?_; rintro e w' ⟨rfl, rfl⟩)
  have hs1 := u1.bel.size
  simp only [World.size_alloc] at hs1
  have hs2 := u.bel.size
  simp only [World.size_alloc] at hs2
  obtain ⟨X, hX⟩ : ∃ X, u.w.alloc (.cells #[.int .i64 S1] 3) = X := ⟨_, rfl⟩
  have iT : IsBlk X w.heap.size T 32 := by rw [← hX]; infer_instance
  have iR : IsBlk X (w.heap.size + 1) #[.int .i64 g, .int .i64 a0, .int .i64 a1, .bool x] 36 := by rw [← hX]; infer_instance
  have iW : IsBlk X (w.heap.size + 1 + 1 + 1) #[.int .i64 want] 3 := by rw [← hX]; infer_instance
  have iG : IsBlk X u1.w.heap.size #[.int .i64 gn] 3 := by rw [← hX]; infer_instance
  have iS : IsBlk X (u1.w.heap.size + 1) #[.int .i64 0] 3 := by rw [← hX]; infer_instance
  have bN : Boxed X u.w.heap.size 3 (.int .i64 S1) := by rw [← hX]; exact (inferInstance : IsBlk _ _ _ _).out
  have hX0 : Below w.heap.size w X := by rw [← hX]; (repeat' (first | (with_reducible exact Below.refl _ _) | (with_reducible assumption) | (with_reducible refine Below.setCell ?_ ?_ _) | (with_reducible refine Below.alloc ?_ ?_ _) | (with_reducible refine Below.drew ?_) | (with_reducible refine Up.base _ ?_ ?_) | (with_reducible exact LeSize.out) | exact LeSize.out | exact Nat.le_add_right_of_le LeSize.out | exact Nat.le_add_right_of_le (Nat.le_add_right_of_le LeSize.out) | (with_reducible exact Nat.le_refl _) | (simp; done) | (simp; omega)))
  have hXs : X.heap.size = u.w.heap.size + 1 := by rw [← hX]; simp
  obtain ⟨K, hK⟩ : ∃ K, u1.w.heap.size = K := ⟨_, rfl⟩
  obtain ⟨U, hU⟩ : ∃ U, u.w.heap.size = U := ⟨_, rfl⟩
  rw [hX, hU, hK]
  rw [hU] at bN hXs hs2
  rw [hK] at iG iS hs1 hs2
  clear hX hU hK
  have h1' : (1 : Nat) ≤ 9 := by omega
  have hstops := each_stops 8 (by omega) U S1 X (by omega) bN.cell
  have HBI : Hid (∀ W, Below (K + 1) X W → IsBlk W w.heap.size T 32 ∧ IsBlk W (w.heap.size + 1) #[.int .i64 g, .int .i64 a0, .int .i64 a1, .bool x] 36 ∧ IsBlk W (w.heap.size + 1 + 1 + 1) #[.int .i64 want] 3 ∧ IsBlk W K #[.int .i64 gn] 3) := Lib.hid fun W hb => ⟨⟨(hb.block _ (by omega)).trans iT.out⟩, ⟨(hb.block _ (by omega)).trans iR.out⟩, ⟨(hb.block _ (by omega)).trans iW.out⟩, ⟨(hb.block _ (by omega)).trans iG.out⟩⟩
  clear iT iR iW iG
  refine (wpIn_wide (n := 9)).1 ?_
  refine wpIn_rangeFunc_ownH rfl h1' (gf := 59) (lb := #[.pointer (some ⟨U, 0, none⟩)]) rfl trivial (enters_of Try.func59 (by kernel_rfl) rfl)
    hstops keepB_t (keepB_b (by omega)) (Below.refl _ _) (fun _ => rfl)
    (fun pre W => (W.heap[K + 1]? = some (.cells #[.int .i64 (pre.foldl (prsOut t.gr g a0 a1 (listM S2)) 0)] 3) ∧ W.heap[U]? = some (.cells #[.int .i64 S1] 3)) ∧ Below (K + 1) X W)
    (fun c pre W => False)
    (OwnFrom.and (OwnFrom.and (blk_from _ _ _ (fun pre : List Int => #[.int .i64 (pre.foldl (prsOut t.gr g a0 a1 (listM S2)) 0)])) (blk_from _ _ _ (fun _ : List Int => #[.int .i64 S1]))) (ownFrom_below (by omega) (by omega)))
    (fun c _ _ _ _ hs _ _ => hs)
    ⟨⟨iS.out, bN⟩, Below.refl _ _⟩
    (fun p a' W => ∃ Bx, X.heap.size ≤ Bx ∧ W.heap[Bx]? = some (.cells #[.int .i64 p] 3) ∧ a' = { tmps := #[.agg T, .agg #[.int .i64 g, .int .i64 a0, .int .i64 a1, .bool x], .agg R, .int .i64 want, .pointer (some ⟨w.heap.size, 0, none⟩), .pointer (some ⟨w.heap.size + 1, 0, none⟩), .pointer (some ⟨w.heap.size + 1 + 1, 0, none⟩), .pointer (some ⟨w.heap.size + 1 + 1 + 1, 0, none⟩), .int .i64 0, .pointer (some ⟨K, 0, none⟩), .pointer (some ⟨K + 1, 0, none⟩), .pointer (some ⟨Bx, 0, none⟩), undef, undef, undef, undef, undef, .agg R, .int .i64 gn, .int .i64 gn, .agg T, .int .i64 (onM t), .int .i64 S1, (.func (.func 59) #[] #[.pointer (some ⟨U, 0, none⟩)]), .int .i64 p, undef, undef, undef, undef, undef, undef, undef, undef, undef, undef, undef, undef, undef, undef, undef, undef, undef, undef, undef, undef, undef, undef, undef, undef, undef, undef, undef], defers := [] })
    (fun p a' _ Y Z row hs hg hr => by obtain ⟨Bx, h1, h2, h3⟩ := hs; exact ⟨Bx, h1, blk_from 0 Bx 3 (fun (_ : Unit) => #[.int .i64 p]) () Y Z row h2 hg (fun r e => ⟨Nat.zero_le _, (hr r e).2⟩), h3⟩)
    ?assign ?body ?done ?stop
  case assign =>
    rintro l pre p W K2 ⟨⟨hO, hU⟩, hB⟩ hK2
    have hWs := hB.size
    gi_wp2
    exact hK2 _ _ ((KeepsOthers.alloc _ _).from _) (Below.heap_alloc _ _ _ (by omega)) ⟨⟨(Below.heap_alloc _ _ _ (by omega)).trans hO, (Below.heap_alloc _ _ _ (by omega)).trans hU⟩, hB.alloc (by omega) _⟩ ⟨W.heap.size, hWs, heap_alloc_here _ _, rfl⟩
  case body =>
    rintro l pre p a' W hl ⟨rec, hrec⟩ ⟨⟨hO, hU⟩, hB⟩ ⟨Bx, hBx, hP, rfl⟩ hlt
    obtain ⟨iT, iR, iW, iG⟩ := HBI.out W hB
    haveI iP : IsBlk W Bx #[.int .i64 p] 3 := ⟨hP⟩
    have hWs := hB.size
    have el : Sem.run Try.prog (Instr.loadAt 32 (.pointer (some ⟨w.heap.size, 0, none⟩))) W = .ok (.agg T) W := load_tab
    have hBw : Below w.heap.size w W := hX0.trans (hB.mono (by omega))
    have HWX : Hid (Calls Try.prog 31 #[.agg T, .int .i64 p] W fun e w'' => e = .returned (.tuple #[.int .i64 (whG (whereM t.gr p)), .int .i64 (whK (whereM t.gr p)), .int .i64 (whI (whereM t.gr p)), .bool (whereM t.gr p).isSome]) ∧ Below W.heap.size W w'') := Lib.hid (HW.out W hBw p)
    generalize whG (whereM t.gr p) = og at *
    generalize hok : whK (whereM t.gr p) = ok at *
    generalize whI (whereM t.gr p) = oi at *
    generalize hoi : (whereM t.gr p).isSome = is at *
    have HOK := Lib.hid hok
    have HOI := Lib.hid hoi
    clear hok hoi
    gi_wp2_with (first | (refine wpListIn_load_of rfl rfl rfl el ?_; go_simp) | (refine ⟨trivial, ?_⟩; gi_at_call 31; refine (CallsIn.inRound l (callsIn_wide.2 (Up.run HWX.out))).mono ?_; rintro e w' ⟨rfl, uwx, rfl⟩) | (refine ⟨trivial, ?_⟩; gi_at_call 33; refine (CallsIn.inRound l (callsIn_wide.2 (each_any _ _))).mono ?_; rintro e w' ⟨rfl, rfl⟩))
    have hh := uwx.bel.size
    haveI iO : IsBlk W (K + 1) #[.int .i64 (pre.foldl (prsOut t.gr g a0 a1 (listM S2)) 0)] 3 := ⟨hO⟩
    haveI iU : IsBlk W U #[.int .i64 S1] 3 := ⟨hU⟩
    obtain ⟨Y, hY⟩ : ∃ Y, ((uwx.w.alloc (.cells #[.int .i64 ok] 3)).alloc (.cells #[.bool is] 4)).alloc (.cells #[.int .i64 S2] 3) = Y := ⟨_, rfl⟩
    have j13 : IsBlk Y uwx.w.heap.size #[.int .i64 ok] 3 := by rw [← hY]; infer_instance
    have j15 : IsBlk Y (uwx.w.heap.size + 1) #[.bool is] 4 := by rw [← hY]; infer_instance
    have jP : IsBlk Y Bx #[.int .i64 p] 3 := by rw [← hY]; infer_instance
    have jO : IsBlk Y (K + 1) #[.int .i64 (pre.foldl (prsOut t.gr g a0 a1 (listM S2)) 0)] 3 := by rw [← hY]; infer_instance
    have jU : IsBlk Y U #[.int .i64 S1] 3 := by rw [← hY]; infer_instance
    have bN2 : Boxed Y (uwx.w.heap.size + 1 + 1) 3 (.int .i64 S2) := by rw [← hY]; exact (inferInstance : IsBlk _ _ _ _).out
    have hYs : Y.heap.size = uwx.w.heap.size + 3 := by rw [← hY]; simp
    have hYb : Below W.heap.size W Y := by rw [← hY]; (repeat' (first | (with_reducible exact Below.refl _ _) | (with_reducible assumption) | (with_reducible refine Below.setCell ?_ ?_ _) | (with_reducible refine Below.alloc ?_ ?_ _) | (with_reducible refine Below.drew ?_) | (with_reducible refine Up.base _ ?_ ?_) | (with_reducible exact LeSize.out) | exact LeSize.out | exact Nat.le_add_right_of_le LeSize.out | exact Nat.le_add_right_of_le (Nat.le_add_right_of_le LeSize.out) | (with_reducible exact Nat.le_refl _) | (simp; done) | (simp; omega)))
    have hYl : Y.heap[l]? = some (.loop rec) := (hYb.block _ (Array.getElem?_eq_some_iff.1 hrec).1).trans hrec
    obtain ⟨H, hH⟩ : ∃ H, uwx.w.heap.size = H := ⟨_, rfl⟩
    rw [hY, hH]
    rw [hH] at j13 j15 bN2 hYs hh
    clear hY hH
    have hPI : PrI X W Y K U Bx H S1 ok is p (pre.foldl (prsOut t.gr g a0 a1 (listM S2)) 0) Y := ⟨jO.out, jP.out, j13.out, j15.out, jU.out, Nat.le_refl _, hB.trans (hYb.mono (by omega)), keepsFrom_below hYb⟩
    have hBxl : Bx < W.heap.size := (Array.getElem?_eq_some_iff.1 hP).1
    obtain ⟨s0, hs0⟩ : ∃ s0, pre.foldl (prsOut t.gr g a0 a1 (listM S2)) 0 = s0 := ⟨_, rfl⟩
    have hsn : (pre ++ [p]).foldl (prsOut t.gr g a0 a1 (listM S2)) 0 = (listM S2).foldl (prsIn t.gr g a0 a1 p) s0 := by rw [List.foldl_append, hs0]; rfl
    have HSN := Lib.hid hsn
    rw [hs0] at hPI
    have h2' : (1 : Nat) ≤ 9 - 1 - 1 := by omega
    clear iT iR iW iG el hO jO jP j13 j15 jU hs0 hsn HWX iO iP
    refine wpIn_rangeFunc_ownN (l₀ := l) (r₀ := rec) rfl hYl h2' (gf := 59) (lb := #[.pointer (some ⟨H + 1 + 1, 0, none⟩)]) rfl trivial (enters_of Try.func59 (by kernel_rfl) rfl)
      ((each_stops 6 (by omega) (H + 1 + 1) S2 Y (by omega) bN2.cell).inRound l) keepB_t (keepB_b (by omega)) (Below.refl _ _) (fun _ => rfl)
      (fun pre2 W2 => PrI X W Y K U Bx H S1 ok is p (pre2.foldl (prsIn t.gr g a0 a1 p) s0) W2)
      (fun c _ _ => False)
      (PrI.own (fun pre2 : List Int => pre2.foldl (prsIn t.gr g a0 a1 p) s0) (by omega) (by omega) (by omega))
      (fun c _ _ _ _ hs _ _ => hs)
      hPI
      (fun q a' _ => a' = { tmps := #[.agg T, .agg #[.int .i64 g, .int .i64 a0, .int .i64 a1, .bool x], .agg R, .int .i64 want, .pointer (some ⟨w.heap.size, 0, none⟩), .pointer (some ⟨w.heap.size + 1, 0, none⟩), .pointer (some ⟨w.heap.size + 1 + 1, 0, none⟩), .pointer (some ⟨w.heap.size + 1 + 1 + 1, 0, none⟩), .int .i64 0, .pointer (some ⟨K, 0, none⟩), .pointer (some ⟨K + 1, 0, none⟩), .pointer (some ⟨Bx, 0, none⟩), .int .i64 og, .pointer (some ⟨H, 0, none⟩), .int .i64 oi, .pointer (some ⟨H + 1, 0, none⟩), .int .i64 q, .agg R, .int .i64 gn, .int .i64 gn, .agg T, .int .i64 (onM t), .int .i64 S1, (.func (.func 59) #[] #[.pointer (some ⟨U, 0, none⟩)]), .int .i64 p, .tuple #[.int .i64 og, .int .i64 ok, .int .i64 oi, .bool is], .agg T, .int .i64 p, .tuple #[.int .i64 og, .int .i64 ok, .int .i64 oi, .bool is], .int .i64 og, .int .i64 ok, .int .i64 oi, .bool is, .int .i64 want, .int .i64 gn, .int .i64 S2, (.func (.func 59) #[] #[.pointer (some ⟨H + 1 + 1, 0, none⟩)]), .int .i64 q, undef, undef, undef, undef, undef, undef, undef, undef, undef, undef, undef, undef, undef, undef], defers := [] })
      (fun _ _ _ _ _ _ hs _ _ => hs)
      ?assign2 ?body2 ?done2 ?stop2
    case assign2 =>
      intro l2 pre2 q W2 K2 hi hK2
      gi_wp2
      exact hK2 _ _ (KeepsFrom.refl _ _) rfl hi rfl
    case body2 =>
      rintro l2 pre2 q a2 W2 hl2 _ hPI2 rfl hlt2
      obtain ⟨iT, iR, iW, iG⟩ := HBI.out W2 hPI2.bel
      have el : Sem.run Try.prog (Instr.loadAt 32 (.pointer (some ⟨w.heap.size, 0, none⟩))) W2 = .ok (.agg T) W2 := load_tab
      have er := load_rings iR
      have hsz := hPI2.sz
      have hBw2 : Below w.heap.size w W2 := hX0.trans (hPI2.bel.mono (by omega))
      have HAX : Hid (Calls Try.prog 65 #[.agg T, .agg #[.int .i64 g, .int .i64 a0, .int .i64 a1, .bool x], .int .i64 ok, .int .i64 q] W2 fun e w'' => e = .returned (.bool (ahM t.gr g a0 a1 ok q)) ∧ Below W2.heap.size W2 w'') := Lib.hid (HA.out W2 hBw2 ok q)
      obtain ⟨s1, hs1⟩ : ∃ s1, pre2.foldl (prsIn t.gr g a0 a1 p) s0 = s1 := ⟨_, rfl⟩
      have hst : (pre2 ++ [q]).foldl (prsIn t.gr g a0 a1 p) s0 = if (!is || !ahM t.gr g a0 a1 ok q) = true then withM s1 p else s1 := by
        rw [List.foldl_append, hs1, ← HOK.out, ← HOI.out]; rfl
      rw [hs1] at hPI2
      have HP2 := Lib.hid hPI2
      have HST := Lib.hid hst
      haveI iS : IsBlk W2 (K + 1) #[.int .i64 s1] 3 := ⟨hPI2.s⟩
      haveI iP : IsBlk W2 Bx #[.int .i64 p] 3 := ⟨hPI2.bx⟩
      haveI iH : IsBlk W2 H #[.int .i64 ok] 3 := ⟨hPI2.h⟩
      haveI iH1 : IsBlk W2 (H + 1) #[.bool is] 4 := ⟨hPI2.h1⟩
      have HFB : Hid (∀ W3, Below W2.heap.size W2 W3 → KeepsFrom Y.heap.size W2 W3 ∧ KeepB (H + 1 + 1) W2 W3 ∧ PrI X W Y K U Bx H S1 ok is p s1 W3) := Lib.hid fun W3 hb => ⟨keepsFrom_below hb, hb.block _ (by omega), HP2.out.below hb (by omega)⟩
      have HFS : Hid (∀ W3, Below W2.heap.size W2 W3 → KeepsFrom Y.heap.size W2 (W3.setCell ⟨K + 1, 0, none⟩ (.int .i64 (withM s1 p))) ∧ KeepB (H + 1 + 1) W2 (W3.setCell ⟨K + 1, 0, none⟩ (.int .i64 (withM s1 p))) ∧ PrI X W Y K U Bx H S1 ok is p (withM s1 p) (W3.setCell ⟨K + 1, 0, none⟩ (.int .i64 (withM s1 p)))) := Lib.hid fun W3 hb =>
        ⟨(HFB.out W3 hb).1.trans ((KeepsOthers.setCell _ _ _).from _), (Below.heap_setCell _ _ _ _ (show H + 1 + 1 ≠ K + 1 by omega)).trans (HFB.out W3 hb).2.1, (HFB.out W3 hb).2.2.set _ (by omega) (by omega) (by omega) (by omega)⟩
      generalize ahM t.gr g a0 a1 ok q = ah at *
      clear hs1 hst hPI2 hPI hB hBw2 HP2
      cases is
      · have hn : (pre2 ++ [q]).foldl (prsIn t.gr g a0 a1 p) s0 = withM s1 p := by rw [HST.out]; rfl
        have HN := Lib.hid hn
        clear hn
        gi_wp2_with (first | (refine wpListIn_load_w rfl rfl rfl el ?_; go_simp) | (refine wpListIn_load_w rfl rfl rfl er ?_; go_simp))
        refine ⟨trivial, ?_⟩
        gi_wp2_with (first | (refine ⟨trivial, ?_⟩; gi_at_call 42; refine (CallsIn.inRound l2 (CallsIn.inRound l (callsIn_wide.2 (swith_any _ _ _)))).mono ?_; rintro e w' ⟨rfl, rfl⟩))
        have hfin := HFS.out _ (Below.refl _ _)
        exact ⟨hfin.1, hfin.2.1, by show PrI X W Y K U Bx H S1 ok false p ((pre2 ++ [q]).foldl (prsIn t.gr g a0 a1 p) s0) _; rw [HN.out]; exact hfin.2.2⟩
      · cases ah
        · have hn : (pre2 ++ [q]).foldl (prsIn t.gr g a0 a1 p) s0 = withM s1 p := by rw [HST.out]; rfl
          have HN := Lib.hid hn
          clear hn
          gi_wp2_with (first | (refine wpListIn_load_w rfl rfl rfl el ?_; go_simp) | (refine wpListIn_load_w rfl rfl rfl er ?_; go_simp) | (refine ⟨trivial, ?_⟩; gi_at_call 65; refine (CallsIn.inRound l2 (CallsIn.inRound l (callsIn_wide.2 (Up.run HAX.out)))).mono ?_; rintro e w' ⟨rfl, ua, rfl⟩) | (refine ⟨trivial, ?_⟩; gi_at_call 42; refine (CallsIn.inRound l2 (CallsIn.inRound l (callsIn_wide.2 (swith_any _ _ _)))).mono ?_; rintro e w' ⟨rfl, rfl⟩))
          have hfin := HFS.out _ ua.bel
          exact ⟨hfin.1, hfin.2.1, by show PrI X W Y K U Bx H S1 ok true p ((pre2 ++ [q]).foldl (prsIn t.gr g a0 a1 p) s0) _; rw [HN.out]; exact hfin.2.2⟩
        · have hn : (pre2 ++ [q]).foldl (prsIn t.gr g a0 a1 p) s0 = s1 := by rw [HST.out]; rfl
          have HN := Lib.hid hn
          clear hn
          gi_wp2_with (first | (refine wpListIn_load_w rfl rfl rfl el ?_; go_simp) | (refine wpListIn_load_w rfl rfl rfl er ?_; go_simp) | (refine ⟨trivial, ?_⟩; gi_at_call 65; refine (CallsIn.inRound l2 (CallsIn.inRound l (callsIn_wide.2 (Up.run HAX.out)))).mono ?_; rintro e w' ⟨rfl, ua, rfl⟩) | (refine ⟨trivial, ?_⟩; gi_at_call 42; refine (CallsIn.inRound l2 (CallsIn.inRound l (callsIn_wide.2 (swith_any _ _ _)))).mono ?_; rintro e w' ⟨rfl, rfl⟩))
          have hfin := HFB.out _ ua.bel
          exact ⟨hfin.1, hfin.2.1, by show PrI X W Y K U Bx H S1 ok true p ((pre2 ++ [q]).foldl (prsIn t.gr g a0 a1 p) s0) _; rw [HN.out]; exact hfin.2.2⟩
    case done2 =>
      rintro qs W2 rfl hI2
      gi_wp2
      exact ⟨hI2.kf, hI2.u.trans hU.symm, ⟨by rw [HSN.out]; exact hI2.s, hI2.u⟩, hI2.bel⟩
    case stop2 =>
      rintro c pre2 W2 _ h
      exact h.elim
  case done =>
    rintro D ps W hD rfl ⟨⟨hO, hU⟩, hB⟩ hK
    have hWs := hB.size
    rw [HV.out] at hO
    haveI iO : IsBlk W (K + 1) #[.int .i64 V] 3 := ⟨hO⟩
    have hb0 : Below w.heap.size w W := hX0.trans (hB.mono (by omega))
    clear hO hU
    go_wp2
    refine ⟨by simp, .inl ⟨_, _, rfl, run_takeDeferred hK, ?_⟩⟩
    exact ⟨_, results_tmp rfl _ _ _, rfl, hb0.trans (belowK_b (w := w) (Nat.le_refl _) W D _ _ (by omega) hK rfl rfl)⟩
  case stop =>
    rintro D c pre W hD hpre h hK
    exact h.elim
end
end
section
open Go.RowKit
set_option linter.unusedVariables false
attribute [local go_sem] IsBlk.cell IsBlk.frozen

/-! ### Rings -/
structure Rg where
  g : Int
  a0 : Int
  a1 : Int
  x : Bool
def rgA (r : Rg) : Array Value := #[.int .i64 r.g, .int .i64 r.a0, .int .i64 r.a1, .bool r.x]
def rgN (t : Tab) (rn : Nat → Rn) (want : Int) (r : Rg) : Rg :=
  if r.x = true then (if redsB rn 8 = true then ⟨folG t r.g want, -1, -1, false⟩ else r) else ⟨r.g, (stS1 t rn r.g want r.a0).2.2, (stS2 t rn r.g want r.a0 r.a1).2.2, stCr t rn r.g want r.a0 r.a1⟩
def rgS (t : Tab) (rn : Nat → Rn) (want : Int) (r : Rg) : Int := if r.x = true then 0 else (stS2 t rn r.g want r.a0 r.a1).1
def rgE (t : Tab) (rn : Nat → Rn) (want : Int) (r : Rg) : Int := if r.x = true then 0 else stEn t rn r.g want r.a0 r.a1
theorem ring_step (T : Array Value) (t : Tab) (R : Array Value) (rn : Nat → Rn) (r : Rg) (want : Int) (w : World) (hg : InKind .i64 r.g) (hT : IsTab w T t) (hR : IsRuns R rn) :
    Calls Try.prog 12 #[.agg T, .agg (rgA r), .agg R, .int .i64 want] w fun e w' => e = .returned (.tuple #[.agg (rgA (rgN t rn want r)), .int .i64 (rgS t rn want r), .int .i64 (rgE t rn want r)]) ∧ Below w.heap.size w w' := by
  obtain ⟨g, a0, a1, x⟩ := r
  cases x
  · have := ring_step_main T t R rn g a0 a1 want w hT hR
    unfold stepV ringV at this
    exact this
  · have := ring_step_cross T t R rn g a0 a1 want w hg hT hR
    unfold crossV ringV at this
    unfold rgA rgN rgS rgE
    cases hr : redsB rn 8
    · simp only [hr, Bool.false_eq_true, if_false] at this
      simpa [hr] using this
    · simp only [hr, if_true] at this
      simpa [hr] using this
/-! ### The play -/
structure Pl where
  r : Rg
  rn : Nat → Rn
  cn : Nat → Int
  cr : Int
def plAt (T : Array Value) (s : Pl) (j : Nat) : Value :=
  if j < 131 then (T[j]?).getD undef
  else if j < 135 then ((rgA s.r)[j - 131]?).getD undef
  else if j < 231 then ((RuA (s.rn ((j - 135) / 12)))[(j - 135) % 12]?).getD undef
  else if j < 239 then .int .i64 (s.cn (j - 231))
  else .int .i64 s.cr
def PlA (T : Array Value) (s : Pl) : Array Value := arrF 240 (plAt T s)
theorem plA_size (T : Array Value) (s : Pl) : (PlA T s).size = 240 := arrF_size _ _
theorem plA_get (T : Array Value) (s : Pl) {j : Nat} (h : j < 240) : (PlA T s)[j]? = some (plAt T s j) := arrF_get _ _ _ h
theorem getD_of {C : Array Value} {j : Nat} (h : j < C.size) : some ((C[j]?).getD undef) = C[j]? := by rw [Array.getElem?_eq_getElem h]; rfl
theorem plA_T {T : Array Value} (hT : T.size = 131) (s : Pl) {j : Nat} (h : j < 131) : (PlA T s)[j]? = T[j]? := by
  rw [plA_get _ _ (by omega)]
  unfold plAt
  rw [if_pos h]
  exact getD_of (by omega)
theorem plA_r (T : Array Value) (s : Pl) {j : Nat} (h : j < 4) : (PlA T s)[131 + j]? = (rgA s.r)[j]? := by
  rw [plA_get _ _ (by omega)]
  unfold plAt
  rw [if_neg (by omega), if_pos (by omega), show 131 + j - 131 = j by omega]
  exact getD_of h
theorem plA_run (T : Array Value) (s : Pl) {k j : Nat} (hk : k < 8) (h : j < 12) : (PlA T s)[135 + k * 12 + j]? = (RuA (s.rn k))[j]? := by
  rw [plA_get _ _ (by omega)]
  unfold plAt
  rw [if_neg (by omega), if_neg (by omega), if_pos (by omega), show (135 + k * 12 + j - 135) / 12 = k by omega, show (135 + k * 12 + j - 135) % 12 = j by omega]
  exact getD_of (by simpa [RuA] using h)
theorem plA_cn (T : Array Value) (s : Pl) {k : Nat} (hk : k < 8) : (PlA T s)[231 + k]? = some (.int .i64 (s.cn k)) := by
  rw [plA_get _ _ (by omega)]
  unfold plAt
  rw [if_neg (by omega), if_neg (by omega), if_neg (by omega), if_pos (by omega), show 231 + k - 231 = k by omega]
theorem plA_cr (T : Array Value) (s : Pl) : (PlA T s)[239]? = some (.int .i64 s.cr) := by
  rw [plA_get _ _ (by omega)]; rfl
theorem plA_x (T : Array Value) (s : Pl) : (PlA T s)[134]? = some (.bool s.r.x) := plA_r T s (j := 3) (by omega)
def runsA (rn : Nat → Rn) : Array Value := arrF 96 fun i => ((RuA (rn (i / 12)))[i % 12]?).getD undef
theorem runsA_runs (rn : Nat → Rn) : IsRuns (runsA rn) rn := ⟨arrF_size _ _, fun k hk j hj => by
  unfold runsA
  rw [arrF_get _ _ _ (by omega), show (k * 12 + j) / 12 = k by omega, show (k * 12 + j) % 12 = j by omega]
  exact getD_of (by simpa [RuA] using hj)⟩
theorem runsA_bgn (t : Tab) : bgnR t = runsA fun p => bgn19 (t.ph p) := rfl
/-- A block that is a play. -/
class IsPl (C : Array Value) (T : outParam (Array Value)) (s : outParam Pl) : Prop where
  out : C = PlA T s
instance instIsPl (T : Array Value) (s : Pl) : IsPl (PlA T s) T s := ⟨rfl⟩
theorem load_pT {w : World} {b : Nat} {C : Array Value} {t : TypeId} {T : Array Value} {s : Pl} [h : IsBlk w b C t] [hp : IsPl C T s] [hz : Sz131 T] : Sem.run Try.prog (Instr.loadAt 32 (.pointer (some ⟨b, 0, none⟩))) w = .ok (.agg T) w := by
  have := run_loadAt_mid (P := Try.prog) w b 0 32 T.toList _ (blk_range h.out 0 _ fun j hj => by rw [Nat.zero_add, hp.out, plA_T hz.out s (by have := hz.out; simp at hj; omega)]; simp) Try.underlying32 rfl (by rw [Array.length_toList, hz.out]; exact info_tab)
  simpa using this
theorem info_rings : (Try.prog.info? 36).map (·.size) = some 4 := by kernel_rfl
theorem load_pR {w : World} {b : Nat} {C : Array Value} {t : TypeId} {T : Array Value} {s : Pl} [h : IsBlk w b C t] [hp : IsPl C T s] : Sem.run Try.prog (Instr.loadAt 36 (.pointer (some ⟨b, 131, none⟩))) w = .ok (.agg (rgA s.r)) w := by
  have := run_loadAt_mid (P := Try.prog) w b 131 36 (rgA s.r).toList _ (blk_range h.out 131 _ fun j hj => by rw [hp.out, plA_r T s (by simpa [rgA] using hj)]; simp) Try.underlying36 rfl (by kernel_rfl)
  simpa using this
theorem info_runs96 : (Try.prog.info? 46).map (·.size) = some 96 := by kernel_rfl
theorem load_pU {w : World} {b : Nat} {C : Array Value} {t : TypeId} {T : Array Value} {s : Pl} [h : IsBlk w b C t] [hp : IsPl C T s] : Sem.run Try.prog (Instr.loadAt 46 (.pointer (some ⟨b, 135, none⟩))) w = .ok (.agg (runsA s.rn)) w := by
  have hl : (runsA s.rn).toList.length = 96 := by rw [Array.length_toList]; exact arrF_size _ _
  have := run_loadAt_mid (P := Try.prog) w b 135 46 (runsA s.rn).toList _ (blk_range h.out 135 _ fun j hj => by
    rw [hl] at hj
    have e : 135 + j = 135 + (j / 12) * 12 + j % 12 := by omega
    rw [hp.out, e, plA_run T s (by omega) (by omega)]
    rw [Array.getElem?_toList]
    have := (runsA_runs s.rn).2 (j / 12) (by omega) (j % 12) (by omega)
    rw [← this, show j / 12 * 12 + j % 12 = j by omega]) Try.underlying46 rfl (by rw [hl]; exact info_runs96)
  simpa using this
theorem q_lpT {W : World} {K : Act → Prop} {op : Oper} {a : Act} {x : Operand} {b : Nat} {C : Array Value} {t : TypeId} {T : Array Value} {s : Pl} [hp : IsPl C T s] [hz : Sz131 T] (ho : op.op = .load 32 x) (hx : a.eval x = .pointer (some ⟨b, 0, none⟩)) [h : IsBlk W b C t]
    (hk : K (a.put op.dst (.agg T))) : op.quiet Try.prog a (fun w' => ∃ u : Up W, w' = u.w) K := quiet_load_at ho hx (fun u => load_pT) hk
theorem z_lpT {W : World} {Z : World → Prop} {K : Act → Prop} {op : Oper} {a : Act} {x : Operand} {b : Nat} {C : Array Value} {t : TypeId} {T : Array Value} {s : Pl} [hp : IsPl C T s] [hz : Sz131 T] (ho : op.op = .load 32 x) (hx : a.eval x = .pointer (some ⟨b, 0, none⟩)) [h : IsBlk W b C t]
    (hk : K (a.put op.dst (.agg T))) : op.quiet Try.prog a (fun w' => ∃ u : UpZ W Z, w' = u.up.w) K := quiet_load_z ho hx (fun u => load_pT) hk
theorem l_lpT {ops : Array Oper} {rest : List Oper} {op : Oper} {a : Act} {w : World} {Q : Exit → Act → World → Prop} {x : Operand} {b : Nat} {C : Array Value} {t : TypeId} {T : Array Value} {s : Pl} [hp : IsPl C T s] [hz : Sz131 T] (hgd : op.guard = none) (ho : op.op = .load 32 x) (hx : a.eval x = .pointer (some ⟨b, 0, none⟩)) [h : IsBlk w b C t]
    (hk : wpList Try.prog ops Q rest (a.put op.dst (.agg T)) w) : wpList Try.prog ops Q (op :: rest) a w := wpList_load_at hgd ho hx load_pT hk
theorem y_lpT {ops : Array Oper} {S : World → Prop} {op : Oper} {a : Act} {x : Operand} {b : Nat} {C : Array Value} {t : TypeId} {T : Array Value} {s : Pl} [hp : IsPl C T s] [hz : Sz131 T] (hw : Region.wanted op (yielded ops a.tmps) = true) (ho : op.op = .load 32 x) (hx : a.eval x = .pointer (some ⟨b, 0, none⟩)) (hS : ∀ w, S w → IsBlk w b C t) :
    YieldsIf Try.prog ops S op (.agg T) a := yieldsIf_load_at hw ho hx (fun w hs => by haveI := hS w hs; exact load_pT)
theorem q_lpR {W : World} {K : Act → Prop} {op : Oper} {a : Act} {x : Operand} {b : Nat} {C : Array Value} {t : TypeId} {T : Array Value} {s : Pl} [hp : IsPl C T s] (ho : op.op = .load 36 x) (hx : a.eval x = .pointer (some ⟨b, 131, none⟩)) [h : IsBlk W b C t]
    (hk : K (a.put op.dst (.agg (rgA s.r)))) : op.quiet Try.prog a (fun w' => ∃ u : Up W, w' = u.w) K := quiet_load_at ho hx (fun u => load_pR) hk
theorem z_lpR {W : World} {Z : World → Prop} {K : Act → Prop} {op : Oper} {a : Act} {x : Operand} {b : Nat} {C : Array Value} {t : TypeId} {T : Array Value} {s : Pl} [hp : IsPl C T s] (ho : op.op = .load 36 x) (hx : a.eval x = .pointer (some ⟨b, 131, none⟩)) [h : IsBlk W b C t]
    (hk : K (a.put op.dst (.agg (rgA s.r)))) : op.quiet Try.prog a (fun w' => ∃ u : UpZ W Z, w' = u.up.w) K := quiet_load_z ho hx (fun u => load_pR) hk
theorem l_lpR {ops : Array Oper} {rest : List Oper} {op : Oper} {a : Act} {w : World} {Q : Exit → Act → World → Prop} {x : Operand} {b : Nat} {C : Array Value} {t : TypeId} {T : Array Value} {s : Pl} [hp : IsPl C T s] (hgd : op.guard = none) (ho : op.op = .load 36 x) (hx : a.eval x = .pointer (some ⟨b, 131, none⟩)) [h : IsBlk w b C t]
    (hk : wpList Try.prog ops Q rest (a.put op.dst (.agg (rgA s.r))) w) : wpList Try.prog ops Q (op :: rest) a w := wpList_load_at hgd ho hx load_pR hk
theorem y_lpR {ops : Array Oper} {S : World → Prop} {op : Oper} {a : Act} {x : Operand} {b : Nat} {C : Array Value} {t : TypeId} {T : Array Value} {s : Pl} [hp : IsPl C T s] (hw : Region.wanted op (yielded ops a.tmps) = true) (ho : op.op = .load 36 x) (hx : a.eval x = .pointer (some ⟨b, 131, none⟩)) (hS : ∀ w, S w → IsBlk w b C t) :
    YieldsIf Try.prog ops S op (.agg (rgA s.r)) a := yieldsIf_load_at hw ho hx (fun w hs => by haveI := hS w hs; exact load_pR)
theorem q_lpU {W : World} {K : Act → Prop} {op : Oper} {a : Act} {x : Operand} {b : Nat} {C : Array Value} {t : TypeId} {T : Array Value} {s : Pl} [hp : IsPl C T s] (ho : op.op = .load 46 x) (hx : a.eval x = .pointer (some ⟨b, 135, none⟩)) [h : IsBlk W b C t]
    (hk : K (a.put op.dst (.agg (runsA s.rn)))) : op.quiet Try.prog a (fun w' => ∃ u : Up W, w' = u.w) K := quiet_load_at ho hx (fun u => load_pU) hk
theorem z_lpU {W : World} {Z : World → Prop} {K : Act → Prop} {op : Oper} {a : Act} {x : Operand} {b : Nat} {C : Array Value} {t : TypeId} {T : Array Value} {s : Pl} [hp : IsPl C T s] (ho : op.op = .load 46 x) (hx : a.eval x = .pointer (some ⟨b, 135, none⟩)) [h : IsBlk W b C t]
    (hk : K (a.put op.dst (.agg (runsA s.rn)))) : op.quiet Try.prog a (fun w' => ∃ u : UpZ W Z, w' = u.up.w) K := quiet_load_z ho hx (fun u => load_pU) hk
theorem l_lpU {ops : Array Oper} {rest : List Oper} {op : Oper} {a : Act} {w : World} {Q : Exit → Act → World → Prop} {x : Operand} {b : Nat} {C : Array Value} {t : TypeId} {T : Array Value} {s : Pl} [hp : IsPl C T s] (hgd : op.guard = none) (ho : op.op = .load 46 x) (hx : a.eval x = .pointer (some ⟨b, 135, none⟩)) [h : IsBlk w b C t]
    (hk : wpList Try.prog ops Q rest (a.put op.dst (.agg (runsA s.rn))) w) : wpList Try.prog ops Q (op :: rest) a w := wpList_load_at hgd ho hx load_pU hk
theorem y_lpU {ops : Array Oper} {S : World → Prop} {op : Oper} {a : Act} {x : Operand} {b : Nat} {C : Array Value} {t : TypeId} {T : Array Value} {s : Pl} [hp : IsPl C T s] (hw : Region.wanted op (yielded ops a.tmps) = true) (ho : op.op = .load 46 x) (hx : a.eval x = .pointer (some ⟨b, 135, none⟩)) (hS : ∀ w, S w → IsBlk w b C t) :
    YieldsIf Try.prog ops S op (.agg (runsA s.rn)) a := yieldsIf_load_at hw ho hx (fun w hs => by haveI := hS w hs; exact load_pU)
theorem isPx_pl {w : World} {T : Array Value} {t : Tab} (h : IsTab w T t) (s : Pl) {k : Nat} (hk : k < 8) : IsPx (PlA T s) (k * 13) (t.ph k) := ⟨fun j hj => by
  rw [plA_T h.size s (by omega)]
  exact (isPx_of h hk).out j hj⟩
theorem isRu_pl (T : Array Value) (s : Pl) {k : Nat} (hk : k < 8) : IsRu (PlA T s) (135 + k * 12) (s.rn k) := ⟨fun j hj => plA_run T s hk hj⟩
/-! Stores -/
def Pl.setR (s : Pl) (r : Rg) : Pl := { s with r := r }
def Pl.setRun (s : Pl) (k : Nat) (r : Rn) : Pl := { s with rn := fun q => if q = k then r else s.rn q }
def Pl.setRuns (s : Pl) (rn : Nat → Rn) : Pl := { s with rn := rn }
def Pl.setCn (s : Pl) (k : Nat) (v : Int) : Pl := { s with cn := fun q => if q = k then v else s.cn q }
def Pl.noCn (s : Pl) : Pl := { s with cn := fun _ => 0 }
def Pl.setCr (s : Pl) (v : Int) : Pl := { s with cr := v }
theorem plA_setR (T : Array Value) (s : Pl) (r : Rg) : spl (PlA T s) 131 (rgA r).toList = PlA T (s.setR r) := by
  refine arrF_spl (by simp [rgA]) fun j hj => ?_
  have hl : (rgA r).toList.length = 4 := rfl
  rw [hl]
  unfold plAt Pl.setR
  by_cases e : 131 ≤ j ∧ j < 131 + 4
  · rw [if_pos e, if_neg (by omega), if_pos (by omega)]; simp
  · rw [if_neg e]
    by_cases h1 : j < 131
    · rw [if_pos h1, if_pos h1]
    · have h2 : ¬ j < 135 := by omega
      rw [if_neg h1, if_neg h1, if_neg h2, if_neg h2]
theorem plA_setAt (T : Array Value) (s : Pl) (a0 a1 : Int) : spl (PlA T s) 132 [.int .i64 a0, .int .i64 a1] = PlA T (s.setR ⟨s.r.g, a0, a1, s.r.x⟩) := by
  refine arrF_spl (by simp) fun j hj => ?_
  simp only [List.length_cons, List.length_nil]
  unfold plAt Pl.setR
  by_cases e : 132 ≤ j ∧ j < 132 + (0 + 1 + 1)
  · rw [if_pos e, if_neg (by omega), if_pos (by omega)]
    rcases (show j = 132 ∨ j = 133 by omega) with rfl | rfl <;> rfl
  · rw [if_neg e]
    by_cases h1 : j < 131
    · rw [if_pos h1, if_pos h1]
    · rw [if_neg h1, if_neg h1]
      by_cases h2 : j < 135
      · rw [if_pos h2, if_pos h2]
        rcases (show j = 131 ∨ j = 134 by omega) with rfl | rfl <;> rfl
      · rw [if_neg h2, if_neg h2]
theorem plA_setRun (T : Array Value) (s : Pl) {k : Nat} (hk : k < 8) (r : Rn) : spl (PlA T s) (135 + k * 12) (RuA r).toList = PlA T (s.setRun k r) := by
  refine arrF_spl (by simp [RuA]; omega) fun j hj => ?_
  have hl : (RuA r).toList.length = 12 := rfl
  rw [hl]
  unfold plAt Pl.setRun
  by_cases e : 135 + k * 12 ≤ j ∧ j < 135 + k * 12 + 12
  · rw [if_pos e, if_neg (by omega), if_neg (by omega), if_pos (by omega)]
    simp only
    rw [if_pos (by omega), show (j - 135) % 12 = j - (135 + k * 12) by omega]; simp
  · rw [if_neg e]
    by_cases h1 : j < 131
    · rw [if_pos h1, if_pos h1]
    · rw [if_neg h1, if_neg h1]
      by_cases h2 : j < 135
      · rw [if_pos h2, if_pos h2]
      · rw [if_neg h2, if_neg h2]
        by_cases h3 : j < 231
        · rw [if_pos h3, if_pos h3]
          simp only
          rw [if_neg (by omega)]
        · rw [if_neg h3, if_neg h3]
theorem plA_setRuns (T : Array Value) (s : Pl) (rn : Nat → Rn) : spl (PlA T s) 135 (runsA rn).toList = PlA T (s.setRuns rn) := by
  have hl : (runsA rn).toList.length = 96 := by rw [Array.length_toList]; exact arrF_size _ _
  refine arrF_spl (by rw [hl]; omega) fun j hj => ?_
  rw [hl]
  unfold plAt Pl.setRuns
  by_cases e : 135 ≤ j ∧ j < 135 + 96
  · rw [if_pos e, if_neg (by omega), if_neg (by omega), if_pos (by omega), Array.getElem?_toList]
    unfold runsA
    rw [arrF_get _ _ _ (by omega), Option.getD_some]
  · rw [if_neg e]
    by_cases h1 : j < 131
    · rw [if_pos h1, if_pos h1]
    · rw [if_neg h1, if_neg h1]
      by_cases h2 : j < 135
      · rw [if_pos h2, if_pos h2]
      · have h3 : ¬ j < 231 := by omega
        rw [if_neg h2, if_neg h2, if_neg h3, if_neg h3]
theorem plA_setCn (T : Array Value) (s : Pl) {k : Nat} (hk : k < 8) (v : Int) : (PlA T s).setIfInBounds (231 + k) (.int .i64 v) = PlA T (s.setCn k v) := by
  refine arrF_set (by omega) fun j hj => ?_
  unfold plAt Pl.setCn
  by_cases e : j = 231 + k
  · rw [if_pos e, if_neg (by omega), if_neg (by omega), if_neg (by omega), if_pos (by omega)]
    simp only
    rw [if_pos (by omega)]
  · rw [if_neg e]
    by_cases h1 : j < 131
    · rw [if_pos h1, if_pos h1]
    · rw [if_neg h1, if_neg h1]
      by_cases h2 : j < 135
      · rw [if_pos h2, if_pos h2]
      · rw [if_neg h2, if_neg h2]
        by_cases h3 : j < 231
        · rw [if_pos h3, if_pos h3]
        · rw [if_neg h3, if_neg h3]
          by_cases h4 : j < 239
          · rw [if_pos h4, if_pos h4]
            simp only
            rw [if_neg (by omega)]
          · rw [if_neg h4, if_neg h4]
theorem plA_noCn (T : Array Value) (s : Pl) : spl (PlA T s) 231 [.int .i64 0, .int .i64 0, .int .i64 0, .int .i64 0, .int .i64 0, .int .i64 0, .int .i64 0, .int .i64 0] = PlA T s.noCn := by
  refine arrF_spl (by simp) fun j hj => ?_
  simp only [List.length_cons, List.length_nil]
  unfold plAt Pl.noCn
  by_cases h1 : j < 131
  · rw [if_pos h1, if_neg (by omega), if_pos h1]
  · rw [if_neg h1, if_neg h1]
    by_cases h2 : j < 135
    · rw [if_pos h2, if_neg (by omega), if_pos h2]
    · rw [if_neg h2, if_neg h2]
      by_cases h3 : j < 231
      · rw [if_pos h3, if_neg (by omega), if_pos h3]
      · rw [if_neg h3, if_neg h3]
        by_cases h4 : j < 239
        · rw [if_pos h4, if_pos (by omega)]
          rcases (show j = 231 ∨ j = 232 ∨ j = 233 ∨ j = 234 ∨ j = 235 ∨ j = 236 ∨ j = 237 ∨ j = 238 by omega) with rfl | rfl | rfl | rfl | rfl | rfl | rfl | rfl <;> rfl
        · rw [if_neg h4, if_neg (by omega), if_neg h4]
theorem plA_setCr (T : Array Value) (s : Pl) (v : Int) : (PlA T s).setIfInBounds 239 (.int .i64 v) = PlA T (s.setCr v) := by
  refine arrF_set (by omega) fun j hj => ?_
  unfold plAt Pl.setCr
  by_cases e : j = 239
  · subst e; rfl
  · rw [if_neg e]
    by_cases h1 : j < 131
    · rw [if_pos h1, if_pos h1]
    · rw [if_neg h1, if_neg h1]
      by_cases h2 : j < 135
      · rw [if_pos h2, if_pos h2]
      · rw [if_neg h2, if_neg h2]
        by_cases h3 : j < 231
        · rw [if_pos h3, if_pos h3]
        · rw [if_neg h3, if_neg h3]
          rw [if_pos (by omega), if_pos (by omega)]
/-! ### A tick -/
def cueM (st en pr : Int) (p : Nat) : Cu := ⟨hasM st p, hasM en p, false, false, hasM pr p, false, false, false⟩
/-- The tick's phases below k are told. -/
def midP (t : Tab) (st en pr : Int) (s : Pl) (k : Nat) : Pl :=
  { s with rn := fun q => if q < k then stepM (t.ph q) (s.rn q) (cueM st en pr q) else s.rn q, cn := fun q => if q < k ∧ hasM st q = true then s.cn q + 1 else s.cn q }
def tickP (t : Tab) (want : Int) (s : Pl) : Pl :=
  ⟨rgN t s.rn want s.r, fun q => stepM (t.ph q) (s.rn q) (cueM (rgS t s.rn want s.r) (rgE t s.rn want s.r) (pressZ t s.rn s.r.g s.r.a0 s.r.a1 want) q),
    fun q => if hasM (rgS t s.rn want s.r) q = true then s.cn q + 1 else s.cn q, if (rgN t s.rn want s.r).x = true ∧ s.r.x = false then s.cr + 1 else s.cr⟩
theorem midP_zero (t : Tab) (st en pr : Int) (s : Pl) : midP t st en pr s 0 = s := by
  unfold midP; simp
/-- The play's cells are those of the first eight phases. -/
theorem plA_congr {T : Array Value} {s s' : Pl} (hr : s.r = s'.r) (hn : ∀ q, q < 8 → s.rn q = s'.rn q) (hc : ∀ q, q < 8 → s.cn q = s'.cn q) (hx : s.cr = s'.cr) : PlA T s = PlA T s' := by
  refine arrF_congr fun j hj => ?_
  unfold plAt
  rw [hr, hx]
  by_cases h1 : j < 131
  · rw [if_pos h1, if_pos h1]
  · rw [if_neg h1, if_neg h1]
    by_cases h2 : j < 135
    · rw [if_pos h2, if_pos h2]
    · rw [if_neg h2, if_neg h2]
      by_cases h3 : j < 231
      · rw [if_pos h3, if_pos h3, hn _ (by omega)]
      · rw [if_neg h3, if_neg h3]
        by_cases h4 : j < 239
        · rw [if_pos h4, if_pos h4, hc _ (by omega)]
        · rw [if_neg h4, if_neg h4]
theorem midP_run (t : Tab) (st en pr : Int) (s : Pl) {k : Nat} (hk : k < 8) : (midP t st en pr s k).rn k = s.rn k := by unfold midP; simp
theorem midP_cn (t : Tab) (st en pr : Int) (s : Pl) {k : Nat} (hk : k < 8) : (midP t st en pr s k).cn k = s.cn k := by unfold midP; simp
theorem midP_st (T : Array Value) (t : Tab) (st en pr : Int) (s : Pl) {k : Nat} (hk : k < 8) (h : hasM st k = true) : PlA T (((midP t st en pr s k).setCn k (s.cn k + 1)).setRun k (stepM (t.ph k) (s.rn k) (cueM st en pr k))) = PlA T (midP t st en pr s (k + 1)) := by
  refine plA_congr rfl (fun q hq => ?_) (fun q hq => ?_) rfl
  · unfold midP Pl.setRun Pl.setCn
    simp only
    by_cases e : q = k
    · subst e; simp
    · rw [if_neg e]
      by_cases h1 : q < k
      · rw [if_pos h1, if_pos (by omega)]
      · rw [if_neg h1, if_neg (by omega)]
  · unfold midP Pl.setRun Pl.setCn
    simp only
    by_cases e : q = k
    · subst e; rw [if_pos rfl, if_pos ⟨by omega, h⟩]
    · rw [if_neg e]
      by_cases h1 : q < k ∧ hasM st q = true
      · rw [if_pos h1, if_pos ⟨by omega, h1.2⟩]
      · rw [if_neg h1, if_neg (by rintro ⟨h2, h3⟩; exact h1 ⟨by omega, h3⟩)]
theorem midP_no (T : Array Value) (t : Tab) (st en pr : Int) (s : Pl) {k : Nat} (hk : k < 8) (h : hasM st k = false) : PlA T ((midP t st en pr s k).setRun k (stepM (t.ph k) (s.rn k) (cueM st en pr k))) = PlA T (midP t st en pr s (k + 1)) := by
  refine plA_congr rfl (fun q hq => ?_) (fun q hq => ?_) rfl
  · unfold midP Pl.setRun
    simp only
    by_cases e : q = k
    · subst e; simp
    · rw [if_neg e]
      by_cases h1 : q < k
      · rw [if_pos h1, if_pos (by omega)]
      · rw [if_neg h1, if_neg (by omega)]
  · unfold midP Pl.setRun
    simp only
    by_cases h1 : q < k ∧ hasM st q = true
    · rw [if_pos h1, if_pos ⟨by omega, h1.2⟩]
    · rw [if_neg h1, if_neg (by
        rintro ⟨h2, h3⟩
        by_cases e : q = k
        · subst e; rw [h] at h3; cases h3
        · exact h1 ⟨by omega, h3⟩)]
end
section
open Go.RowKit
set_option linter.unusedVariables false
attribute [local go_sem] IsBlk.cell IsBlk.frozen

class IsCv (C : Array Value) (k : outParam Cu) : Prop where
  out : .agg C = CuA k
instance instIsCv (a b c d e f g h : Bool) : IsCv #[.bool a, .bool b, .bool c, .bool d, .bool e, .bool f, .bool g, .bool h] ⟨a, b, c, d, e, f, g, h⟩ := ⟨rfl⟩
theorem load_cv {w : World} {b : Nat} {C : Array Value} {t : TypeId} {k : Cu} [h : IsBlk w b C t] [hr : IsCv C k] : Sem.run Try.prog (Instr.loadAt 107 (.pointer (some ⟨b, 0, none⟩))) w = .ok (CuA k) w := by
  have e := hr.out
  have hs : C.size = 8 := by unfold CuA at e; cases e; rfl
  have := run_loadAt_mid (P := Try.prog) w b 0 107 C.toList _ (blk_range h.out 0 _ fun j hj => by simp) Try.underlying107 rfl (by rw [Array.length_toList, hs]; kernel_rfl)
  rw [← e]
  simpa using this
theorem q_lcv {W : World} {K : Act → Prop} {op : Oper} {a : Act} {x : Operand} {b : Nat} {C : Array Value} {t : TypeId} {k : Cu} [hr : IsCv C k] (ho : op.op = .load 107 x) (hx : a.eval x = .pointer (some ⟨b, 0, none⟩)) [h : IsBlk W b C t]
    (hk : K (a.put op.dst (CuA k))) : op.quiet Try.prog a (fun w' => ∃ u : Up W, w' = u.w) K := quiet_load_at ho hx (fun u => load_cv) hk
theorem z_lcv {W : World} {Z : World → Prop} {K : Act → Prop} {op : Oper} {a : Act} {x : Operand} {b : Nat} {C : Array Value} {t : TypeId} {k : Cu} [hr : IsCv C k] (ho : op.op = .load 107 x) (hx : a.eval x = .pointer (some ⟨b, 0, none⟩)) [h : IsBlk W b C t]
    (hk : K (a.put op.dst (CuA k))) : op.quiet Try.prog a (fun w' => ∃ u : UpZ W Z, w' = u.up.w) K := quiet_load_z ho hx (fun u => load_cv) hk
theorem l_lcv {ops : Array Oper} {rest : List Oper} {op : Oper} {a : Act} {w : World} {Q : Exit → Act → World → Prop} {x : Operand} {b : Nat} {C : Array Value} {t : TypeId} {k : Cu} [hr : IsCv C k] (hgd : op.guard = none) (ho : op.op = .load 107 x) (hx : a.eval x = .pointer (some ⟨b, 0, none⟩)) [h : IsBlk w b C t]
    (hk : wpList Try.prog ops Q rest (a.put op.dst (CuA k)) w) : wpList Try.prog ops Q (op :: rest) a w := wpList_load_at hgd ho hx load_cv hk
theorem y_lcv {ops : Array Oper} {S : World → Prop} {op : Oper} {a : Act} {x : Operand} {b : Nat} {C : Array Value} {t : TypeId} {k : Cu} [hr : IsCv C k] (hw : Region.wanted op (yielded ops a.tmps) = true) (ho : op.op = .load 107 x) (hx : a.eval x = .pointer (some ⟨b, 0, none⟩)) (hS : ∀ w, S w → IsBlk w b C t) :
    YieldsIf Try.prog ops S op (CuA k) a := yieldsIf_load_at hw ho hx (fun w hs => by haveI := hS w hs; exact load_cv)
/-- While the phases are told. -/
structure TkSt (W wx : World) (b q : Nat) (T : Array Value) (s : Pl) (r' : Rg) : Prop where
  p : wx.heap[b]? = some (.cells (PlA T s) 57)
  q : wx.heap[q]? = some (.cells #[.int .i64 r'.g, .int .i64 r'.a0, .int .i64 r'.a1, .bool r'.x] 36)
  bel : Below b W wx
theorem TkSt.below {W wx w2 : World} {b q : Nat} {T : Array Value} {s : Pl} {r' : Rg} (h : TkSt W wx b q T s r') (hb : Below wx.heap.size wx w2) (hbl : b < wx.heap.size) : TkSt W w2 b q T s r' :=
  ⟨(hb.block _ (Array.getElem?_eq_some_iff.1 h.p).1).trans h.p, (hb.block _ (Array.getElem?_eq_some_iff.1 h.q).1).trans h.q, h.bel.trans (hb.mono (by omega))⟩
theorem TkSt.run {W wx : World} {b q : Nat} {T : Array Value} {s : Pl} {r' : Rg} (h : TkSt W wx b q T s r') (hbq : b < q) {k : Nat} (hk : k < 8) (r2 : Rn) : TkSt W (wx.setCells b (135 + k * 12) (RuA r2).toList) b q T (s.setRun k r2) r' :=
  ⟨by rw [← plA_setRun T s hk]; exact heap_sets_same _ h.p _, (heap_sets_other _ _ (by omega)).trans h.q, below_setCells _ _ h.bel (Nat.le_refl _)⟩
theorem TkSt.cn {W wx : World} {b q : Nat} {T : Array Value} {s : Pl} {r' : Rg} (h : TkSt W wx b q T s r') (hbq : b < q) {k : Nat} (hk : k < 8) (v : Int) : TkSt W (wx.setCell ⟨b, 231 + k, none⟩ (.int .i64 v)) b q T (s.setCn k v) r' :=
  ⟨by rw [← plA_setCn T s hk]; exact heap_set_same h.p _ _, (Below.heap_setCell _ _ _ _ (show q ≠ b by omega)).trans h.q, h.bel.setCell (p := ⟨b, 231 + k, none⟩) (Nat.le_refl _) _⟩
theorem TkSt.as {W wx : World} {b q : Nat} {T : Array Value} {s s' : Pl} {r' : Rg} (h : TkSt W wx b q T s r') (e : PlA T s = PlA T s') : TkSt W wx b q T s' r' := ⟨by rw [← e]; exact h.p, h.q, h.bel⟩
theorem TkSt.ring {W wx : World} {b q : Nat} {T : Array Value} {s : Pl} {r' : Rg} (h : TkSt W wx b q T s r') : (wx.setCells b 131 (rgA r').toList).heap[b]? = some (.cells (PlA T (s.setR r')) 57) ∧ Below b W (wx.setCells b 131 (rgA r').toList) :=
  ⟨by rw [← plA_setR T s]; exact heap_sets_same _ h.p _, below_setCells _ _ h.bel (Nat.le_refl _)⟩
theorem ruA_oneW (r : Rn) : (RuA r).all (·.oneCell') = true := ruA_one r
set_option maxHeartbeats 8000000 in
set_option maxRecDepth 100000 in
theorem tick_any (T : Array Value) (t : Tab) (b : Nat) (s : Pl) (want : Int) (W : World) (hb : W.heap[b]? = some (.cells (PlA T s) 57)) (hT : ∀ w', Below b W w' → IsTab w' T t) (hg : InKind .i64 s.r.g)
    (hph : ∀ k, PhIn (t.ph k)) (hcn : ∀ q, q < 8 → 0 ≤ s.cn q ∧ s.cn q ≤ 1000000) (hcr : 0 ≤ s.cr ∧ s.cr ≤ 1000000) :
    Calls Try.prog 20 #[.pointer (some ⟨b, 0, none⟩), .int .i64 want] W fun e w' => e = .returned (.tuple #[.int .i64 (rgS t s.rn want s.r), .int .i64 (rgE t s.rn want s.r)]) ∧ w'.heap[b]? = some (.cells (PlA T (tickP t want s)) 57) ∧ Below b W w' := by
  have hbl : b < W.heap.size := (Array.getElem?_eq_some_iff.1 hb).1
  have hT0 : IsTab W T t := hT W (Below.refl _ _)
  haveI : Sz131 T := ⟨hT0.size⟩
  haveI iP : IsBlk W b (PlA T s) 57 := ⟨hb⟩
  haveI : LeSize (b + 1) W := ⟨hbl⟩
  have HPR : Hid (∀ w', Below W.heap.size W w' → Calls Try.prog 49 #[.agg T, .agg (rgA s.r), .agg (runsA s.rn), .int .i64 want] w' fun e w'' => e = .returned (.int .i64 (pressZ t s.rn s.r.g s.r.a0 s.r.a1 want)) ∧ Below w'.heap.size w' w'') := Lib.hid fun w' hb' =>
    ring_pressed T t (runsA s.rn) s.rn s.r.g s.r.a0 s.r.a1 s.r.x want w' (hT w' (hb'.mono (by omega))) (runsA_runs _)
  have HSP : Hid (∀ w', Below W.heap.size W w' → Calls Try.prog 12 #[.agg T, .agg (rgA s.r), .agg (runsA s.rn), .int .i64 want] w' fun e w'' => e = .returned (.tuple #[.agg #[.int .i64 (rgN t s.rn want s.r).g, .int .i64 (rgN t s.rn want s.r).a0, .int .i64 (rgN t s.rn want s.r).a1, .bool (rgN t s.rn want s.r).x], .int .i64 (rgS t s.rn want s.r), .int .i64 (rgE t s.rn want s.r)]) ∧ Below w'.heap.size w' w'') := Lib.hid fun w' hb' =>
    ring_step T t (runsA s.rn) s.rn s.r want w' hg (hT w' (hb'.mono (by omega))) (runsA_runs _)
  have HTP : Hid (tickP t want s = ⟨rgN t s.rn want s.r, fun q => stepM (t.ph q) (s.rn q) (cueM (rgS t s.rn want s.r) (rgE t s.rn want s.r) (pressZ t s.rn s.r.g s.r.a0 s.r.a1 want) q),
    fun q => if hasM (rgS t s.rn want s.r) q = true then s.cn q + 1 else s.cn q, if (rgN t s.rn want s.r).x = true ∧ s.r.x = false then s.cr + 1 else s.cr⟩) := Lib.hid rfl
  generalize rgN t s.rn want s.r = r' at *
  generalize rgS t s.rn want s.r = st at *
  generalize rgE t s.rn want s.r = en at *
  generalize pressZ t s.rn s.r.g s.r.a0 s.r.a1 want = pr at *
  generalize tickP t want s = F at *
  have HH : Hid (∀ x : Int, ∀ p : Int, ∀ w', Calls Try.prog 14 #[.int .i64 x, .int .i64 p] w' fun e w'' => e = .returned (.bool (hasM x p)) ∧ w' = w'') := Lib.hid fun x p w' => rhas_any x p w'
  have HX0 := plA_x T s
  have HCR := plA_cr T s
  have HG := Lib.hid hg
  have HTT := Lib.hid hT
  have HPH := Lib.hid hph
  have HCN := Lib.hid hcn
  clear hb hT hT0 hg hph hcn
  go_enter Try.func20, Try.ntmps20
  go_upto_region 1 with fail
  (refine wp_region_up (by kernel_rfl) (by kernel_rfl) ?_; (repeat (first | (go_big_quiet_want; refine q_lpT rfl rfl ?_; simp only [Act.put, List.setIfInBounds_toArray, List.set_cons_succ, List.set_cons_zero]; go_big_quiet_on) | (go_big_quiet_want; refine q_lpR rfl rfl ?_; simp only [Act.put, List.setIfInBounds_toArray, List.set_cons_succ, List.set_cons_zero]; go_big_quiet_on) | (go_big_quiet_want; refine q_lpU rfl rfl ?_; simp only [Act.put, List.setIfInBounds_toArray, List.set_cons_succ, List.set_cons_zero]; go_big_quiet_on) | go_big_quiet_step ((first | (go_at_call 49; (with_reducible refine Up.calls (HPR.out _ ?_)); (repeat' (first | (with_reducible exact Below.refl _ _) | (with_reducible assumption) | (with_reducible refine Below.setCell ?_ ?_ _) | (with_reducible refine Below.alloc ?_ ?_ _) | (with_reducible refine Below.drew ?_) | (with_reducible refine Up.base _ ?_ ?_) | (with_reducible exact LeSize.out) | exact LeSize.out | exact Nat.le_add_right_of_le LeSize.out | exact Nat.le_add_right_of_le (Nat.le_add_right_of_le LeSize.out) | (with_reducible exact Nat.le_refl _) | (simp; done) | (simp; omega)))) | fail)))); refine wpQuiet_nil ?_; rintro _ ⟨u, rfl⟩)
  have hb1 : Below W.heap.size W u.w := u.bel
  have hs1 := hb1.size
  have HSQ : Hid (∀ w', Below u.w.heap.size u.w w' → Calls Try.prog 12 #[.agg T, .agg (rgA s.r), .agg (runsA s.rn), .int .i64 want] w' fun e w'' => e = .returned (.tuple #[.agg #[.int .i64 r'.g, .int .i64 r'.a0, .int .i64 r'.a1, .bool r'.x], .int .i64 st, .int .i64 en]) ∧ Below w'.heap.size w' w'') := Lib.hid fun w' hb => HSP.out w' (hb1.trans (hb.mono hs1))
  haveI iP1 : IsBlk u.w b (PlA T s) 57 := inferInstance
  clear HSP HPR iP
  generalize u.w = W1 at *
  haveI : LeSize (b + 1) W1 := ⟨by omega⟩
  go_upto_region 2 with fail
  (refine wp_region_up_alloc_e [(16, 19), (17, 19)] 19 18 (by kernel_rfl) (by kernel_rfl) (by kernel_rfl) rfl rfl (fun A w => by simp only [go_sem]; rfl) ?_; intro X; (repeat (first | simp only [addL] | simp only [addAt] | simp only [List.push_toArray] | simp only [List.append_toArray] | simp only [List.nil_append] | simp only [List.cons_append] | simp only [List.take_succ_cons] | simp only [List.take_zero] | simp only [List.drop_succ_cons] | simp only [List.drop_zero] | simp only [List.eraseIdx_cons_succ] | simp only [List.eraseIdx_cons_zero])); (repeat (first | (go_big_quiet_want; refine q_lpT rfl rfl ?_; simp only [Act.put, List.setIfInBounds_toArray, List.set_cons_succ, List.set_cons_zero]; go_big_quiet_on) | (go_big_quiet_want; refine q_lpR rfl rfl ?_; simp only [Act.put, List.setIfInBounds_toArray, List.set_cons_succ, List.set_cons_zero]; go_big_quiet_on) | (go_big_quiet_want; refine q_lpU rfl rfl ?_; simp only [Act.put, List.setIfInBounds_toArray, List.set_cons_succ, List.set_cons_zero]; go_big_quiet_on) | go_big_quiet_step ((first | (go_at_call 12; (with_reducible refine Up.calls (HSQ.out _ ?_)); (repeat' (first | (with_reducible exact Below.refl _ _) | (with_reducible assumption) | (with_reducible refine Below.setCell ?_ ?_ _) | (with_reducible refine Below.alloc ?_ ?_ _) | (with_reducible refine Below.drew ?_) | (with_reducible refine Up.base _ ?_ ?_) | (with_reducible exact LeSize.out) | exact LeSize.out | exact Nat.le_add_right_of_le LeSize.out | exact Nat.le_add_right_of_le (Nat.le_add_right_of_le LeSize.out) | (with_reducible exact Nat.le_refl _) | (simp; done) | (simp; omega)))) | fail)))); refine wpQuiet_nil ?_; clear X; rintro q u hq hO; (try simp at hq); have lO := laid_le hO; have hOB : IsBlk u.w q _ _ := ⟨hO⟩; clear hO; go_simp)
  go_wp2
  refine NoPanic.normal ?_
  have hb2 : Below W1.heap.size W1 u.w := u.bel
  have hs2 := hb2.size
  have hlq := lO.out
  haveI : Apart b q := ⟨by omega⟩
  haveI : Apart q b := ⟨by omega⟩
  obtain ⟨X, hX⟩ : ∃ X, ((((u.w.setCell ⟨q, 0, none⟩ (.int .i64 r'.g)).setCell ⟨q, 1, none⟩ (.int .i64 r'.a0)).setCell ⟨q, 2, none⟩ (.int .i64 r'.a1)).setCell ⟨q, 3, none⟩ (.bool r'.x)) = X := ⟨_, rfl⟩
  have jP : IsBlk X b (PlA T s) 57 := by rw [← hX]; infer_instance
  have jQ : X.heap[q]? = some (.cells #[.int .i64 r'.g, .int .i64 r'.a0, .int .i64 r'.a1, .bool r'.x] 36) := by rw [← hX]; exact IsBlk.out
  have hbX : Below b W X := by
    rw [← hX]
    exact (((((hb1.mono (by omega)).trans (hb2.mono (by omega))).setCell (p := ⟨q, 0, none⟩) (show b ≤ q by omega) _).setCell (p := ⟨q, 1, none⟩) (show b ≤ q by omega) _).setCell (p := ⟨q, 2, none⟩) (show b ≤ q by omega) _).setCell (p := ⟨q, 3, none⟩) (show b ≤ q by omega) _
  rw [hX]
  have hbq : b < q := by omega
  have HTK : Hid (TkSt W X b q T s r') := Lib.hid ⟨jP.out, jQ, hbX⟩
  clear hX hOB lO hb1 hb2 hs1 hs2 iP1 hq hlq HSQ hbX
  haveI jQi : IsBlk X q #[.int .i64 r'.g, .int .i64 r'.a0, .int .i64 r'.a1, .bool r'.x] 36 := ⟨jQ⟩
  clear jQ
  have HCRB := Lib.hid hcr
  clear hcr
  go_upto_region 3 with fail
  go_cut [53] (fun s53 wx => s53 = .bool (r'.x && !s.r.x) ∧ wx = X)
  case first =>
    obtain ⟨xa, hxa⟩ : ∃ x, r'.x = x := ⟨_, rfl⟩
    obtain ⟨xb, hxb⟩ : ∃ x, s.r.x = x := ⟨_, rfl⟩
    rw [hxa] at jQi
    rw [hxb] at HX0
    have HXA := Lib.hid hxa
    have HXB := Lib.hid hxb
    clear hxa hxb
    cases xa <;> cases xb
    all_goals
      go_wp2
      go_meet
      exact ⟨by rw [HXA.out, HXB.out]; rfl, rfl⟩
  case rest =>
    obtain ⟨rfl, rfl⟩ := hcut
    obtain ⟨cr', hcr'⟩ : ∃ c, (if (r'.x && !s.r.x) = true then s.cr + 1 else s.cr) = c := ⟨_, rfl⟩
    have HCR' := Lib.hid hcr'
    clear hcr'
    go_upto_if 53 with fail
    go_cut [] (fun wx => TkSt W wx b q T (s.setCr cr') r')
    case first =>
      cases hc : (r'.x && !s.r.x)
      · have he : cr' = s.cr := by rw [← HCR'.out, hc]; rfl
        have HE := Lib.hid he
        clear he
        go_wp2
        go_meet
        rw [HE.out]
        exact HTK.out
      · have he : cr' = s.cr + 1 := by rw [← HCR'.out, hc]; rfl
        have HE := Lib.hid he
        clear he
        have hcb := HCRB.out
        generalize hcz : s.cr = cz at *
        have HCZ := Lib.hid hcz
        clear hcz
        go_wp2
        go_meet
        refine ⟨?_, (Below.heap_setCell _ _ _ _ (show q ≠ b by omega)).trans HTK.out.q, HTK.out.bel.setCell (p := ⟨b, 239, none⟩) (Nat.le_refl _) _⟩
        rw [HE.out, ← plA_setCr]
        exact heap_set_same HTK.out.p _ _
    case rest =>
      have HT1 := Lib.hid hcut
      clear hcut HTK HCRB HX0 HCR jP jQi
      go_wp2
      go_loopw [10] (fun i wr => ∃ k : Nat, k ≤ 8 ∧ i = .int .i64 k ∧ Hid (TkSt W wr b q T (midP t st en pr (s.setCr cr') k) r')) (fun i _ => 8 - (intOf i).toNat)
      case atStart => exact ⟨0, by omega, rfl, by rw [midP_zero]; exact HT1⟩
      case round =>
        obtain ⟨k, hk, rfl, HM⟩ := hrel
        haveI iP : IsBlk wr b (PlA T (midP t st en pr (s.setCr cr') k)) 57 := ⟨HM.out.p⟩
        have hql : q < wr.heap.size := (Array.getElem?_eq_some_iff.1 HM.out.q).1
        haveI : LeSize (b + 1) wr := ⟨by omega⟩
        by_cases hlt : k < 8
        · have hkI : (k : Int) < 8 := by omega
          have HX := Lib.hid (plA_cn T (midP t st en pr (s.setCr cr') k) hlt)
          have HCK : Hid ((midP t st en pr (s.setCr cr') k).cn k = s.cn k) := Lib.hid (midP_cn t st en pr (s.setCr cr') hlt)
          have HRK : Hid ((midP t st en pr (s.setCr cr') k).rn k = s.rn k) := Lib.hid (midP_run t st en pr (s.setCr cr') hlt)
          have HPX : Hid (∀ s' : Pl, IsPx (PlA T s') (k * 13) (t.ph k)) := Lib.hid fun s' => isPx_pl (HTT.out _ (Below.refl _ _)) s' hlt
          have HRX : Hid (∀ s' : Pl, IsRu (PlA T s') (135 + k * 12) (s'.rn k)) := Lib.hid fun s' => isRu_pl T s' hlt
          have hcb := HCN.out k hlt
          have HSTP : Hid (∀ w', Calls Try.prog 50 #[PqV (t.ph k), .agg (RuA (s.rn k)), CuA (cueM st en pr k)] w' fun e w'' => e = .returned (.agg (RuA (stepM (t.ph k) (s.rn k) (cueM st en pr k)))) ∧ Below w'.heap.size w' w'') := Lib.hid fun w' => by
            have hp := HPH.out k
            exact rstep_any (t.ph k) (s.rn k) (cueM st en pr k) w' (by have := hp.max; omega) (by have := hp.top; have := hp.max; omega) (by have := hp.step; omega)
          have HYS : Hid (hasM st k = true → PlA T (((midP t st en pr (s.setCr cr') k).setCn k (s.cn k + 1)).setRun k (stepM (t.ph k) (s.rn k) (cueM st en pr k))) = PlA T (midP t st en pr (s.setCr cr') (k + 1))) := Lib.hid fun h => midP_st T t st en pr (s.setCr cr') hlt h
          have HNO : Hid (hasM st k = false → PlA T ((midP t st en pr (s.setCr cr') k).setRun k (stepM (t.ph k) (s.rn k) (cueM st en pr k))) = PlA T (midP t st en pr (s.setCr cr') (k + 1))) := Lib.hid fun h => midP_no T t st en pr (s.setCr cr') hlt h
          have hcue : cueM st en pr k = ⟨hasM st k, hasM en k, false, false, hasM pr k, false, false, false⟩ := rfl
          generalize stepM (t.ph k) (s.rn k) (cueM st en pr k) = r2 at *
          generalize hM1 : midP t st en pr (s.setCr cr') (k + 1) = M1 at *
          have HM1 := Lib.hid hM1
          clear hM1
          generalize midP t st en pr (s.setCr cr') k = M0 at *
          generalize t.ph k = ph at *
          generalize s.rn k = rk at *
          generalize s.cn k = ck at *
          rw [hcue] at HSTP
          clear hcue
          have HH1 := Lib.hid (HH.out st k)
          have HH2 := Lib.hid (HH.out en k)
          have HH3 := Lib.hid (HH.out pr k)
          generalize hasM en k = b2 at *
          generalize hasM pr k = b3 at *
          cases hst : hasM st k
          · have HEND := Lib.hid (HNO.out hst)
            rw [hst] at HH1 HSTP
            clear HNO HYS hst HX hcb
            have HRS := HSTP
            go_upto_region 11 with (go_at_call 14; first | (with_reducible refine (HH1.out _).mono ?_; rintro e w' ⟨rfl, rfl⟩) | (with_reducible refine (HH2.out _).mono ?_; rintro e w' ⟨rfl, rfl⟩) | (with_reducible refine (HH3.out _).mono ?_; rintro e w' ⟨rfl, rfl⟩))
            haveI := HPX.out M0
            have hru := HRX.out M0
            rw [HRK.out] at hru
            haveI := hru
            (refine wp_region_up_tail 20 (by kernel_rfl) (by kernel_rfl) ?_; simp only [List.take_succ_cons, List.take_zero, List.drop_succ_cons, List.drop_zero]; (repeat (first | (go_big_quiet_want; refine q_lpx rfl rfl ?_; simp only [Act.put, List.setIfInBounds_toArray, List.set_cons_succ, List.set_cons_zero]; go_big_quiet_on) | (go_big_quiet_want; refine q_lru rfl rfl ?_; simp only [Act.put, List.setIfInBounds_toArray, List.set_cons_succ, List.set_cons_zero]; go_big_quiet_on) | (go_big_quiet_want; refine q_lcv rfl rfl ?_; simp only [Act.put, List.setIfInBounds_toArray, List.set_cons_succ, List.set_cons_zero]; go_big_quiet_on) | go_big_quiet_step ((first | (go_at_call 50; exact Up.calls (HRS.out _)) | fail)))); refine wpQuiet_nil ?_; rintro _ ⟨u, rfl⟩)
            have hbu : Below wr.heap.size wr u.w := by (repeat' (first | (with_reducible exact Below.refl _ _) | (with_reducible assumption) | (with_reducible refine Below.setCell ?_ ?_ _) | (with_reducible refine Below.alloc ?_ ?_ _) | (with_reducible refine Below.drew ?_) | (with_reducible refine Up.base _ ?_ ?_) | (with_reducible exact LeSize.out) | exact LeSize.out | exact Nat.le_add_right_of_le LeSize.out | exact Nat.le_add_right_of_le (Nat.le_add_right_of_le LeSize.out) | (with_reducible exact Nat.le_refl _) | (simp; done) | (simp; omega)))
            have HT2 := Lib.hid (((HM.out.below hbu (by omega)).run hbq hlt r2).as HEND.out)
            haveI iP2 : IsBlk u.w b (PlA T M0) 57 := inferInstance
            clear HEND hbu iP
            generalize u.w = Y at *
            go_wp2_with (refine wpList_store_part 45 rfl rfl rfl rfl (by rw [plA_size]; show 135 + k * 12 + 12 ≤ 240; omega) info_run12 (ruA_one r2) ?_; go_simp)
            go_roundw
            case rel => exact ⟨k + 1, by omega, by go_num, by rw [HM1.out]; exact HT2⟩
            case measure => simp [intOf]; omega
          · have HEND := Lib.hid (HYS.out hst)
            rw [hst] at HH1 HSTP
            rw [HCK.out] at HX
            have hx := HX.out
            clear HNO HYS hst HX
            have HRS := HSTP
            go_upto_region 10 with (go_at_call 14; first | (with_reducible refine (HH1.out _).mono ?_; rintro e w' ⟨rfl, rfl⟩) | (with_reducible refine (HH2.out _).mono ?_; rintro e w' ⟨rfl, rfl⟩) | (with_reducible refine (HH3.out _).mono ?_; rintro e w' ⟨rfl, rfl⟩))
            (refine wp_region_up_tail 10 (by kernel_rfl) (by kernel_rfl) ?_; simp only [List.take_succ_cons, List.take_zero, List.drop_succ_cons, List.drop_zero]; (repeat (first | go_big_quiet_step ((first | fail)))); refine wpQuiet_nil ?_; rintro _ ⟨u, rfl⟩)
            go_upto_region 11 with fail
            have hbu : Below wr.heap.size wr u.w := by (repeat' (first | (with_reducible exact Below.refl _ _) | (with_reducible assumption) | (with_reducible refine Below.setCell ?_ ?_ _) | (with_reducible refine Below.alloc ?_ ?_ _) | (with_reducible refine Below.drew ?_) | (with_reducible refine Up.base _ ?_ ?_) | (with_reducible exact LeSize.out) | exact LeSize.out | exact Nat.le_add_right_of_le LeSize.out | exact Nat.le_add_right_of_le (Nat.le_add_right_of_le LeSize.out) | (with_reducible exact Nat.le_refl _) | (simp; done) | (simp; omega)))
            have HT2 := Lib.hid ((HM.out.below hbu (by omega)).cn hbq hlt (ck + 1))
            have iC : IsBlk (u.w.setCell ⟨b, 231 + k, none⟩ (.int .i64 (ck + 1))) wr.heap.size #[.bool true, .bool b2, .bool false, .bool false, .bool b3, .bool false, .bool false, .bool false] 107 := by
              haveI : Apart wr.heap.size b := ⟨by omega⟩
              infer_instance
            have iP2 : IsBlk (u.w.setCell ⟨b, 231 + k, none⟩ (.int .i64 (ck + 1))) b (PlA T (M0.setCn k (ck + 1))) 57 := ⟨HT2.out.p⟩
            have hru := HRX.out (M0.setCn k (ck + 1))
            rw [show (M0.setCn k (ck + 1)).rn k = rk from HRK.out] at hru
            haveI := HPX.out (M0.setCn k (ck + 1))
            haveI := hru
            have hbl2 : b < (u.w.setCell ⟨b, 231 + k, none⟩ (.int .i64 (ck + 1))).heap.size := (Array.getElem?_eq_some_iff.1 HT2.out.p).1
            clear hbu iP hx HM
            generalize M0.setCn k (ck + 1) = M2 at *
            generalize (u.w.setCell ⟨b, 231 + k, none⟩ (.int .i64 (ck + 1))) = Y at *
            haveI : LeSize (b + 1) Y := ⟨hbl2⟩
            (refine wp_region_up_tail 20 (by kernel_rfl) (by kernel_rfl) ?_; simp only [List.take_succ_cons, List.take_zero, List.drop_succ_cons, List.drop_zero]; (repeat (first | (go_big_quiet_want; refine q_lpx rfl rfl ?_; simp only [Act.put, List.setIfInBounds_toArray, List.set_cons_succ, List.set_cons_zero]; go_big_quiet_on) | (go_big_quiet_want; refine q_lru rfl rfl ?_; simp only [Act.put, List.setIfInBounds_toArray, List.set_cons_succ, List.set_cons_zero]; go_big_quiet_on) | (go_big_quiet_want; refine q_lcv rfl rfl ?_; simp only [Act.put, List.setIfInBounds_toArray, List.set_cons_succ, List.set_cons_zero]; go_big_quiet_on) | go_big_quiet_step ((first | (go_at_call 50; exact Up.calls (HRS.out _)) | fail)))); refine wpQuiet_nil ?_; rintro _ ⟨u, rfl⟩)
            have hbu : Below Y.heap.size Y u.w := by (repeat' (first | (with_reducible exact Below.refl _ _) | (with_reducible assumption) | (with_reducible refine Below.setCell ?_ ?_ _) | (with_reducible refine Below.alloc ?_ ?_ _) | (with_reducible refine Below.drew ?_) | (with_reducible refine Up.base _ ?_ ?_) | (with_reducible exact LeSize.out) | exact LeSize.out | exact Nat.le_add_right_of_le LeSize.out | exact Nat.le_add_right_of_le (Nat.le_add_right_of_le LeSize.out) | (with_reducible exact Nat.le_refl _) | (simp; done) | (simp; omega)))
            have HT3 := Lib.hid (((HT2.out.below hbu (by omega)).run hbq hlt r2).as HEND.out)
            haveI iP3 : IsBlk u.w b (PlA T M2) 57 := inferInstance
            clear HEND hbu iP2 HT2
            generalize u.w = Z at *
            go_wp2_with (refine wpList_store_part 45 rfl rfl rfl rfl (by rw [plA_size]; show 135 + k * 12 + 12 ≤ 240; omega) info_run12 (ruA_one r2) ?_; go_simp)
            go_roundw
            case rel => exact ⟨k + 1, by omega, by go_num, by rw [HM1.out]; exact HT3⟩
            case measure => simp [intOf]; omega
        · obtain rfl : k = 8 := by omega
          have hfin : PlA T ((midP t st en pr (s.setCr cr') 8).setR r') = PlA T F := by
            rw [HTP.out]
            refine plA_congr rfl (fun q hq => ?_) (fun q hq => ?_) ?_
            · show (if q < 8 then _ else _) = _
              rw [if_pos hq]; rfl
            · show (if q < 8 ∧ hasM st q = true then s.cn q + 1 else s.cn q) = if hasM st q = true then s.cn q + 1 else s.cn q
              by_cases h : hasM st q = true
              · rw [if_pos ⟨hq, h⟩, if_pos h]
              · rw [if_neg (fun hh => h hh.2), if_neg h]
            · show cr' = if r'.x = true ∧ s.r.x = false then s.cr + 1 else s.cr
              rw [← HCR'.out]
              cases r'.x <;> cases s.r.x <;> simp
          have HF := Lib.hid hfin
          have HE := Lib.hid HM.out.ring
          clear hfin
          haveI jQ2 : IsBlk wr q #[.int .i64 r'.g, .int .i64 r'.a0, .int .i64 r'.a1, .bool r'.x] 36 := ⟨HM.out.q⟩
          clear HM
          generalize midP t st en pr (s.setCr cr') 8 = M8 at *
          go_wp2_with (refine wpList_store_part (cs := rgA r') 36 rfl rfl rfl rfl (by rw [plA_size]; show 131 + 4 ≤ 240; omega) info_rings (by simp [rgA, Value.oneCell']) ?_; go_simp)
          go_returns
          exact ⟨rfl, by rw [← HF.out]; exact HE.out.1, HE.out.2⟩
end
section
open Go.RowKit
set_option linter.unusedVariables false
theorem rds_mem (rn : Nat → Rn) (q : Nat) (h : redM (rn q) = true) : ∀ n, n ≤ 8 → q < n → hasM (rdsN rn n) q = true
  | 0, _, hq => by omega
  | n + 1, hn, hq => by
    rw [rdsN_s rn n rfl]
    by_cases he : q = n
    · subst he
      rw [h, if_pos rfl, hasM_with]
      have : decide ((0 : Int) ≤ q ∧ (q : Int) < 8) = true := decide_eq_true (by omega)
      simp
      exact .inr (by omega)
    · have ih := rds_mem rn q h n (by omega) (by omega)
      split
      · rw [hasM_with, ih]; rfl
      · exact ih
theorem may_facts {t : Tab} {rn : Nat → Rn} {p : Nat} (h : mayM t rn p = true) : ((rn p).c == 1) = false ∧ ((rn p).c == 2) = false ∧ ((rn p).c == 3) = false ∧ decide ((rn p).t < t.rev) = false ∧ ∀ q : Nat, q < 8 → hasM (t.cf p) q = true → redM (rn q) = true := by
  unfold mayM at h
  simp only [Bool.and_eq_true, Bool.not_eq_true', List.all_eq_true] at h
  obtain ⟨⟨h1, h2⟩, h3⟩ := h
  unfold redM at h1
  simp only [Bool.and_eq_true, Bool.not_eq_true'] at h1
  refine ⟨h1.1.1, h1.1.2, h1.2, h2, fun q hq hh => ?_⟩
  exact h3 ⟨q, hq⟩ ((setF_mem (t.cf p) ⟨q, hq⟩ 8 (Nat.le_refl _)).2 ⟨hq, hh⟩)
end
section
open Go.RowKit
set_option linter.unusedVariables false

theorem beside_sym (gr : List (List Int × List Int)) (p q : Int) : besideM gr p q = besideM gr q p := by
  unfold besideM
  cases whereM gr p <;> cases whereM gr q <;> try rfl
  rw [Bool.eq_iff_iff]
  simp only [Bool.and_eq_true, beq_iff_eq, bne_iff_ne, ne_eq]
  constructor
  · rintro ⟨h1, h2⟩; exact ⟨h1.symm, fun e => h2 e.symm⟩
  · rintro ⟨h1, h2⟩; exact ⟨h1.symm, fun e => h2 e.symm⟩
/-- Phases that conflict do not stand beside each other. -/
def NbC (gr : List (List Int × List Int)) (cf : Nat → Int) : Prop := ∀ a b : Nat, a < 8 → b < 8 → hasM (cf a) b = true → besideM gr a b = false
theorem nbC_S {gr : List (List Int × List Int)} {zs : List Int} {p q : Nat} {cf : Nat → Int} (h : NbC gr cf) (hpq : q < p) (hp : p < 8) : NbC gr (cfS gr zs p q cf) := by
  unfold cfS
  split
  · rename_i hc
    unfold cfC at hc
    simp only [Bool.and_eq_true, Bool.not_eq_true'] at hc
    intro a b ha hb hh
    have hb' : (0 : Int) ≤ b ∧ (b : Int) < 8 := by omega
    unfold fset at hh
    by_cases h1 : a = q
    · subst h1
      have hne : a ≠ p := by omega
      rw [if_pos rfl, if_neg hne, hasM_with] at hh
      simp only [Bool.or_eq_true, Bool.and_eq_true, decide_eq_true_eq] at hh
      rcases hh with hh | ⟨_, e⟩
      · exact h a b ha hb hh
      · rw [beside_sym, ← e]; exact hc.1
    · rw [if_neg h1] at hh
      by_cases h2 : a = p
      · subst h2
        rw [if_pos rfl, hasM_with] at hh
        simp only [Bool.or_eq_true, Bool.and_eq_true, decide_eq_true_eq] at hh
        rcases hh with hh | ⟨_, e⟩
        · exact h a b ha hb hh
        · rw [← e]; exact hc.1
      · rw [if_neg h2] at hh
        exact h a b ha hb hh
  · exact h
theorem nbC_Q {gr : List (List Int × List Int)} {zs : List Int} {p : Nat} {cf : Nat → Int} (h : NbC gr cf) (hp : p < 8) : ∀ q, q ≤ p → NbC gr (cfQ gr zs p cf q)
  | 0, _ => h
  | q + 1, hq => nbC_S (nbC_Q h hp q (by omega)) (by omega) hp
theorem nbC_P {gr : List (List Int × List Int)} {zs : List Int} : ∀ n, n ≤ 8 → NbC gr (cfP gr zs n)
  | 0, _ => fun a b _ _ hh => by rw [show cfP gr zs 0 a = 0 from rfl, hasM_zero] at hh; cases hh
  | n + 1, h => nbC_Q (nbC_P n (by omega)) (by omega) n (Nat.le_refl _)
theorem tab_nbc (zs : List Int) : NbC (tabM zs).gr (tabM zs).cf := nbC_P (rowsM zs).1 (rowsM_bd zs).2.1
/-- A phase is other than red only if it was, or begins. -/
theorem step_red (p : Phs) (r : Rn) (k : Cu) (h : redM (stepM p r k) = false) : redM r = false ∨ k.st = true := by
  unfold stepM at h
  by_cases c1 : r.c = 1
  · left; unfold redM; simp [c1]
  · by_cases c2 : r.c = 2
    · left; unfold redM; simp [c2]
    · by_cases c3 : r.c = 3
      · left; unfold redM; simp [c3]
      · right
        rw [if_neg c1, if_neg c2, if_neg c3] at h
        unfold redgM at h
        by_cases e : k.st = true
        · exact e
        · rw [if_neg e] at h
          unfold redM asM at h
          simp at h
theorem folN_in {f : Int → Bool} {n G : Int} (hn : 0 < n) : ∀ k, folN f n G k = -1 ∨ (0 ≤ folN f n G k ∧ folN f n G k < n)
  | 0 => .inl rfl
  | k + 1 => by
    unfold folN
    split
    · exact .inr ⟨Int.emod_nonneg _ (by omega), Int.emod_lt_of_pos _ hn⟩
    · exact folN_in hn k
theorem folG_in {t : Tab} {n : Nat} (hn : n < t.gr.length) (want : Int) : ∃ m : Nat, folG t n want = m ∧ m < t.gr.length := by
  unfold folG
  split
  · rename_i h
    rcases folN_in (f := wanZ t.gr want) (n := (t.gr.length : Int)) (G := grpZ t.gr.length n) (by omega) (t.gr.length : Int).toNat with h1 | h1
    · unfold folZ at h; omega
    · unfold folZ at h ⊢
      exact ⟨(folN (wanZ t.gr want) t.gr.length (grpZ t.gr.length n) (t.gr.length : Int).toNat).toNat, by omega, by omega⟩
  · exact ⟨n, rfl, hn⟩
theorem nextZ_gt {r : List Int} {want a : Int} (h : 0 ≤ nextZ r want a) : a < nextZ r want a := by
  have key : ∀ n : Nat, 0 ≤ nextN r want a n → a < nextN r want a n := by
    intro n
    induction n with
    | zero => intro h; simp [nextN] at h
    | succ n ih =>
      intro h
      unfold nextN at h ⊢
      by_cases hc : nextN r want a n = -1 ∧ a < n ∧ hasM want (r.getD n 0) = true
      · rw [if_pos hc]; exact hc.2.1
      · rw [if_neg hc] at h ⊢; exact ih h
  exact key _ h
theorem stepC_a (t : Tab) (rn : Nat → Rn) (g want k : Int) (o : On1) (a st en : Int) : (stepC t rn g want k o a st en).2.2 = if bgP t rn g k o = true then o.nx else a := by
  unfold stepC bgP
  cases o.bu
  · by_cases h : 0 ≤ o.nx
    · cases hm : mayM t rn (atZ t.gr g k o.nx).toNat <;> simp [h]
    · simp [h]
  · simp
theorem rowZ_nat {gr : List (List Int × List Int)} {n k : Nat} (hn : n < gr.length) (hk : k < 2) : rowZ gr n k = rowOf gr n k := by
  unfold rowZ
  rw [if_pos (by omega), Int.toNat_natCast, Int.toNat_natCast]
/-- Who begins in a ring. -/
theorem bg_facts {zs : List Int} {rn : Nat → Rn} {n k : Nat} {want a : Int} (hn : n < (tabM zs).gr.length) (hk : k < 2) (h : bgP (tabM zs) rn n k (ringO (tabM zs) rn n want k a) = true) :
    ∃ i p : Nat, (ringO (tabM zs) rn n want k a).nx = i ∧ a < i ∧ atZ (tabM zs).gr n k (ringO (tabM zs) rn n want k a).nx = p ∧ p < 8 ∧ (⟨n, k, i, (p : Int)⟩ : Spot) ∈ spotsM (tabM zs).gr ∧ mayM (tabM zs) rn p = true := by
  unfold bgP at h
  simp only [Bool.and_eq_true, decide_eq_true_eq, Bool.not_eq_true'] at h
  obtain ⟨_, h1, h2⟩ := h
  have h1' : 0 ≤ nextZ (rowZ (tabM zs).gr n k) want a := h1
  obtain ⟨q1, q2, q3⟩ := atZ_next (t := tabM zs) h1'
  have hgt := nextZ_gt h1'
  obtain ⟨i, hi, he, ho⟩ := atZ_pos hn hk h1'
  obtain ⟨j, hj, hjl, _⟩ := nextZ_in h1'
  refine ⟨j, (atZ (tabM zs).gr n k (nextZ (rowZ (tabM zs).gr n k) want a)).toNat, hj, by rw [hj] at hgt; exact hgt, ?_, by omega, ?_, h2⟩
  · show atZ (tabM zs).gr n k (nextZ (rowZ (tabM zs).gr n k) want a) = _; omega
  · have hr : rowZ (tabM zs).gr n k = rowOf (tabM zs).gr n k := rowZ_nat hn hk
    have ej : atZ (tabM zs).gr n k (nextZ (rowZ (tabM zs).gr n k) want a) = (rowOf (tabM zs).gr n k).getD j 0 := by
      obtain ⟨m, hm, hml, hh⟩ := nextZ_in h1'
      have hmj : m = j := by omega
      subst hmj
      have hok := hasM_ok hh
      unfold atZ
      rw [hm, atR_in hml, hr]
      rw [hr] at hok
      rw [if_neg]
      intro hz
      have := of_one ((rowOf (tabM zs).gr n k).getD m 0)
      rw [hz] at this
      generalize (rowOf (tabM zs).gr n k).getD m 0 = p at *
      unfold okP at this
      simp at this
      omega
    have hp8 : okP ((rowOf (tabM zs).gr n k).getD j 0) = true := by rw [← ej]; unfold okP; simp; omega
    have := spot_in hn hk (by rw [← hr]; exact hjl) hp8
    rw [← ej] at this
    rwa [show ((atZ (tabM zs).gr n k (nextZ (rowZ (tabM zs).gr n k) want a)).toNat : Int) = atZ (tabM zs).gr n k (nextZ (rowZ (tabM zs).gr n k) want a) by omega]
/-- What holds from tick to tick. -/
structure OnIn (t : Tab) (s : Pl) : Prop where
  grp : ∃ n : Nat, s.r.g = n ∧ n < t.gr.length ∧ ∀ p : Nat, p < 8 → s.cn p = 0 ∨ (s.cn p = 1 ∧ s.r.x = false ∧ ∃ k i : Nat, k < 2 ∧ (⟨n, k, i, (p : Int)⟩ : Spot) ∈ spotsM t.gr ∧ (i : Int) ≤ if k = 0 then s.r.a0 else s.r.a1)
  two : ∀ p q : Nat, p < 8 → q < 8 → p ≠ q → hasM (t.cf p) q = true → redM (s.rn p) = true ∨ redM (s.rn q) = true
def aftP (t : Tab) (want : Int) (s : Pl) : Pl := if (tickP t want s).cr = s.cr then tickP t want s else (tickP t want s).noCn
theorem tick_on (zs : List Int) (want : Int) (s : Pl) (h : OnIn (tabM zs) s) : OnIn (tabM zs) (aftP (tabM zs) want s) := by
  obtain ⟨⟨n, hg, hn, hc⟩, htwo⟩ := h
  obtain ⟨⟨g, a0, a1, x⟩, rn, cn, cr⟩ := s
  simp only at hg hc htwo
  subst hg
  cases x with
  | true =>
    -- between two groups: nobody begins
    have hS : rgS (tabM zs) rn want ⟨n, a0, a1, true⟩ = 0 := rfl
    have hcr : (tickP (tabM zs) want ⟨⟨n, a0, a1, true⟩, rn, cn, cr⟩).cr = cr := by unfold tickP; simp
    have hc0 : ∀ p : Nat, p < 8 → cn p = 0 := fun p hp => by
      rcases hc p hp with h | h
      · exact h
      · cases h.2.1
    unfold aftP
    rw [if_pos hcr]
    refine ⟨?_, fun p q hp hq hne hh => ?_⟩
    · have hcn : ∀ p : Nat, p < 8 → (tickP (tabM zs) want ⟨⟨n, a0, a1, true⟩, rn, cn, cr⟩).cn p = 0 := fun p hp => by
        show (if hasM (rgS (tabM zs) rn want ⟨n, a0, a1, true⟩) p = true then cn p + 1 else cn p) = 0
        rw [hS, hasM_zero, if_neg (by simp)]; exact hc0 p hp
      show ∃ m : Nat, (rgN (tabM zs) rn want ⟨n, a0, a1, true⟩).g = m ∧ _
      unfold rgN
      cases hr : redsB rn 8
      · simp only [if_true, Bool.false_eq_true, if_false]
        exact ⟨n, rfl, hn, fun p hp => .inl (hcn p hp)⟩
      · simp only [if_true]
        obtain ⟨m, hm, hml⟩ := folG_in hn want
        exact ⟨m, hm, hml, fun p hp => .inl (hcn p hp)⟩
    · have key : ∀ p : Nat, p < 8 → redM ((tickP (tabM zs) want ⟨⟨n, a0, a1, true⟩, rn, cn, cr⟩).rn p) = false → redM (rn p) = false := fun p hp hh => by
        rcases step_red _ _ _ hh with h | h
        · exact h
        · have h' : hasM (rgS (tabM zs) rn want ⟨n, a0, a1, true⟩) p = true := h
          rw [hS, hasM_zero] at h'; cases h'
      cases e1 : redM ((tickP (tabM zs) want ⟨⟨n, a0, a1, true⟩, rn, cn, cr⟩).rn p)
      · cases e2 : redM ((tickP (tabM zs) want ⟨⟨n, a0, a1, true⟩, rn, cn, cr⟩).rn q)
        · have := htwo p q hp hq hne hh
          rw [key p hp e1, key q hq e2] at this
          simp at this
        · exact .inr rfl
      · exact .inl rfl
  | false =>
    have hok := step_ok zs rn n want a0 a1 hn
    have hst : rgS (tabM zs) rn want ⟨n, a0, a1, false⟩ = if bgP (tabM zs) rn n 1 (ringO (tabM zs) rn n want 1 a1) = true then withM (if bgP (tabM zs) rn n 0 (ringO (tabM zs) rn n want 0 a0) = true then withM 0 (atZ (tabM zs).gr n 0 (ringO (tabM zs) rn n want 0 a0).nx) else 0) (atZ (tabM zs).gr n 1 (ringO (tabM zs) rn n want 1 a1).nx) else (if bgP (tabM zs) rn n 0 (ringO (tabM zs) rn n want 0 a0) = true then withM 0 (atZ (tabM zs).gr n 0 (ringO (tabM zs) rn n want 0 a0).nx) else 0) := by
      show (stS2 (tabM zs) rn n want a0 a1).1 = _
      unfold stS2 stS1; rw [stepC_st, stepC_st]
    have hA0 : (rgN (tabM zs) rn want ⟨n, a0, a1, false⟩).a0 = if bgP (tabM zs) rn n 0 (ringO (tabM zs) rn n want 0 a0) = true then (ringO (tabM zs) rn n want 0 a0).nx else a0 := by
      show (stS1 (tabM zs) rn n want a0).2.2 = _
      unfold stS1; rw [stepC_a]
    have hA1 : (rgN (tabM zs) rn want ⟨n, a0, a1, false⟩).a1 = if bgP (tabM zs) rn n 1 (ringO (tabM zs) rn n want 1 a1) = true then (ringO (tabM zs) rn n want 1 a1).nx else a1 := by
      show (stS2 (tabM zs) rn n want a0 a1).2.2 = _
      unfold stS2; rw [stepC_a]
    have hF0 : bgP (tabM zs) rn n 0 (ringO (tabM zs) rn n want 0 a0) = true → ∃ i p : Nat, (ringO (tabM zs) rn n want 0 a0).nx = i ∧ a0 < i ∧ atZ (tabM zs).gr n 0 (ringO (tabM zs) rn n want 0 a0).nx = p ∧ p < 8 ∧ (⟨n, 0, i, (p : Int)⟩ : Spot) ∈ spotsM (tabM zs).gr ∧ mayM (tabM zs) rn p = true := fun h => bg_facts (zs := zs) (rn := rn) (n := n) (k := 0) (want := want) (a := a0) hn (by omega) h
    have hF1 : bgP (tabM zs) rn n 1 (ringO (tabM zs) rn n want 1 a1) = true → ∃ i p : Nat, (ringO (tabM zs) rn n want 1 a1).nx = i ∧ a1 < i ∧ atZ (tabM zs).gr n 1 (ringO (tabM zs) rn n want 1 a1).nx = p ∧ p < 8 ∧ (⟨n, 1, i, (p : Int)⟩ : Spot) ∈ spotsM (tabM zs).gr ∧ mayM (tabM zs) rn p = true := fun h => bg_facts (zs := zs) (rn := rn) (n := n) (k := 1) (want := want) (a := a1) hn (by omega) h
    -- who begins, as a fact of each phase
    have hB : ∀ p : Nat, p < 8 → hasM (rgS (tabM zs) rn want ⟨n, a0, a1, false⟩) p = true →
        ∃ k i : Nat, k < 2 ∧ (⟨n, k, i, (p : Int)⟩ : Spot) ∈ spotsM (tabM zs).gr ∧ (if k = 0 then a0 else a1) < (i : Int) ∧ (if k = 0 then (rgN (tabM zs) rn want ⟨n, a0, a1, false⟩).a0 else (rgN (tabM zs) rn want ⟨n, a0, a1, false⟩).a1) = (i : Int) ∧ mayM (tabM zs) rn p = true ∧ (p : Int) = if k = 0 then atZ (tabM zs).gr n 0 (ringO (tabM zs) rn n want 0 a0).nx else atZ (tabM zs).gr n 1 (ringO (tabM zs) rn n want 1 a1).nx := fun p hp hh => by
      rw [hst] at hh
      have hp' : (0 : Int) ≤ p ∧ (p : Int) < 8 := by omega
      have c0 : bgP (tabM zs) rn n 0 (ringO (tabM zs) rn n want 0 a0) = true → atZ (tabM zs).gr n 0 (ringO (tabM zs) rn n want 0 a0).nx = (p : Int) → ∃ k i : Nat, k < 2 ∧ (⟨n, k, i, (p : Int)⟩ : Spot) ∈ spotsM (tabM zs).gr ∧ (if k = 0 then a0 else a1) < (i : Int) ∧ (if k = 0 then (rgN (tabM zs) rn want ⟨n, a0, a1, false⟩).a0 else (rgN (tabM zs) rn want ⟨n, a0, a1, false⟩).a1) = (i : Int) ∧ mayM (tabM zs) rn p = true ∧ (p : Int) = if k = 0 then atZ (tabM zs).gr n 0 (ringO (tabM zs) rn n want 0 a0).nx else atZ (tabM zs).gr n 1 (ringO (tabM zs) rn n want 1 a1).nx := fun b e => by
        obtain ⟨i, q, h1, h2, h3, h4, h5, h6⟩ := hF0 b
        have e' : q = p := by omega
        subst e'
        exact ⟨0, i, by omega, h5, by simpa using h2, by rw [if_pos rfl, hA0, if_pos b, h1], h6, by rw [if_pos rfl, h3]⟩
      have c1 : bgP (tabM zs) rn n 1 (ringO (tabM zs) rn n want 1 a1) = true → atZ (tabM zs).gr n 1 (ringO (tabM zs) rn n want 1 a1).nx = (p : Int) → ∃ k i : Nat, k < 2 ∧ (⟨n, k, i, (p : Int)⟩ : Spot) ∈ spotsM (tabM zs).gr ∧ (if k = 0 then a0 else a1) < (i : Int) ∧ (if k = 0 then (rgN (tabM zs) rn want ⟨n, a0, a1, false⟩).a0 else (rgN (tabM zs) rn want ⟨n, a0, a1, false⟩).a1) = (i : Int) ∧ mayM (tabM zs) rn p = true ∧ (p : Int) = if k = 0 then atZ (tabM zs).gr n 0 (ringO (tabM zs) rn n want 0 a0).nx else atZ (tabM zs).gr n 1 (ringO (tabM zs) rn n want 1 a1).nx := fun b e => by
        obtain ⟨i, q, h1, h2, h3, h4, h5, h6⟩ := hF1 b
        have e' : q = p := by omega
        subst e'
        exact ⟨1, i, by omega, h5, by simpa using h2, by rw [if_neg (by omega), hA1, if_pos b, h1], h6, by rw [if_neg (by omega), h3]⟩
      cases b1 : bgP (tabM zs) rn n 1 (ringO (tabM zs) rn n want 1 a1)
      · rw [b1] at hh
        simp only [Bool.false_eq_true, if_false] at hh
        cases b0 : bgP (tabM zs) rn n 0 (ringO (tabM zs) rn n want 0 a0)
        · rw [b0] at hh; simp only [Bool.false_eq_true, if_false] at hh; rw [hasM_zero] at hh; cases hh
        · rw [b0] at hh
          simp only [if_true] at hh
          rw [hasM_with, hasM_zero] at hh
          simp only [Bool.or_eq_true, Bool.and_eq_true, decide_eq_true_eq, Bool.false_eq_true, false_or] at hh
          exact c0 b0 hh.2
      · rw [b1] at hh
        simp only [if_true] at hh
        rw [hasM_with] at hh
        simp only [Bool.or_eq_true, Bool.and_eq_true, decide_eq_true_eq] at hh
        rcases hh with hh | hh
        · cases b0 : bgP (tabM zs) rn n 0 (ringO (tabM zs) rn n want 0 a0)
          · rw [b0] at hh; simp only [Bool.false_eq_true, if_false] at hh; rw [hasM_zero] at hh; cases hh
          · rw [b0] at hh
            simp only [if_true] at hh
            rw [hasM_with, hasM_zero] at hh
            simp only [Bool.or_eq_true, Bool.and_eq_true, decide_eq_true_eq, Bool.false_eq_true, false_or] at hh
            exact c0 b0 hh.2
        · exact c1 b1 hh.2
    have hmono : ∀ k : Nat, k < 2 → (if k = 0 then a0 else a1) ≤ if k = 0 then (rgN (tabM zs) rn want ⟨n, a0, a1, false⟩).a0 else (rgN (tabM zs) rn want ⟨n, a0, a1, false⟩).a1 := fun k hk => by
      rcases (show k = 0 ∨ k = 1 by omega) with rfl | rfl
      · rw [if_pos rfl, if_pos rfl, hA0]
        split
        · rename_i b
          obtain ⟨i, q, h1, h2, _⟩ := hF0 b
          rw [h1]; omega
        · exact Int.le_refl _
      · rw [if_neg (by omega), if_neg (by omega), hA1]
        split
        · rename_i b
          obtain ⟨i, q, h1, h2, _⟩ := hF1 b
          rw [h1]; omega
        · exact Int.le_refl _
    have htwo' : ∀ p q : Nat, p < 8 → q < 8 → p ≠ q → hasM ((tabM zs).cf p) q = true → redM ((tickP (tabM zs) want ⟨⟨n, a0, a1, false⟩, rn, cn, cr⟩).rn p) = true ∨ redM ((tickP (tabM zs) want ⟨⟨n, a0, a1, false⟩, rn, cn, cr⟩).rn q) = true := fun p q hp hq hne hh => by
      have key : ∀ p : Nat, p < 8 → redM ((tickP (tabM zs) want ⟨⟨n, a0, a1, false⟩, rn, cn, cr⟩).rn p) = false → redM (rn p) = false ∨ hasM (rgS (tabM zs) rn want ⟨n, a0, a1, false⟩) p = true := fun p hp hh => step_red _ _ _ hh
      cases e1 : redM ((tickP (tabM zs) want ⟨⟨n, a0, a1, false⟩, rn, cn, cr⟩).rn p)
      · cases e2 : redM ((tickP (tabM zs) want ⟨⟨n, a0, a1, false⟩, rn, cn, cr⟩).rn q)
        · exfalso
          have hh' : hasM ((tabM zs).cf q) p = true := by rw [tab_sym zs q p hq hp]; exact hh
          by_cases s1 : hasM (rgS (tabM zs) rn want ⟨n, a0, a1, false⟩) p = true
          · obtain ⟨k, i, hk, hs, _, _, hm, hpe⟩ := hB p hp s1
            have hrq := (may_facts hm).2.2.2.2 q hq hh
            rcases key q hq e2 with r2 | s2
            · rw [r2] at hrq; cases hrq
            · obtain ⟨k', i', hk', hs', _, _, _, hqe⟩ := hB q hq s2
              -- both begin: each in its ring
              have w1 := where_spot zs hs
              have w2 := where_spot zs hs'
              have hnb := tab_nbc zs p q hp hq hh
              unfold besideM at hnb
              simp only at w1 w2
              rw [w1, w2] at hnb
              simp only [beq_self_eq_true, Bool.true_and] at hnb
              have hkk : k = k' := by
                by_cases e : k = k'
                · exact e
                · simp at hnb; omega
              subst hkk
              rw [← hqe] at hpe
              omega
          · rcases key p hp e1 with r1 | s1'
            · rcases key q hq e2 with r2 | s2
              · have := htwo p q hp hq hne hh
                rw [r1, r2] at this
                simp at this
              · obtain ⟨_, _, _, _, _, _, hm, _⟩ := hB q hq s2
                have := (may_facts hm).2.2.2.2 p hp hh'
                rw [r1] at this; cases this
            · exact s1 s1'
        · exact .inr rfl
      · exact .inl rfl
    have hx : (rgN (tabM zs) rn want ⟨n, a0, a1, false⟩).x = stCr (tabM zs) rn n want a0 a1 := rfl
    have hgg : (rgN (tabM zs) rn want ⟨n, a0, a1, false⟩).g = n := rfl
    have hcrE : (tickP (tabM zs) want ⟨⟨n, a0, a1, false⟩, rn, cn, cr⟩).cr = if (rgN (tabM zs) rn want ⟨n, a0, a1, false⟩).x = true ∧ false = false then cr + 1 else cr := rfl
    unfold aftP
    cases hcr : stCr (tabM zs) rn n want a0 a1
    · have e1 : (tickP (tabM zs) want ⟨⟨n, a0, a1, false⟩, rn, cn, cr⟩).cr = cr := by rw [hcrE, hx, hcr]; simp
      rw [if_pos e1]
      refine ⟨⟨n, rfl, hn, fun p hp => ?_⟩, htwo'⟩
      have hcnE : (tickP (tabM zs) want ⟨⟨n, a0, a1, false⟩, rn, cn, cr⟩).cn p = if hasM (rgS (tabM zs) rn want ⟨n, a0, a1, false⟩) p = true then cn p + 1 else cn p := rfl
      rw [hcnE]
      by_cases hs : hasM (rgS (tabM zs) rn want ⟨n, a0, a1, false⟩) p = true
      · rw [if_pos hs]
        obtain ⟨k, i, hk, hsp, hlt, ha, _, _⟩ := hB p hp hs
        rcases hc p hp with h0 | ⟨_, _, k2, i2, hk2, hsp2, hle⟩
        · exact .inr ⟨by omega, hx.trans hcr, k, i, hk, hsp, by
            show (i : Int) ≤ if k = 0 then (rgN (tabM zs) rn want ⟨n, a0, a1, false⟩).a0 else (rgN (tabM zs) rn want ⟨n, a0, a1, false⟩).a1
            rw [ha]; exact Int.le_refl _⟩
        · have w1 := where_spot zs hsp
          have w2 := where_spot zs hsp2
          simp only at w1 w2
          rw [w1] at w2
          simp only [Option.some.injEq, Spot.mk.injEq] at w2
          obtain ⟨_, e2, e3, _⟩ := w2
          subst e2; subst e3
          omega
      · rw [if_neg hs]
        rcases hc p hp with h0 | ⟨h1, _, k2, i2, hk2, hsp2, hle⟩
        · exact .inl h0
        · exact .inr ⟨h1, hx.trans hcr, k2, i2, hk2, hsp2, by
            show (i2 : Int) ≤ if k2 = 0 then (rgN (tabM zs) rn want ⟨n, a0, a1, false⟩).a0 else (rgN (tabM zs) rn want ⟨n, a0, a1, false⟩).a1
            exact Int.le_trans hle (hmono k2 hk2)⟩
    · have e1 : ¬ (tickP (tabM zs) want ⟨⟨n, a0, a1, false⟩, rn, cn, cr⟩).cr = cr := by rw [hcrE, hx, hcr, if_pos ⟨rfl, rfl⟩]; omega
      rw [if_neg e1]
      exact ⟨⟨n, rfl, hn, fun p hp => .inl rfl⟩, htwo'⟩
end
section
section
open Go.RowKit Go.Shelf
set_option linter.unusedVariables false
attribute [local go_sem] IsBlk.cell IsBlk.frozen

/-! ### The play is made -/
def ruZ : Rn := ⟨0, 0, 0, 0, 0, 0, 0, false, false, 0, 0, 0⟩
def plZ : Pl := ⟨⟨0, 0, 0, false⟩, fun _ => ruZ, fun _ => 0, 0⟩
theorem info_play : (Try.prog.info? 57).map (fun i => (i.zero, i.size)) = some (some (.agg (PlA TabZero plZ)), 240) := by kernel_rfl
theorem under_play : (match Try.prog.underlying 57 with | some (.struct fs) => fs.toList.mapM (fun f => (Try.prog.info? f.type).map fun i => (f.offset, i.size)) | _ => none) = some [(0, 131), (131, 4), (135, 96), (231, 8), (239, 1)] := by kernel_rfl
theorem foldl_spl (o : Nat) : ∀ (l : List Value) (k : Nat) (C : Array Value), (l.zipIdx k).foldl (fun cs x => cs.setIfInBounds (o + x.2) x.1) C = spl C (o + k) l
  | [], _, _ => rfl
  | v :: r, k, C => by
    rw [List.zipIdx_cons, List.foldl_cons, foldl_spl o r (k + 1), spl, Nat.add_assoc]
theorem plA_setT {T : Array Value} (hT : T.size = 131) (T0 : Array Value) (s : Pl) : spl (PlA T0 s) 0 T.toList = PlA T s := by
  have hl : T.toList.length = 131 := by rw [Array.length_toList]; exact hT
  refine arrF_spl (by rw [hl]; omega) fun j hj => ?_
  rw [hl]
  unfold plAt
  by_cases h : j < 131
  · rw [if_pos h, if_pos (by omega), Array.getElem?_toList]; rfl
  · have h2 : ¬ (0 ≤ j ∧ j < 0 + 131) := by omega
    rw [if_neg h, if_neg h2, if_neg h]
theorem built_play {T : Array Value} (hT : T.size = 131) : Try.prog.built 57 [(0, .agg T)] = some (PlA T plZ) := by
  obtain ⟨i, hi, hz, hs⟩ : ∃ i, Try.prog.info? 57 = some i ∧ i.zero = some (.agg (PlA TabZero plZ)) ∧ i.size = 240 := by
    have := info_play
    cases hq : Try.prog.info? 57 with
    | none => simp [hq] at this
    | some i => exact ⟨i, rfl, by simpa [hq] using this⟩
  obtain ⟨fs, hu, hp⟩ : ∃ fs, Try.prog.underlying 57 = some (.struct fs) ∧ fs.toList.mapM (fun f => (Try.prog.info? f.type).map fun i => (f.offset, i.size)) = some [(0, 131), (131, 4), (135, 96), (231, 8), (239, 1)] := by
    have := under_play
    split at this
    · rename_i fs h; exact ⟨fs, h, this⟩
    · cases this
  have hZs : (PlA TabZero plZ).size = 240 := plA_size _ _
  have hset : spl (PlA TabZero plZ) 0 T.toList = PlA T plZ := plA_setT hT _ _
  generalize PlA TabZero plZ = Z at *
  unfold Program.built
  simp only [hi, hu, hz, hp]
  unfold Instr.fill
  have h0 : ([(0, 131), (131, 4), (135, 96), (231, 8), (239, 1)] : List (Nat × Nat)).toArray[0]? = some (0, 131) := rfl
  rw [h0]
  have hc : ¬ (decide ((Value.agg T).cells.size ≠ 131) || decide (0 + (Value.agg T).cells.size > (Value.agg Z).cells.size)) = true := by simp [Value.cells, hT, hZs]
  dsimp only
  rw [if_neg hc]
  have hfold : Array.foldl (fun cs x => cs.setIfInBounds (0 + x.snd) x.fst) Z T.zipIdx = PlA T plZ := by
    rw [← Array.foldl_toList, Array.toList_zipIdx, foldl_spl 0]
    exact hset
  generalize PlA T plZ = E at *
  rw [← hfold]
  unfold Instr.fill
  rfl
theorem wpList_build_play {ops : Array Oper} {rest : List Oper} {op : Oper} {a : Act} {w : World} {Q : Exit → Act → World → Prop} {x : Operand} {T : Array Value} (hgd : op.guard = none) (ho : op.op = .build 57 #[(0, x)])
    (hx : a.eval x = .agg T) (hT : T.size = 131) (h : ∀ C, C = PlA T plZ → wpList Try.prog ops Q rest (a.put op.dst (.agg C)) w) : wpList Try.prog ops Q (op :: rest) a w := by
  have e : Sem.run Try.prog (execOp a.eval op) w = .ok (.value (.agg (PlA T plZ))) w := by
    unfold execOp
    simp only [ho, List.map_toArray, List.map_cons, List.map_nil, hx]
    rw [Sem.run_bind, run_build (P := Try.prog) w 57 #[(0, .agg T)] _ (built_play hT)]
    rfl
  refine wpList_plain hgd fun _ hK => ?_
  unfold Oper.wp
  rw [e]
  exact hK _ _ (h _ rfl)
/-! ### Plain facts -/
def plS (t : Tab) : Pl := ⟨⟨0, -1, -1, false⟩, fun p => bgn19 (t.ph p), fun _ => 0, 0⟩
theorem on_start (zs : List Int) : OnIn (tabM zs) (plS (tabM zs)) := by
  have hn1 : 1 ≤ (tabM zs).gr.length := by have := rowsM_bd zs; have := groupsN_bd zs; show 1 ≤ (rowsM zs).2.length; omega
  exact ⟨⟨0, rfl, by omega, fun p _ => .inl rfl⟩, fun p q _ _ _ _ => .inl rfl⟩
theorem on_kind {zs : List Int} {s : Pl} (h : OnIn (tabM zs) s) : InKind .i64 s.r.g := by
  obtain ⟨n, hg, hn, _⟩ := h.grp
  have hgl : (tabM zs).gr.length ≤ 8 := by have := rowsM_bd zs; have := groupsN_bd zs; show (rowsM zs).2.length ≤ 8; omega
  rw [hg]; unfold InKind; omega
theorem on_cnt {t : Tab} {s : Pl} (h : OnIn t s) {q : Nat} (hq : q < 8) : 0 ≤ s.cn q ∧ s.cn q ≤ 1 := by
  obtain ⟨n, _, _, hc⟩ := h.grp
  rcases hc q hq with h | h
  · omega
  · omega
theorem tick_cr (t : Tab) (want : Int) (s : Pl) : (tickP t want s).cr = s.cr ∨ (tickP t want s).cr = s.cr + 1 := by
  unfold tickP
  simp only
  split
  · exact .inr rfl
  · exact .inl rfl
theorem aft_cr (t : Tab) (want : Int) (s : Pl) : (aftP t want s).cr = (tickP t want s).cr := by
  unfold aftP
  split <;> rfl
theorem rds_bd (rn : Nat → Rn) : ∀ n, 0 ≤ rdsN rn n ∧ rdsN rn n ≤ 255
  | 0 => by simp [rdsN]
  | n + 1 => by
    unfold rdsN
    split
    · exact packM_bd _
    · exact rds_bd rn n
theorem and_or_ne : ∀ r : Fin 256, ∀ p q : Fin 8, (hasM (r.val : Int) p.val = true ∨ hasM (r.val : Int) q.val = true) → (bits .and .i64 (r.val : Int) (bits .or .i64 (2 ^ p.val) (2 ^ q.val)) == 0) = false := by decide +kernel
theorem reds_ne {s : Pl} {p q : Nat} (hp : p < 8) (hq : q < 8) (h : redM (s.rn p) = true ∨ redM (s.rn q) = true) : (bits .and .i64 (rdsN s.rn 8) (bits .or .i64 (2 ^ p) (2 ^ q)) == 0) = false := by
  have hb := rds_bd s.rn 8
  obtain ⟨r, hr⟩ := Int.eq_ofNat_of_zero_le hb.1
  have := and_or_ne ⟨r, by omega⟩ ⟨p, hp⟩ ⟨q, hq⟩
  simp only at this
  rw [hr]
  refine this ?_
  rcases h with h | h
  · exact .inl (by have := rds_mem s.rn p h 8 (Nat.le_refl _) hp; rwa [hr] at this)
  · exact .inr (by have := rds_mem s.rn q h 8 (Nat.le_refl _) hq; rwa [hr] at this)
/-- The play lies; what lay below is as it was. -/
structure PoSt (Y wr : World) (b : Nat) (T : Array Value) (s : Pl) : Prop where
  p : wr.heap[b]? = some (.cells (PlA T s) 57)
  bel : Below b Y wr
theorem PoSt.below {Y wr w2 : World} {b : Nat} {T : Array Value} {s : Pl} (h : PoSt Y wr b T s) (hb : Below wr.heap.size wr w2) : PoSt Y w2 b T s :=
  ⟨(hb.block _ (Array.getElem?_eq_some_iff.1 h.p).1).trans h.p, h.bel.trans (hb.mono (Nat.le_of_lt (Array.getElem?_eq_some_iff.1 h.p).1))⟩
end
section
open Go.ChangeShapes Go.WideShapes Go.ChangeAt Go.RowKit Go.Shelf
set_option linter.unusedVariables false
attribute [local go_sem] IsBlk.cell IsBlk.frozen

theorem wrap_pow {n : Nat} (h : n < 8) : wrap64 (2 ^ n) = 2 ^ n := by
  rcases (show n = 0 ∨ n = 1 ∨ n = 2 ∨ n = 3 ∨ n = 4 ∨ n = 5 ∨ n = 6 ∨ n = 7 by omega) with rfl | rfl | rfl | rfl | rfl | rfl | rfl | rfl <;> decide +kernel
set_option maxHeartbeats 8000000 in
set_option maxRecDepth 100000 in
theorem ringOnce_walk (a0 : Option Addr) (cap0 : Nat) (z0 : List Int) (a1 : Option Addr) (cap1 : Nat) (z1 : List Int) (w : World) (hc0 : z0.length ≤ cap0 ∧ cap0 ≤ 9223372036854775807) (_ : Hdr w a0 cap0) (hz0 : Ints w a0 z0) (_ : ∀ i, i < z0.length → InKind .i64 (z0.getD i 0))
    (hc1 : z1.length ≤ cap1 ∧ cap1 ≤ 9223372036854775807) (_ : Hdr w a1 cap1) (hz1 : Ints w a1 z1) (_ : ∀ i, i < z1.length → InKind .i64 (z1.getD i 0)) :
    Calls Try.prog 5 #[.slice a0 z0.length cap0, .slice a1 z1.length cap1] w fun e w' => e = .returned (.bool true) ∧ Below w.heap.size w w' := by
  have HZ : Hid (∀ w', Below w.heap.size w w' → Ints w' a0 z0) := Lib.hid fun w' hb => Row1.below hz0 hb (Nat.le_refl _)
  have HZL : Hid (z0.length ≤ 9223372036854775807) := Lib.hid (by omega)
  have HY := Lib.hid hz1
  have hyl : z1.length ≤ 9223372036854775807 := by omega
  have z := zeroTab
  have HS0 := Lib.hid (on_start z0)
  have HPH : Hid (∀ k, PhIn ((tabM z0).ph k)) := Lib.hid (tab_phIn z0)
  clear hz0 hz1
  go_enter Try.func5, Try.ntmps5
  go_upto_region 2 with (first | (go_at_call 7; refine (ltable_up _ _ _ _ HZL.out (HZ.out _ (by (repeat' (first | (with_reducible exact Below.refl _ _) | (with_reducible assumption) | (with_reducible refine Below.setCell ?_ ?_ _) | (with_reducible refine Below.alloc ?_ ?_ _) | (with_reducible refine Below.drew ?_) | (with_reducible refine Up.base _ ?_ ?_) | (with_reducible exact LeSize.out) | exact LeSize.out | exact Nat.le_add_right_of_le LeSize.out | exact Nat.le_add_right_of_le (Nat.le_add_right_of_le LeSize.out) | (with_reducible exact Nat.le_refl _) | (simp; done) | (simp; omega)))))).mono ?_; rintro e w' ⟨T, uT, rfl, rfl, hT⟩) | (refine wpList_build_play rfl rfl rfl hT.size (fun C hC => ?_); have HC := Lib.hid hC; clear hC; go_simp))
  haveI : Sz131 T := ⟨hT.size⟩
  have HT : Hid (∀ w', Below uT.w.heap.size uT.w w' → IsTab w' T (tabM z0)) := Lib.hid fun w' hb => hT.below hb (Nat.le_refl _)
  clear hT
  have hC240 : 240 ≤ C.size := by rw [HC.out, plA_size]; exact Nat.le_refl _
  have iC : IsBlk (uT.w.alloc (.cells C 57)) uT.w.heap.size C 57 := inferInstance
  have hb0 : Below w.heap.size w (uT.w.alloc (.cells C 57)) := by (repeat' (first | (with_reducible exact Below.refl _ _) | (with_reducible assumption) | (with_reducible refine Below.setCell ?_ ?_ _) | (with_reducible refine Below.alloc ?_ ?_ _) | (with_reducible refine Below.drew ?_) | (with_reducible refine Up.base _ ?_ ?_) | (with_reducible exact LeSize.out) | exact LeSize.out | exact Nat.le_add_right_of_le LeSize.out | exact Nat.le_add_right_of_le (Nat.le_add_right_of_le LeSize.out) | (with_reducible exact Nat.le_refl _) | (simp; done) | (simp; omega)))
  have hbT : Below uT.w.heap.size uT.w (uT.w.alloc (.cells C 57)) := by (repeat' (first | (with_reducible exact Below.refl _ _) | (with_reducible assumption) | (with_reducible refine Below.setCell ?_ ?_ _) | (with_reducible refine Below.alloc ?_ ?_ _) | (with_reducible refine Below.drew ?_) | (with_reducible refine Up.base _ ?_ ?_) | (with_reducible exact LeSize.out) | exact LeSize.out | exact Nat.le_add_right_of_le LeSize.out | exact Nat.le_add_right_of_le (Nat.le_add_right_of_le LeSize.out) | (with_reducible exact Nat.le_refl _) | (simp; done) | (simp; omega)))
  have huw := uT.bel.size
  have hW0s : uT.w.heap.size < (uT.w.alloc (.cells C 57)).heap.size := by simp
  generalize (uT.w.alloc (.cells C 57)) = W0 at *
  have HTB : Hid (∀ w', Below uT.w.heap.size W0 w' → IsTab w' T (tabM z0)) := Lib.hid fun w' hb => HT.out w' (hbT.trans hb)
  obtain ⟨b, hb⟩ : ∃ b, uT.w.heap.size = b := ⟨_, rfl⟩
  rw [hb] at iC huw hW0s HTB
  rw [hb]
  clear HT hbT hb
  haveI : LeSize w.heap.size W0 := ⟨hb0.size⟩
  go_upto_region 3 with (refine wpList_store_part (cs := #[.int .i64 (-1), .int .i64 (-1)]) 34 rfl rfl rfl rfl (by show 132 + 2 ≤ C.size; omega) (by kernel_rfl) (by simp [Value.oneCell']) ?_; go_simp)
  have i1 : (W0.setCells b 132 [.int .i64 (-1), .int .i64 (-1)]).heap[b]? = some (.cells (PlA T (plZ.setR ⟨0, -1, -1, false⟩)) 57) := by
    have := heap_sets_same [.int .i64 (-1), .int .i64 (-1)] iC.out 132
    rw [HC.out, plA_setAt T plZ (-1) (-1)] at this
    exact this
  have b1 : Below b W0 (W0.setCells b 132 [.int .i64 (-1), .int .i64 (-1)]) := below_setCells _ _ (Below.refl _ _) (Nat.le_refl _)
  generalize (W0.setCells b 132 [.int .i64 (-1), .int .i64 (-1)]) = W1 at *
  haveI j1 : IsBlk W1 b (PlA T (plZ.setR ⟨0, -1, -1, false⟩)) 57 := ⟨i1⟩
  have s1 := b1.size
  haveI : LeSize w.heap.size W1 := ⟨by omega⟩
  haveI : LeSize (b + 1) W1 := ⟨by omega⟩
  have HBG : Hid (∀ w', Below W1.heap.size W1 w' → Calls Try.prog 19 #[.agg T] w' fun e w'' => e = .returned (.agg (runsA fun p => bgn19 ((tabM z0).ph p))) ∧ Below w'.heap.size w' w'') := Lib.hid fun w' hb => begun_any T (tabM z0) w' (HTB.out w' (b1.trans (hb.mono (by omega))))
  have hra : (runsA fun p => bgn19 ((tabM z0).ph p)).size = 96 := arrF_size _ _
  have HRO := Lib.hid (show (runsA fun p => bgn19 ((tabM z0).ph p)).all (·.oneCell') = true from bgnR_one (tabM z0))
  have HRA : Hid (spl (PlA T (plZ.setR ⟨0, -1, -1, false⟩)) 135 (runsA fun p => bgn19 ((tabM z0).ph p)).toList = PlA T (plS (tabM z0))) := Lib.hid (plA_setRuns _ _ _)
  generalize (runsA fun p => bgn19 ((tabM z0).ph p)) = RR at *
  have HRS := Lib.hid hra
  clear hra i1 iC hC240 HC
  obtain ⟨CC, hCC⟩ : ∃ CC, plZ.setR ⟨0, -1, -1, false⟩ = CC := ⟨_, rfl⟩
  rw [hCC] at j1 HRA
  clear hCC
  go_upto_region 4 with (first | (refine l_lpT rfl rfl rfl ?_; go_simp) | (go_at_call 19; refine (Up.run (HBG.out _ (by (repeat' (first | (with_reducible exact Below.refl _ _) | (with_reducible assumption) | (with_reducible refine Below.setCell ?_ ?_ _) | (with_reducible refine Below.alloc ?_ ?_ _) | (with_reducible refine Below.drew ?_) | (with_reducible refine Up.base _ ?_ ?_) | (with_reducible exact LeSize.out) | exact LeSize.out | exact Nat.le_add_right_of_le LeSize.out | exact Nat.le_add_right_of_le (Nat.le_add_right_of_le LeSize.out) | (with_reducible exact Nat.le_refl _) | (simp; done) | (simp; omega)))))).mono ?_; rintro e w' ⟨rfl, ub, rfl⟩) | (refine wpList_store_part (cs := RR) 46 rfl rfl rfl rfl (by rw [plA_size, HRS.out]; omega) (by rw [HRS.out]; exact info_runs96) HRO.out ?_; go_simp))
  have b2 : Below W1.heap.size W1 ub.w := ub.bel
  have s2 := b2.size
  have HP0 : Hid (PoSt W0 (ub.w.setCells b 135 RR.toList) b T (plS (tabM z0))) := Lib.hid ⟨by
      have := heap_sets_same RR.toList (inferInstance : IsBlk ub.w b (PlA T CC) 57).out 135
      rw [HRA.out] at this
      exact this, below_setCells _ _ (b1.trans (b2.mono (by omega))) (Nat.le_refl _)⟩
  generalize (ub.w.setCells b 135 RR.toList) = Y at *
  clear b2 s2 HBG HRA HRO HRS j1 b1 s1
  have hby := HP0.out.bel
  have HBY : Hid (Below b W0 Y) := Lib.hid hby
  have hbY : Below w.heap.size w Y := hb0.trans (hby.mono (by omega))
  haveI : LeSize w.heap.size Y := ⟨hbY.size⟩
  by_cases hlen : 120 < z1.length
  · have hlI : (120 : Int) < z1.length := by omega
    go_wp2_with (go_at_call 10; refine (Up.run (awake19_any _)).mono ?_; rintro e w' ⟨rfl, u, rfl⟩)
    go_ret
    exact ⟨rfl, by (repeat' (first | (with_reducible exact Below.refl _ _) | (with_reducible assumption) | (with_reducible refine Below.setCell ?_ ?_ _) | (with_reducible refine Below.alloc ?_ ?_ _) | (with_reducible refine Below.drew ?_) | (with_reducible refine Up.base _ ?_ ?_) | (with_reducible exact LeSize.out) | exact LeSize.out | exact Nat.le_add_right_of_le LeSize.out | exact Nat.le_add_right_of_le (Nat.le_add_right_of_le LeSize.out) | (with_reducible exact Nat.le_refl _) | (simp; done) | (simp; omega)))⟩
  · have hlI : ¬ ((120 : Int) < z1.length) := by omega
    have hl2 : (z1.length : Int) ≤ 120 := by omega
    have HPY := Lib.hid HP0.out.p
    clear hlen HP0 hby
    go_wp2
    go_loopw [6] (fun i wr => ∃ j : Nat, j ≤ 10 * z1.length ∧ i = .int .i64 j ∧ ∃ s : Pl, Hid (PoSt Y wr b T s ∧ OnIn (tabM z0) s ∧ 0 ≤ s.cr ∧ s.cr ≤ j)) (fun i _ => 10 * z1.length - (intOf i).toNat)
    case atStart => exact ⟨0, Nat.zero_le _, rfl, plS (tabM z0), Lib.hid ⟨⟨HPY.out, Below.refl _ _⟩, HS0.out, Int.le_refl _, Int.le_refl _⟩⟩
    case round =>
      obtain ⟨j, hj, rfl, s, HR⟩ := hrel
      have hbel := HR.out.1.bel
      haveI iP : IsBlk wr b (PlA T s) 57 := ⟨HR.out.1.p⟩
      have hbl : b < wr.heap.size := (Array.getElem?_eq_some_iff.1 HR.out.1.p).1
      have hbw : Below w.heap.size w wr := hbY.trans (hbel.mono (by omega))
      haveI : LeSize w.heap.size wr := ⟨hbw.size⟩
      haveI : LeSize (b + 1) wr := ⟨hbl⟩
      by_cases hjl : j < 10 * z1.length
      · have hjI : (j : Int) < 10 * (z1.length : Int) := by omega
        obtain ⟨d, hd⟩ : ∃ d, j / 10 = d := ⟨_, rfl⟩
        have hdl : d < z1.length := by omega
        have hdI : (d : Int) < z1.length := by omega
        have e10 : (j : Int) / 10 = (d : Int) := by omega
        obtain ⟨zb, zoff, rfl, hyb, hyc⟩ := Row1.cell HY.out (by omega)
        have hz : wr.cell? ⟨zb, zoff + d, none⟩ = some (.int .i64 (z1.getD d 0)) := by
          rw [hbw.cell (p := ⟨zb, zoff + d, none⟩) hyb]; exact hyc _ hdl
        haveI : LeSize (zb + 1) wr := ⟨Nat.le_trans hyb hbw.size⟩
        haveI := HasCell.of hz
        generalize z1.getD d 0 = zv at *
        obtain ⟨wt, hwt⟩ : ∃ x, bits .and .i64 zv (onM (tabM z0)) = x := ⟨_, rfl⟩
        have HON : Hid (∀ w', Below wr.heap.size wr w' → Calls Try.prog 21 #[.agg T] w' fun e w'' => e = .returned (.int .i64 (onM (tabM z0))) ∧ Below w'.heap.size w' w'') := Lib.hid fun w' hb => ron_any T (tabM z0) w' (HTB.out w' ((HBY.out.trans hbel).trans (hb.mono (by omega))))
        have hcb := HR.out.2.2
        have HTK : Hid (∀ w', Below wr.heap.size wr w' → Calls Try.prog 20 #[.pointer (some ⟨b, 0, none⟩), .int .i64 wt] w' fun e w'' => e = .returned (.tuple #[.int .i64 (rgS (tabM z0) s.rn wt s.r), .int .i64 (rgE (tabM z0) s.rn wt s.r)]) ∧ w''.heap[b]? = some (.cells (PlA T (tickP (tabM z0) wt s)) 57) ∧ Below b w' w'') := Lib.hid fun w' hb =>
          tick_any T (tabM z0) b s wt w' ((hb.block _ hbl).trans HR.out.1.p) (fun w2 hb2 => HTB.out w2 (((HBY.out.trans hbel).trans (hb.mono (by omega))).trans hb2)) (on_kind HR.out.2.1) HPH.out (fun q hq => by have := on_cnt HR.out.2.1 hq; omega) (by omega)
        have HX0 := plA_cr T s
        have HS2 := Lib.hid (tick_on z0 wt s HR.out.2.1)
        have HC2 := Lib.hid (aft_cr (tabM z0) wt s)
        have HC1 := Lib.hid (tick_cr (tabM z0) wt s)
        have HAF : Hid (aftP (tabM z0) wt s = if (tickP (tabM z0) wt s).cr = s.cr then tickP (tabM z0) wt s else (tickP (tabM z0) wt s).noCn) := Lib.hid rfl
        generalize rgS (tabM z0) s.rn wt s.r = st at *
        generalize rgE (tabM z0) s.rn wt s.r = en at *
        generalize aftP (tabM z0) wt s = s2 at *
        generalize tickP (tabM z0) wt s = s1 at *
        generalize hc0' : s.cr = c0 at *
        have HCZ := Lib.hid hc0'
        generalize hc1' : s1.cr = c1 at *
        have HCO := Lib.hid hc1'
        clear hd hyc hc0' hc1'
        go_upto_region 10 with fail
        (refine wp_region_up_tail 12 (by kernel_rfl) (by kernel_rfl) ?_; simp only [List.take_succ_cons, List.take_zero, List.drop_succ_cons, List.drop_zero]; (repeat (first | (go_big_quiet_want; refine q_lpT rfl rfl ?_; simp only [Act.put, List.setIfInBounds_toArray, List.set_cons_succ, List.set_cons_zero]; go_big_quiet_on) | go_big_quiet_step ((first | (go_at_call 21; (with_reducible refine Up.calls (HON.out _ ?_)); (repeat' (first | (with_reducible exact Below.refl _ _) | (with_reducible assumption) | (with_reducible refine Below.setCell ?_ ?_ _) | (with_reducible refine Below.alloc ?_ ?_ _) | (with_reducible refine Below.drew ?_) | (with_reducible refine Up.base _ ?_ ?_) | (with_reducible exact LeSize.out) | exact LeSize.out | exact Nat.le_add_right_of_le LeSize.out | exact Nat.le_add_right_of_le (Nat.le_add_right_of_le LeSize.out) | (with_reducible exact Nat.le_refl _) | (simp; done) | (simp; omega)))) | fail)))); refine wpQuiet_nil ?_; rintro _ ⟨u, rfl⟩)
        (try rw [hwt])
        have hbu : Below wr.heap.size wr u.w := u.bel
        have hsu := hbu.size
        go_upto_region 11 with (go_at_call 20; refine (HTK.out _ (by (repeat' (first | (with_reducible exact Below.refl _ _) | (with_reducible assumption) | (with_reducible refine Below.setCell ?_ ?_ _) | (with_reducible refine Below.alloc ?_ ?_ _) | (with_reducible refine Below.drew ?_) | (with_reducible refine Up.base _ ?_ ?_) | (with_reducible exact LeSize.out) | exact LeSize.out | exact Nat.le_add_right_of_le LeSize.out | exact Nat.le_add_right_of_le (Nat.le_add_right_of_le LeSize.out) | (with_reducible exact Nat.le_refl _) | (simp; done) | (simp; omega))))).mono ?_; rintro e w' ⟨rfl, hp2, hb2⟩)
        have HP1 : Hid (PoSt Y w' b T s1) := Lib.hid ⟨hp2, (hbel.trans (hbu.mono (by omega))).trans hb2⟩
        haveI iP1 : IsBlk w' b (PlA T s1) 57 := ⟨hp2⟩
        have HX1 := plA_cr T s1
        rw [HCO.out] at HX1
        have hb2s := hb2.size
        clear hp2 hb2 hbu HTK HON HX0 hz
        generalize w' = X1 at *
        haveI : LeSize (b + 1) X1 := ⟨by omega⟩
        obtain ⟨nb, hnb⟩ : ∃ nb : Bool, nb = (c1 != c0) := ⟨_, rfl⟩
        have HNB := Lib.hid hnb
        clear hnb
        go_cut [60] (fun s60 wx => s60 = .bool nb ∧ wx = X1)
        case first =>
          go_wp2
          go_meet
          exact ⟨by rw [HNB.out], rfl⟩
        case rest =>
          obtain ⟨rfl, rfl⟩ := hcut
          have HE0 : Hid (nb = false → s2 = s1) := Lib.hid fun h => by
            rw [HAF.out, if_pos (by have := HNB.out; rw [h] at this; simpa using this.symm)]
          have HE1 : Hid (nb = true → s2 = s1.noCn) := Lib.hid fun h => by
            rw [HAF.out, if_neg (by have := HNB.out; rw [h] at this; simpa using this.symm)]
          clear HAF HNB HX1
          go_upto_if 60 with fail
          go_cut [] (fun wx => PoSt Y wx b T s2)
          case first =>
            cases nb
            · have HE := Lib.hid (HE0.out rfl)
              clear HE0 HE1
              go_wp2
              go_meet
              rw [HE.out]; exact HP1.out
            · have HE := Lib.hid (HE1.out rfl)
              clear HE0 HE1
              go_wp2_with (refine wpList_store_part (cs := #[.int .i64 0, .int .i64 0, .int .i64 0, .int .i64 0, .int .i64 0, .int .i64 0, .int .i64 0, .int .i64 0]) 27 rfl rfl rfl rfl (by rw [plA_size]; show 231 + 8 ≤ 240; omega) (by kernel_rfl) (by simp [Value.oneCell']) ?_; go_simp)
              go_meet
              rw [HE.out]
              exact ⟨by rw [← plA_noCn]; exact heap_sets_same _ HP1.out.p _, below_setCells _ _ HP1.out.bel (Nat.le_refl _)⟩
          case rest =>
            have HP2 := Lib.hid hcut
            clear hcut HP1 iP1 iP HE0 HE1
            go_wp2
            go_loopw [8] (fun i wx => ∃ p : Nat, p ≤ 8 ∧ i = .int .i64 p ∧ Hid (PoSt Y wx b T s2)) (fun i _ => 8 - (intOf i).toNat)
            case atStart => exact ⟨0, by omega, rfl, HP2⟩
            case round =>
              clear HP2
              obtain ⟨p, hp, rfl, HPp⟩ := hrel
              have hbp := HPp.out.bel
              haveI iPp : IsBlk wr b (PlA T s2) 57 := ⟨HPp.out.p⟩
              have hblp : b < wr.heap.size := (Array.getElem?_eq_some_iff.1 HPp.out.p).1
              haveI : LeSize (b + 1) wr := ⟨hblp⟩
              by_cases hp8 : p < 8
              · have hpI : (p : Int) < 8 := by omega
                have HXc := plA_cn T s2 hp8
                have hcn1 := on_cnt HS2.out hp8
                generalize s2.cn p = cv at *
                have hcvI : ¬ ((1 : Int) < cv) := by omega
                go_wp2
                go_loopw [9] (fun i wx => ∃ q : Nat, q ≤ p ∧ i = .int .i64 q ∧ Hid (PoSt Y wx b T s2)) (fun i _ => p - (intOf i).toNat)
                case atStart => exact ⟨0, by omega, rfl, HPp⟩
                case round =>
                  clear HPp hbp iPp hblp HXc
                  obtain ⟨q, hq, rfl, HPq⟩ := hrel
                  have hbq := HPq.out.bel
                  haveI iPq : IsBlk wr b (PlA T s2) 57 := ⟨HPq.out.p⟩
                  have hblq : b < wr.heap.size := (Array.getElem?_eq_some_iff.1 HPq.out.p).1
                  haveI : LeSize (b + 1) wr := ⟨hblq⟩
                  have hbwq : Below w.heap.size w wr := hbY.trans (hbq.mono (by omega))
                  haveI : LeSize w.heap.size wr := ⟨hbwq.size⟩
                  by_cases hqp : q < p
                  · have hqI : (q : Int) < p := by omega
                    have HCL : Hid (∀ w', Below wr.heap.size wr w' → Calls Try.prog 15 #[.agg T, .int .i64 p, .int .i64 q] w' fun e w'' => e = .returned (.bool (clashM (tabM z0) p q)) ∧ Below w'.heap.size w' w'') := Lib.hid fun w' hb => clash_any T (tabM z0) p q w' (HTB.out w' ((HBY.out.trans hbq).trans (hb.mono (by omega)))) hp8 (by omega)
                    have HRE : Hid (∀ w', Calls Try.prog 16 #[.agg (runsA s2.rn)] w' fun e w'' => e = .returned (.int .i64 (rdsN s2.rn 8)) ∧ Below w'.heap.size w' w'') := Lib.hid fun w' => rref_reds _ _ w' (runsA_runs _)
                    have HNE : Hid (clashM (tabM z0) p q = true → (bits .and .i64 (rdsN s2.rn 8) (bits .or .i64 (wrap64 (2 ^ p)) (wrap64 (2 ^ q))) == 0) = false) := Lib.hid fun h => by
                      rw [wrap_pow hp8, wrap_pow (show q < 8 by omega)]
                      exact reds_ne hp8 (by omega) (by
                      unfold clashM at h
                      rw [Bool.or_eq_true] at h
                      refine HS2.out.two p q hp8 (by omega) (by omega) ?_
                      rcases h with h | h
                      · exact h
                      · rw [tab_sym z0 p q hp8 (by omega)]; exact h)
                    have HFIN : Hid (∀ w', Below wr.heap.size wr w' → PoSt Y w' b T s2) := Lib.hid fun w' hb => HPq.out.below hb
                    generalize rdsN s2.rn 8 = rd at *
                    cases hcl : clashM (tabM z0) p q
                    · rw [hcl] at HCL
                      clear hcl HNE HRE
                      go_wp2_with (first | (refine l_lpT rfl rfl rfl ?_; go_simp) | (go_at_call 15; refine (Up.run (HCL.out _ (by (repeat' (first | (with_reducible exact Below.refl _ _) | (with_reducible assumption) | (with_reducible refine Below.setCell ?_ ?_ _) | (with_reducible refine Below.alloc ?_ ?_ _) | (with_reducible refine Below.drew ?_) | (with_reducible refine Up.base _ ?_ ?_) | (with_reducible exact LeSize.out) | exact LeSize.out | exact Nat.le_add_right_of_le LeSize.out | exact Nat.le_add_right_of_le (Nat.le_add_right_of_le LeSize.out) | (with_reducible exact Nat.le_refl _) | (simp; done) | (simp; omega)))))).mono ?_; rintro e w' ⟨rfl, ucl, rfl⟩))
                      go_roundw
                      case rel => exact ⟨q + 1, by omega, by go_num, Lib.hid (HFIN.out _ (by (repeat' (first | (with_reducible exact Below.refl _ _) | (with_reducible assumption) | (with_reducible refine Below.setCell ?_ ?_ _) | (with_reducible refine Below.alloc ?_ ?_ _) | (with_reducible refine Below.drew ?_) | (with_reducible refine Up.base _ ?_ ?_) | (with_reducible exact LeSize.out) | exact LeSize.out | exact Nat.le_add_right_of_le LeSize.out | exact Nat.le_add_right_of_le (Nat.le_add_right_of_le LeSize.out) | (with_reducible exact Nat.le_refl _) | (simp; done) | (simp; omega)))))⟩
                      case measure => simp [intOf]; omega
                    · have hne := HNE.out hcl
                      rw [hcl] at HCL
                      clear hcl HNE
                      go_wp2_with (first | (refine l_lpT rfl rfl rfl ?_; go_simp) | (refine wpList_load_want rfl rfl rfl load_pU ?_; go_simp) | (go_at_call 15; refine (Up.run (HCL.out _ (by (repeat' (first | (with_reducible exact Below.refl _ _) | (with_reducible assumption) | (with_reducible refine Below.setCell ?_ ?_ _) | (with_reducible refine Below.alloc ?_ ?_ _) | (with_reducible refine Below.drew ?_) | (with_reducible refine Up.base _ ?_ ?_) | (with_reducible exact LeSize.out) | exact LeSize.out | exact Nat.le_add_right_of_le LeSize.out | exact Nat.le_add_right_of_le (Nat.le_add_right_of_le LeSize.out) | (with_reducible exact Nat.le_refl _) | (simp; done) | (simp; omega)))))).mono ?_; rintro e w' ⟨rfl, ucl, rfl⟩) | (go_at_call 16; refine (Up.run (HRE.out _)).mono ?_; rintro e w' ⟨rfl, ure, rfl⟩))
                      go_roundw
                      case rel => exact ⟨q + 1, by omega, by go_num, Lib.hid (HFIN.out _ (by (repeat' (first | (with_reducible exact Below.refl _ _) | (with_reducible assumption) | (with_reducible refine Below.setCell ?_ ?_ _) | (with_reducible refine Below.alloc ?_ ?_ _) | (with_reducible refine Below.drew ?_) | (with_reducible refine Up.base _ ?_ ?_) | (with_reducible exact LeSize.out) | exact LeSize.out | exact Nat.le_add_right_of_le LeSize.out | exact Nat.le_add_right_of_le (Nat.le_add_right_of_le LeSize.out) | (with_reducible exact Nat.le_refl _) | (simp; done) | (simp; omega)))))⟩
                      case measure => simp [intOf]; omega
                  · have hqI : ¬ ((q : Int) < p) := by omega
                    go_wp2
                    go_roundw
                    case rel => exact ⟨p + 1, by omega, by go_num, HPq⟩
                    case measure => simp [intOf]; omega
              · have hpI : ¬ ((p : Int) < 8) := by omega
                have hcr2 : 0 ≤ s2.cr ∧ s2.cr ≤ (j : Int) + 1 := by
                  have h1 := HC2.out
                  have h2 := HC1.out
                  have h3 := HCO.out
                  have h4 := HCZ.out
                  omega
                have HFR : Hid (PoSt Y wr b T s2 ∧ OnIn (tabM z0) s2 ∧ 0 ≤ s2.cr ∧ s2.cr ≤ ((j + 1 : Nat) : Int)) := Lib.hid ⟨HPp.out, HS2.out, hcr2.1, by omega⟩
                clear hcr2
                go_wp2
                go_roundw
                case rel => exact ⟨j + 1, by omega, by go_num, s2, HFR⟩
                case measure => simp [intOf]; omega
      · have hjI : ¬ ((j : Int) < 10 * (z1.length : Int)) := by omega
        go_wp2_with (go_at_call 10; refine (Up.run (awake19_any _)).mono ?_; rintro e w' ⟨rfl, u, rfl⟩)
        go_ret
        exact ⟨rfl, by (repeat' (first | (with_reducible exact Below.refl _ _) | (with_reducible assumption) | (with_reducible refine Below.setCell ?_ ?_ _) | (with_reducible refine Below.alloc ?_ ?_ _) | (with_reducible refine Below.drew ?_) | (with_reducible refine Up.base _ ?_ ?_) | (with_reducible exact LeSize.out) | exact LeSize.out | exact Nat.le_add_right_of_le LeSize.out | exact Nat.le_add_right_of_le (Nat.le_add_right_of_le LeSize.out) | (with_reducible exact Nat.le_refl _) | (simp; done) | (simp; omega)))⟩
set_option maxRecDepth 100000 in
theorem RingOnce_lifted (os : Os) (started : os.Started) (H : Type) (enc : TypeId × Value → H) :
    ReturnsInHanded {} Try.checked os 5 .any (Rows.ringOnceSpec.pre6 enc Try.prog Try.f5 Rows.ringOnceRow.domain false) (Rows.ringOnceSpec.post enc Try.prog Try.f5 false true false false) := by
  refine returnsInHanded_of_change (C := Try.checked) own started (by kernel_rfl) Try.func5
    (ChangeSpec.witness6 (enc := enc) (C := Try.checked) false ⟨#[], #[.slice none 0 0, .slice none 0 0], []⟩ 8 (by kernel_rfl) (by kernel_rfl) (by kernel_rfl) (by kernel_rfl)) ?_
  intro W base args ds gs before hval0 hW hcnd _
  have hval : ∀ (j : Nat) t v, Try.f5.params[j]? = some t → args[j]? = some v → Value.okWide Try.prog W .any base t v := hval0
  have hW' := hW
  obtain ⟨p, q, hA0, hV, rfl, hfz, hnd⟩ := hW
  have hA : DataW.TrodAll enc Try.prog W 0 (fun _ => true) true Try.f5.params.toList args.toList ds p := hA0
  rw [Try.params5] at hA hval
  obtain ⟨v0, vs0, d0, ds0, p0, q0, hargs, rfl, rfl, h0, r0⟩ := trodAll_cons hA
  obtain ⟨v1, vs1, d1, ds1, p1, q1, rfl, rfl, rfl, h1, r1⟩ := trodAll_cons r0
  obtain ⟨rfl, rfl, rfl⟩ := trodAll_nil r1
  obtain rfl : args = #[v0, v1] := by cases args; simp_all
  obtain ⟨rfl, rfl⟩ := trodVars_none hV
  have k0 := h0
  have lt0 : ∀ x ∈ p0, x.block < W.heap.size := by obtain ⟨m, hm⟩ := k0; exact DataW.trod_lt m _ _ _ hm
  have k1 := h1
  have lt1 : ∀ x ∈ p1, x.block < W.heap.size := by obtain ⟨m, hm⟩ := k1; exact DataW.trod_lt m _ _ _ hm
  obtain ⟨a0, cap0, z0, rfl, hl0, hm0, hh0, hr0, iz0⟩ := open_ints1 Try.underlying22 Try.underlying3 (by kernel_rfl) (hval 0 22 v0 rfl rfl) k0
  obtain ⟨a1, cap1, z1, rfl, hl1, hm1, hh1, hr1, iz1⟩ := open_ints1 Try.underlying22 Try.underlying3 (by kernel_rfl) (hval 1 22 v1 rfl rfl) k1
  clear hA0 hval0
  refine (ringOnce_walk a0 cap0 z0 a1 cap1 z1 W ⟨hl0, hm0⟩ hh0 hr0 iz0 ⟨hl1, hm1⟩ hh1 hr1 iz1).mono fun e W' ⟨he, bel⟩ => ?_
  subst he
  exact ⟨_, rfl, _, _, _, [], _, [], hW', trodAll_mk1 (shut_bool Try.underlying4 _), (trodAll_cons_mk (Below.trod laidOut (by kernel_rfl) (of_decide_eq_true (by kernel_rfl)) k0 bel lt0) (trodAll_cons_mk (Below.trod laidOut (by kernel_rfl) (of_decide_eq_true (by kernel_rfl)) k1 bel lt1) trodAll_mk0)), rfl, bel.frame _, fun h => by cases h⟩

theorem RingOnce_over : Rows.ringOnceRow.holds Try.pinned (OpenSpec.ofChange Rows.ringOnceSpec) :=
  OpenClaim.holds_of_wide 5 Try.f5 rfl rfl rfl rfl rfl rfl rfl ⟨rfl, rfl, rfl, rfl, rfl⟩ rfl rfl rfl rfl rfl (by kernel_rfl) Try.func5 (by kernel_rfl)
    (of_decide_eq_true (by kernel_rfl)) (by unfold Func.isWrapper; first | (rw [if_pos (by decide +kernel)]; kernel_rfl) | (rw [if_neg (by decide +kernel)]; exact ⟨rfl, rfl⟩))
    (fun os started H enc _ => RingOnce_lifted os started H enc)

/-- The given statement. -/
theorem RingOnce_holds : Rows.RingOnceSaid := RingOnce_over
#print axioms RingOnce_holds
end
end
end Go.Proofs.Ytbnbakienajhmaa
