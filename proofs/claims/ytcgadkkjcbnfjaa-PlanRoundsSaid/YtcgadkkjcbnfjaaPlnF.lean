/- 'awake' of package plan's laws. -/
import Derived.Test.YtcgadkkjcbnfjaaPlnC
import Derived.Test.YtcgadkkjcbnfjaaPlnD
import Derived.Test.YtcgadkkjcbnfjaaPlnE
namespace Go.Proofs.Ytcgadkkjcbnfjaa
open Go.RowKit
set_option linter.unusedVariables false
attribute [local go_sem] IsBlk.cell IsBlk.frozen

def TabG (a : Option Addr) (n c : Nat) : Array Value := TabZero.setIfInBounds 104 (.slice a n c)
theorem tabG_size (a : Option Addr) (n c : Nat) : (TabG a n c).size = 131 := by unfold TabG; rw [Array.size_setIfInBounds]; rfl
theorem tabG_one (a : Option Addr) (n c : Nat) : (TabG a n c).all (·.oneCell') = true := by kernel_rfl
theorem wpList_build_tab {ops : Array Oper} {rest : List Oper} {op : Oper} {a : Act} {w : World} {Q : Exit → Act → World → Prop} {x : Operand} {ad : Option Addr} {n c : Nat} (hgd : op.guard = none) (ho : op.op = .build 32 #[(1, x)])
    (hx : a.eval x = .slice ad n c) (h : wpList Try.prog ops Q rest (a.put op.dst (.agg (TabG ad n c))) w) : wpList Try.prog ops Q (op :: rest) a w := by
  have e : Sem.run Try.prog (execOp a.eval op) w = .ok (.value (.agg (TabG ad n c))) w := by
    unfold execOp
    simp only [ho, List.map_toArray, List.map_cons, List.map_nil, hx]
    kernel_rfl
  refine wpList_plain hgd fun _ hK => ?_
  unfold Oper.wp
  rw [e]
  exact hK _ _ h
def t51 : Tab := ⟨fun _ => ph0, [([0, 1], [4, 5])], fun _ => 0, [], [], [], 0, 0, 0, 0, 0, fun _ => 0, 0, 0⟩
theorem tabG_is (a : Option Addr) (n c : Nat) : TabG a n c = arrF 131 (tabAt t51 (.slice a n c) (.slice none 0 0) (.slice none 0 0) (.slice none 0 0)) := by kernel_rfl
theorem t51_row (i j : Nat) : (rowOf t51.gr i j).length ≤ 8 := by
  unfold rowOf t51
  rcases i with _ | i
  · simp only [List.getElem?_cons_zero]; split <;> simp
  · simp
set_option maxHeartbeats 8000000 in
set_option maxRecDepth 100000 in
theorem awake8_any (w : World) : Calls Try.prog 10 #[] w fun e w' => e = .returned (.bool true) ∧ Below w.heap.size w w' := by
  have hz := zeroTab
  go_enter Try.func10, Try.ntmps10
  go_upto_region 2 with (first | (refine wpList_build_tab rfl rfl rfl ?_; go_simp) | (refine wpList_store_newT (T := TabG _ _ _) 32 rfl rfl rfl rfl inferInstance (by rw [tabG_size]; rfl) (by rw [tabG_size]; exact info_tab) (tabG_one _ _ _) ?_; go_simp))
  have i0 : IsBlk ((((w.alloc (.cells #[.int .i64 0, .int .i64 1] 3)).alloc (.cells #[.int .i64 4, .int .i64 5] 3)).alloc (.cells #[.slice (some ⟨w.heap.size, 0, none⟩) 2 2, .slice (some ⟨w.heap.size + 1, 0, none⟩) 2 2] 35)).alloc (.cells (TabG (some ⟨w.heap.size + 1 + 1, 0, none⟩) 1 1) 32)) w.heap.size #[.int .i64 0, .int .i64 1] 3 := inferInstance
  have i1 : IsBlk ((((w.alloc (.cells #[.int .i64 0, .int .i64 1] 3)).alloc (.cells #[.int .i64 4, .int .i64 5] 3)).alloc (.cells #[.slice (some ⟨w.heap.size, 0, none⟩) 2 2, .slice (some ⟨w.heap.size + 1, 0, none⟩) 2 2] 35)).alloc (.cells (TabG (some ⟨w.heap.size + 1 + 1, 0, none⟩) 1 1) 32)) (w.heap.size + 1) #[.int .i64 4, .int .i64 5] 3 := inferInstance
  have i2 : IsBlk ((((w.alloc (.cells #[.int .i64 0, .int .i64 1] 3)).alloc (.cells #[.int .i64 4, .int .i64 5] 3)).alloc (.cells #[.slice (some ⟨w.heap.size, 0, none⟩) 2 2, .slice (some ⟨w.heap.size + 1, 0, none⟩) 2 2] 35)).alloc (.cells (TabG (some ⟨w.heap.size + 1 + 1, 0, none⟩) 1 1) 32)) (w.heap.size + 1 + 1) #[.slice (some ⟨w.heap.size, 0, none⟩) 2 2, .slice (some ⟨w.heap.size + 1, 0, none⟩) 2 2] 35 := inferInstance
  have i3 : IsBlk ((((w.alloc (.cells #[.int .i64 0, .int .i64 1] 3)).alloc (.cells #[.int .i64 4, .int .i64 5] 3)).alloc (.cells #[.slice (some ⟨w.heap.size, 0, none⟩) 2 2, .slice (some ⟨w.heap.size + 1, 0, none⟩) 2 2] 35)).alloc (.cells (TabG (some ⟨w.heap.size + 1 + 1, 0, none⟩) 1 1) 32)) (w.heap.size + 1 + 1 + 1) (TabG (some ⟨w.heap.size + 1 + 1, 0, none⟩) 1 1) 32 := inferInstance
  have hbw : Below w.heap.size w ((((w.alloc (.cells #[.int .i64 0, .int .i64 1] 3)).alloc (.cells #[.int .i64 4, .int .i64 5] 3)).alloc (.cells #[.slice (some ⟨w.heap.size, 0, none⟩) 2 2, .slice (some ⟨w.heap.size + 1, 0, none⟩) 2 2] 35)).alloc (.cells (TabG (some ⟨w.heap.size + 1 + 1, 0, none⟩) 1 1) 32)) := by (repeat' (first | (with_reducible exact Below.refl _ _) | (with_reducible assumption) | (with_reducible refine Below.setCell ?_ ?_ _) | (with_reducible refine Below.alloc ?_ ?_ _) | (with_reducible refine Below.drew ?_) | (with_reducible refine Up.base _ ?_ ?_) | (with_reducible exact LeSize.out) | exact LeSize.out | exact Nat.le_add_right_of_le LeSize.out | exact Nat.le_add_right_of_le (Nat.le_add_right_of_le LeSize.out) | (with_reducible exact Nat.le_refl _) | (simp; done) | (simp; omega)))
  generalize ((((w.alloc (.cells #[.int .i64 0, .int .i64 1] 3)).alloc (.cells #[.int .i64 4, .int .i64 5] 3)).alloc (.cells #[.slice (some ⟨w.heap.size, 0, none⟩) 2 2, .slice (some ⟨w.heap.size + 1, 0, none⟩) 2 2] 35)).alloc (.cells (TabG (some ⟨w.heap.size + 1 + 1, 0, none⟩) 1 1) 32)) = W at *
  have hT : IsTab W (TabG (some ⟨w.heap.size + 1 + 1, 0, none⟩) 1 1) t51 := by
    refine ⟨_, _, _, _, tabG_is _ _ _, ⟨⟨some ⟨w.heap.size + 1 + 1, 0, none⟩, 1, fun i j => (some ⟨if j = 0 then w.heap.size else w.heap.size + 1, 0, none⟩, 2), rfl, .inr ⟨w.heap.size + 1 + 1, 0, rfl, i2.le.out, fun i hi j hj => ?_⟩, fun i hi j hj => ?_⟩, ⟨none, 0, rfl, .inl rfl⟩, ⟨none, 0, rfl, .inl rfl⟩, ⟨none, 0, rfl, .inl rfl⟩, by decide, t51_row, by decide, by decide, by decide⟩⟩
    · have hi' : i = 0 := by have : i < 1 := hi; omega
      subst hi'
      rcases (show j = 0 ∨ j = 1 by omega) with rfl | rfl
      · exact laid_cell i2.out _ rfl
      · exact laid_cell i2.out _ rfl
    · have hi' : i = 0 := by have : i < 1 := hi; omega
      subst hi'
      rcases (show j = 0 ∨ j = 1 by omega) with rfl | rfl
      · refine .inr ⟨w.heap.size, 0, rfl, i0.le.out, fun q hq => ?_⟩
        have hq2 : q < 2 := hq
        rcases (show q = 0 ∨ q = 1 by omega) with rfl | rfl
        · exact laid_cell i0.out _ rfl
        · exact laid_cell i0.out _ rfl
      · refine .inr ⟨w.heap.size + 1, 0, rfl, i1.le.out, fun q hq => ?_⟩
        have hq2 : q < 2 := hq
        rcases (show q = 0 ∨ q = 1 by omega) with rfl | rfl
        · exact laid_cell i1.out _ rfl
        · exact laid_cell i1.out _ rfl
  haveI : Sz131 (TabG (some ⟨w.heap.size + 1 + 1, 0, none⟩) 1 1) := ⟨tabG_size _ _ _⟩
  generalize (TabG (some ⟨w.heap.size + 1 + 1, 0, none⟩) 1 1) = T at *
  have hWs := hbw.size
  have HB1 : Hid (∀ w', Below W.heap.size W w' → Calls Try.prog 12 #[.agg T, .int .i64 0, .int .i64 5] w' fun e w'' => e = .returned (.bool true) ∧ Below w'.heap.size w' w'') := Lib.hid fun w' hb => pbeside_any T t51 0 5 w' (hT.below hb (Nat.le_refl _))
  have HB2 : Hid (∀ w', Below W.heap.size W w' → Calls Try.prog 12 #[.agg T, .int .i64 0, .int .i64 1] w' fun e w'' => e = .returned (.bool false) ∧ Below w'.heap.size w' w'') := Lib.hid fun w' hb => pbeside_any T t51 0 1 w' (hT.below hb (Nat.le_refl _))
  have HM : Hid (∀ w', Below W.heap.size W w' → Calls Try.prog 14 #[.agg T, .int .i64 0] w' fun e w'' => e = .returned (.int .i64 51) ∧ Below w'.heap.size w' w'') := Lib.hid fun w' hb => by
    have := pmem_any T t51 0 w' (hT.below hb (Nat.le_refl _))
    rwa [show memZ t51.gr 0 = 51 by decide +kernel] at this
  have HN : Hid (∀ w', Below W.heap.size W w' → Calls Try.prog 9 #[.agg T, .int .i64 0, .int .i64 0, .int .i64 (-1), .int .i64 2] w' fun e w'' => e = .returned (.int .i64 1) ∧ Below w'.heap.size w' w'') := Lib.hid fun w' hb => by
    have := pnext_any T t51 0 0 (-1) 2 w' (hT.below hb (Nat.le_refl _))
    rwa [show nextZ (rowZ t51.gr 0 0) 2 (-1) = 1 by decide +kernel] at this
  clear hT i0 i1 i2
  haveI : LeSize w.heap.size W := ⟨hWs⟩
  go_wp2_with (first
    | (refine l_ltab rfl rfl rfl ?_; go_simp) | (refine g_ltab rfl rfl rfl ?_; go_simp)
    | (go_at_call 14; refine (Up.run (HM.out _ (by (repeat' (first | (with_reducible exact Below.refl _ _) | (with_reducible assumption) | (with_reducible refine Below.setCell ?_ ?_ _) | (with_reducible refine Below.alloc ?_ ?_ _) | (with_reducible refine Below.drew ?_) | (with_reducible refine Up.base _ ?_ ?_) | (with_reducible exact LeSize.out) | exact LeSize.out | exact Nat.le_add_right_of_le LeSize.out | exact Nat.le_add_right_of_le (Nat.le_add_right_of_le LeSize.out) | (with_reducible exact Nat.le_refl _) | (simp; done) | (simp; omega)))))).mono ?_; rintro e w' ⟨rfl, um, rfl⟩)
    | (go_at_call 9; refine (Up.run (HN.out _ (by (repeat' (first | (with_reducible exact Below.refl _ _) | (with_reducible assumption) | (with_reducible refine Below.setCell ?_ ?_ _) | (with_reducible refine Below.alloc ?_ ?_ _) | (with_reducible refine Below.drew ?_) | (with_reducible refine Up.base _ ?_ ?_) | (with_reducible exact LeSize.out) | exact LeSize.out | exact Nat.le_add_right_of_le LeSize.out | exact Nat.le_add_right_of_le (Nat.le_add_right_of_le LeSize.out) | (with_reducible exact Nat.le_refl _) | (simp; done) | (simp; omega)))))).mono ?_; rintro e w' ⟨rfl, un, rfl⟩)
    | (go_at_call 12; (with_reducible refine (Up.run (HB1.out _ ?_)).mono ?_); (focus (repeat' (first | (with_reducible exact Below.refl _ _) | (with_reducible assumption) | (with_reducible refine Below.setCell ?_ ?_ _) | (with_reducible refine Below.alloc ?_ ?_ _) | (with_reducible refine Below.drew ?_) | (with_reducible refine Up.base _ ?_ ?_) | (with_reducible exact LeSize.out) | exact LeSize.out | exact Nat.le_add_right_of_le LeSize.out | exact Nat.le_add_right_of_le (Nat.le_add_right_of_le LeSize.out) | (with_reducible exact Nat.le_refl _) | (simp; done) | (simp; omega)))); rintro e w' ⟨rfl, ub, rfl⟩)
    | (go_at_call 12; (with_reducible refine (Up.run (HB2.out _ ?_)).mono ?_); (focus (repeat' (first | (with_reducible exact Below.refl _ _) | (with_reducible assumption) | (with_reducible refine Below.setCell ?_ ?_ _) | (with_reducible refine Below.alloc ?_ ?_ _) | (with_reducible refine Below.drew ?_) | (with_reducible refine Up.base _ ?_ ?_) | (with_reducible exact LeSize.out) | exact LeSize.out | exact Nat.le_add_right_of_le LeSize.out | exact Nat.le_add_right_of_le (Nat.le_add_right_of_le LeSize.out) | (with_reducible exact Nat.le_refl _) | (simp; done) | (simp; omega)))); rintro e w' ⟨rfl, ub2, rfl⟩))
  go_ret
  exact ⟨rfl, by (repeat' (first | (with_reducible exact Below.refl _ _) | (with_reducible assumption) | (with_reducible refine Below.setCell ?_ ?_ _) | (with_reducible refine Below.alloc ?_ ?_ _) | (with_reducible refine Below.drew ?_) | (with_reducible refine Up.base _ ?_ ?_) | (with_reducible exact LeSize.out) | exact LeSize.out | exact Nat.le_add_right_of_le LeSize.out | exact Nat.le_add_right_of_le (Nat.le_add_right_of_le LeSize.out) | (with_reducible exact Nat.le_refl _) | (simp; done) | (simp; omega)))⟩
end Go.Proofs.Ytcgadkkjcbnfjaa
