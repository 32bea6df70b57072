/- The contracts of package plan: row, Members. -/
import Derived.Test.YtbnbakienajhmaaPlnA
import Derived.Test.YtbnbakienajhmaaTabR
namespace Go.Proofs.Ytbnbakienajhmaa
open Go.RowKit
set_option linter.unusedVariables false
attribute [local go_sem] IsBlk.cell IsBlk.frozen

/-! ### A row -/
set_option maxHeartbeats 8000000 in
set_option maxRecDepth 100000 in
theorem prow_ex (T : Array Value) (t : Tab) (g k : Int) (w : World) (hT : IsTab w T t) :
    ∃ a cap, Ints w a (rowZ t.gr g k) ∧ ∀ w', Below w.heap.size w w' → Calls Try.prog 62 #[.agg T, .int .i64 g, .int .i64 k] w' fun e w'' => e = .returned (.slice a (rowZ t.gr g k).length cap) ∧ Below w'.heap.size w' w'' := by
  obtain ⟨gv, d, r, b, hTe, hI⟩ := hT
  obtain ⟨ga, gcap, H, rfl, hrow, hints⟩ := hI.gr
  have t104 : T[104]? = some (.slice ga t.gr.length gcap) := by rw [hTe, arrF_get _ _ _ (by omega)]; rfl
  have lg := hI.lg
  clear hI hTe
  unfold rowZ
  by_cases h : 0 ≤ g ∧ g < t.gr.length ∧ 0 ≤ k ∧ k ≤ 1
  · rw [if_pos h]
    obtain ⟨n, rfl⟩ := Int.eq_ofNat_of_zero_le h.1
    obtain ⟨m, rfl⟩ := Int.eq_ofNat_of_zero_le h.2.2.1
    have hn : n < t.gr.length := by omega
    have hm : m < 2 := by omega
    simp only [Int.toNat_natCast]
    refine ⟨(H n m).1, (H n m).2, hints n hn m hm, fun w' hb => ?_⟩
    obtain ⟨gb, goff, rfl, hgb, hgc⟩ := hrow.resolve_left (by omega)
    have hck : w'.cell? ⟨gb, goff + n * 2 + m, none⟩ = some (.slice (H n m).1 (rowOf t.gr n m).length (H n m).2) := by
      rw [hb.cell (p := ⟨gb, goff + n * 2 + m, none⟩) hgb]; exact hgc n hn m hm
    haveI : LeSize (gb + 1) w' := ⟨Nat.le_trans hgb hb.size⟩
    have h1 : (n : Int) < t.gr.length := h.2.1
    have h2 : (m : Int) ≤ 1 := h.2.2.2
    have h3 : (m : Int) < 2 := by omega
    generalize rowOf t.gr n m = row at *
    generalize (H n m).1 = A at *
    generalize (H n m).2 = c at *
    clear hgc hrow hints h hb
    go_enter Try.func62, Try.ntmps62
    go_wp2
    go_ret
    exact ⟨rfl, by (repeat' (first | (with_reducible exact Below.refl _ _) | (with_reducible assumption) | (with_reducible refine Below.setCell ?_ ?_ _) | (with_reducible refine Below.alloc ?_ ?_ _) | (with_reducible refine Below.drew ?_) | (with_reducible refine Up.base _ ?_ ?_) | (with_reducible exact LeSize.out) | exact LeSize.out | exact Nat.le_add_right_of_le LeSize.out | exact Nat.le_add_right_of_le (Nat.le_add_right_of_le LeSize.out) | (with_reducible exact Nat.le_refl _) | (simp; done) | (simp; omega)))⟩
  · rw [if_neg h]
    refine ⟨none, 0, .inl rfl, fun w' hb => ?_⟩
    clear hrow hints hb
    rcases (show g < 0 ∨ (0 ≤ g ∧ (t.gr.length : Int) ≤ g) ∨ (0 ≤ g ∧ g < t.gr.length ∧ k < 0) ∨ (0 ≤ g ∧ g < t.gr.length ∧ 0 ≤ k ∧ 1 < k) by omega) with h1 | ⟨h1, h2⟩ | ⟨h1, h2, h3⟩ | ⟨h1, h2, h3, h4⟩
    all_goals
      clear h
      go_enter Try.func62, Try.ntmps62
      go_wp2
      go_ret
      exact ⟨rfl, by (repeat' (first | (with_reducible exact Below.refl _ _) | (with_reducible assumption) | (with_reducible refine Below.setCell ?_ ?_ _) | (with_reducible refine Below.alloc ?_ ?_ _) | (with_reducible refine Below.drew ?_) | (with_reducible refine Up.base _ ?_ ?_) | (with_reducible exact LeSize.out) | exact LeSize.out | exact Nat.le_add_right_of_le LeSize.out | exact Nat.le_add_right_of_le (Nat.le_add_right_of_le LeSize.out) | (with_reducible exact Nat.le_refl _) | (simp; done) | (simp; omega)))⟩
theorem rowZ_len {w : World} {T : Array Value} {t : Tab} (hT : IsTab w T t) (g k : Int) : (rowZ t.gr g k).length ≤ 8 := by
  obtain ⟨gv, d, r, b, hTe, hI⟩ := hT
  unfold rowZ
  split
  · exact hI.lr _ _
  · exact Nat.zero_le _
/-! ### Members -/
set_option maxHeartbeats 8000000 in
set_option maxRecDepth 100000 in
theorem pmem_any (T : Array Value) (t : Tab) (g : Int) (w : World) (hT : IsTab w T t) :
    Calls Try.prog 76 #[.agg T, .int .i64 g] w fun e w' => e = .returned (.int .i64 (memZ t.gr g)) ∧ Below w.heap.size w w' := by
  haveI : Sz131 T := ⟨hT.size⟩
  obtain ⟨a0, c0, hi0, hr0⟩ := prow_ex T t g 0 w hT
  obtain ⟨a1, c1, hi1, hr1⟩ := prow_ex T t g 1 w hT
  have hl0 := rowZ_len hT g 0
  have hl1 := rowZ_len hT g 1
  unfold memZ
  generalize rowZ t.gr g 0 = z0 at *
  generalize rowZ t.gr g 1 = z1 at *
  have HI0 : Hid (∀ w', Below w.heap.size w w' → Ints w' a0 z0) := Lib.hid fun w' hb => Row1.below hi0 hb (Nat.le_refl _)
  have HI1 : Hid (∀ w', Below w.heap.size w w' → Ints w' a1 z1) := Lib.hid fun w' hb => Row1.below hi1 hb (Nat.le_refl _)
  have HL0 : Hid (z0.length ≤ 1000) := Lib.hid (by omega)
  have HL1 : Hid (z1.length ≤ 1000) := Lib.hid (by omega)
  have HR0 := Lib.hid hr0
  have HR1 := Lib.hid hr1
  clear hT hi0 hi1 hr0 hr1 hl0 hl1
  go_enter Try.func76, Try.ntmps76
  go_wp2
  (refine wp_region_up (by kernel_rfl) (by kernel_rfl) ?_; (repeat (first | (go_big_quiet_want; refine q_ltab rfl rfl ?_; simp only [Act.put, List.setIfInBounds_toArray, List.set_cons_succ, List.set_cons_zero]; go_big_quiet_on) | go_big_quiet_step ((first | (go_at_call 62; (with_reducible refine Up.calls (HR0.out _ ?_)); (repeat' (first | (with_reducible exact Below.refl _ _) | (with_reducible assumption) | (with_reducible refine Below.setCell ?_ ?_ _) | (with_reducible refine Below.alloc ?_ ?_ _) | (with_reducible refine Below.drew ?_) | (with_reducible refine Up.base _ ?_ ?_) | (with_reducible exact LeSize.out) | exact LeSize.out | exact Nat.le_add_right_of_le LeSize.out | exact Nat.le_add_right_of_le (Nat.le_add_right_of_le LeSize.out) | (with_reducible exact Nat.le_refl _) | (simp; done) | (simp; omega)))) | (go_at_call 62; (with_reducible refine Up.calls (HR1.out _ ?_)); (repeat' (first | (with_reducible exact Below.refl _ _) | (with_reducible assumption) | (with_reducible refine Below.setCell ?_ ?_ _) | (with_reducible refine Below.alloc ?_ ?_ _) | (with_reducible refine Below.drew ?_) | (with_reducible refine Up.base _ ?_ ?_) | (with_reducible exact LeSize.out) | exact LeSize.out | exact Nat.le_add_right_of_le LeSize.out | exact Nat.le_add_right_of_le (Nat.le_add_right_of_le LeSize.out) | (with_reducible exact Nat.le_refl _) | (simp; done) | (simp; omega)))) | (go_at_call 58; (with_reducible refine Up.pure (sof_any _ _ _ _ HL0.out (HI0.out _ ?_))); (repeat' (first | (with_reducible exact Below.refl _ _) | (with_reducible assumption) | (with_reducible refine Below.setCell ?_ ?_ _) | (with_reducible refine Below.alloc ?_ ?_ _) | (with_reducible refine Below.drew ?_) | (with_reducible refine Up.base _ ?_ ?_) | (with_reducible exact LeSize.out) | exact LeSize.out | exact Nat.le_add_right_of_le LeSize.out | exact Nat.le_add_right_of_le (Nat.le_add_right_of_le LeSize.out) | (with_reducible exact Nat.le_refl _) | (simp; done) | (simp; omega)))) | (go_at_call 58; (with_reducible refine Up.pure (sof_any _ _ _ _ HL1.out (HI1.out _ ?_))); (repeat' (first | (with_reducible exact Below.refl _ _) | (with_reducible assumption) | (with_reducible refine Below.setCell ?_ ?_ _) | (with_reducible refine Below.alloc ?_ ?_ _) | (with_reducible refine Below.drew ?_) | (with_reducible refine Up.base _ ?_ ?_) | (with_reducible exact LeSize.out) | exact LeSize.out | exact Nat.le_add_right_of_le LeSize.out | exact Nat.le_add_right_of_le (Nat.le_add_right_of_le LeSize.out) | (with_reducible exact Nat.le_refl _) | (simp; done) | (simp; omega)))) | fail)))); refine wpQuiet_nil ?_; rintro _ ⟨u, rfl⟩)
  go_wp2
  go_ret
  exact ⟨rfl, by (repeat' (first | (with_reducible exact Below.refl _ _) | (with_reducible assumption) | (with_reducible refine Below.setCell ?_ ?_ _) | (with_reducible refine Below.alloc ?_ ?_ _) | (with_reducible refine Below.drew ?_) | (with_reducible refine Up.base _ ?_ ?_) | (with_reducible exact LeSize.out) | exact LeSize.out | exact Nat.le_add_right_of_le LeSize.out | exact Nat.le_add_right_of_le (Nat.le_add_right_of_le LeSize.out) | (with_reducible exact Nat.le_refl _) | (simp; done) | (simp; omega)))⟩
end Go.Proofs.Ytbnbakienajhmaa
