/- The contract of package plan: Next. -/
import Derived.Test.YtbnbakienajhmaaPlnK
namespace Go.Proofs.Ytbnbakienajhmaa
open Go.RowKit
set_option linter.unusedVariables false
attribute [local go_sem] IsBlk.cell IsBlk.frozen

/-! ### Next -/
theorem nextZ_hit {r : List Int} {want a : Int} {n : Nat} (hN : nextN r want a n = -1) (hn : n < r.length) (ha : a < n) (hh : hasM want (r.getD n 0) = true) : nextZ r want a = n := by
  unfold nextZ
  have e1 : nextN r want a (n + 1) = n := by unfold nextN; rw [if_pos ⟨hN, ha, hh⟩]
  rw [show r.length = (n + 1) + (r.length - (n + 1)) by omega, nextN_keep (by rw [e1]; omega), e1]
theorem nextN_miss {r : List Int} {want a : Int} {n : Nat} (hN : nextN r want a n = -1) (h : ¬ (a < n) ∨ hasM want (r.getD n 0) = false) : nextN r want a (n + 1) = -1 := by
  unfold nextN
  rw [if_neg, hN]
  rintro ⟨_, h1, h2⟩
  rcases h with h | h
  · exact h h1
  · rw [h] at h2; cases h2
set_option maxHeartbeats 8000000 in
set_option maxRecDepth 100000 in
theorem pnext_any (T : Array Value) (t : Tab) (g k a want : Int) (w : World) (hT : IsTab w T t) :
    Calls Try.prog 38 #[.agg T, .int .i64 g, .int .i64 k, .int .i64 a, .int .i64 want] w fun e w' => e = .returned (.int .i64 (nextZ (rowZ t.gr g k) want a)) ∧ Below w.heap.size w w' := by
  haveI : Sz131 T := ⟨hT.size⟩
  obtain ⟨a0, c0, hi0, hr0⟩ := prow_ex T t g k w hT
  have hl0 := rowZ_len hT g k
  generalize rowZ t.gr g k = r at *
  have HR0 := Lib.hid hr0
  have HI := Lib.hid hi0
  clear hT hr0 hi0
  go_enter Try.func38, Try.ntmps38
  go_wp2_with (first | (refine l_ltab rfl rfl rfl ?_; go_simp) | (go_at_call 62; refine (Up.run (HR0.out _ (by (repeat' (first | (with_reducible exact Below.refl _ _) | (with_reducible assumption) | (with_reducible refine Below.setCell ?_ ?_ _) | (with_reducible refine Below.alloc ?_ ?_ _) | (with_reducible refine Below.drew ?_) | (with_reducible refine Up.base _ ?_ ?_) | (with_reducible exact LeSize.out) | exact LeSize.out | exact Nat.le_add_right_of_le LeSize.out | exact Nat.le_add_right_of_le (Nat.le_add_right_of_le LeSize.out) | (with_reducible exact Nat.le_refl _) | (simp; done) | (simp; omega)))))).mono ?_; rintro e w' ⟨rfl, ur, rfl⟩))
  go_loopw [18] (fun i wr => ∃ n : Nat, n ≤ r.length ∧ i = .int .i64 n ∧ Hid (nextN r want a n = -1) ∧ wr = ur.w) (fun i _ => r.length - (intOf i).toNat)
  case atStart => exact ⟨0, Nat.zero_le _, rfl, Lib.hid rfl, rfl⟩
  case round =>
    obtain ⟨n, hn, rfl, hN, rfl⟩ := hrel
    by_cases hlt : n < r.length
    · obtain ⟨rb, roff, rfl, hrb, hrc⟩ := HI.out.cell (by omega)
      haveI : LeSize (rb + 1) w := ⟨hrb⟩
      have hcell := hrc n hlt
      clear hrc
      cases hh : hasM want (r.getD n 0)
      · have HN : Hid (nextN r want a (n + 1) = -1) := Lib.hid (nextN_miss hN.out (.inr hh))
        generalize r.getD n 0 = x at *
        by_cases ha : a < n
        all_goals
          go_wp2_with (go_at_call 41; refine (shas_any _ _ _).mono ?_; rintro e w' ⟨rfl, rfl⟩)
          go_roundw
          case rel => exact ⟨n + 1, by omega, by go_num, HN, trivial⟩
          case measure => simp [intOf]; omega
      · by_cases ha : a < n
        · have HN := Lib.hid (nextZ_hit hN.out hlt ha hh)
          generalize r.getD n 0 = x at *
          go_wp2_with (go_at_call 41; refine (shas_any _ _ _).mono ?_; rintro e w' ⟨rfl, rfl⟩)
          go_ret
          exact ⟨ret_int HN.out.symm, by (repeat' (first | (with_reducible exact Below.refl _ _) | (with_reducible assumption) | (with_reducible refine Below.setCell ?_ ?_ _) | (with_reducible refine Below.alloc ?_ ?_ _) | (with_reducible refine Below.drew ?_) | (with_reducible refine Up.base _ ?_ ?_) | (with_reducible exact LeSize.out) | exact LeSize.out | exact Nat.le_add_right_of_le LeSize.out | exact Nat.le_add_right_of_le (Nat.le_add_right_of_le LeSize.out) | (with_reducible exact Nat.le_refl _) | (simp; done) | (simp; omega)))⟩
        · have HN : Hid (nextN r want a (n + 1) = -1) := Lib.hid (nextN_miss hN.out (.inl ha))
          generalize r.getD n 0 = x at *
          go_wp2_with (go_at_call 41; refine (shas_any _ _ _).mono ?_; rintro e w' ⟨rfl, rfl⟩)
          go_roundw
          case rel => exact ⟨n + 1, by omega, by go_num, HN, trivial⟩
          case measure => simp [intOf]; omega
    · obtain rfl : n = r.length := by omega
      go_wp2
      go_ret
      exact ⟨ret_int hN.out.symm, by (repeat' (first | (with_reducible exact Below.refl _ _) | (with_reducible assumption) | (with_reducible refine Below.setCell ?_ ?_ _) | (with_reducible refine Below.alloc ?_ ?_ _) | (with_reducible refine Below.drew ?_) | (with_reducible refine Up.base _ ?_ ?_) | (with_reducible exact LeSize.out) | exact LeSize.out | exact Nat.le_add_right_of_le LeSize.out | exact Nat.le_add_right_of_le (Nat.le_add_right_of_le LeSize.out) | (with_reducible exact Nat.le_refl _) | (simp; done) | (simp; omega)))⟩
end Go.Proofs.Ytbnbakienajhmaa
