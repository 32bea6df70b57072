/- The contracts of the table's numbers: At, from, phase. -/
import Derived.Test.YtbnbakienajhmaaTabB
import Derived.Test.YtbnbakienajhmaaTabM
import Derived.Test.YtbnbakienajhmaaPlace
namespace Go.Proofs.Ytbnbakienajhmaa
open Go.RowKit
set_option linter.unusedVariables false

def atI (zs : List Int) (i : Int) : Int := if i < 0 then 0 else zs.getD i.toNat 0
def frI (zs : List Int) (i n : Int) : Int := atI zs i % n
theorem frI_nat (zs : List Int) (k : Nat) (n : Int) : frI zs k n = fr zs k n := by unfold frI atI fr; rw [if_neg (by omega)]; rfl
theorem frI_of (zs : List Int) (i : Int) (k : Nat) (n : Int) (h : i = k) : frI zs i n = fr zs k n := by rw [h, frI_nat]
theorem frI_bd (zs : List Int) (i : Int) {n : Int} (hn : 1 ≤ n) : 0 ≤ frI zs i n ∧ frI zs i n < n := ⟨Int.emod_nonneg _ (by omega), Int.emod_lt_of_pos _ (by omega)⟩
set_option maxHeartbeats 1000000 in
theorem lat_any (a : Option Addr) (cap : Nat) (zs : List Int) (i : Int) (w : World) (hl : zs.length ≤ 9223372036854775807) (hi : Ints w a zs) :
    Calls Try.prog 54 #[.slice a zs.length cap, .int .i64 i] w fun e w' => e = .returned (.int .i64 (atI zs i)) ∧ w = w' := by
  by_cases h0 : i < 0
  · go_enter Try.func54, Try.ntmps54
    go_wp2
    go_ret
    exact ⟨ret_int (by unfold atI; rw [if_pos h0]), rfl⟩
  · by_cases h1 : i < zs.length
    · obtain ⟨b, off, rfl, hb, hc⟩ := hi.cell (by omega)
      obtain ⟨k, rfl⟩ := Int.eq_ofNat_of_zero_le (show 0 ≤ i by omega)
      have hcell := hc k (by omega)
      clear hc hi
      go_enter Try.func54, Try.ntmps54
      go_wp2
      go_ret
      exact ⟨ret_int (by unfold atI; rw [if_neg (by omega)]; simp), rfl⟩
    · have h2 : (zs.length : Int) ≤ i := by omega
      go_enter Try.func54, Try.ntmps54
      go_wp2
      go_ret
      refine ⟨ret_int ?_, rfl⟩
      unfold atI
      rw [if_neg (by omega), List.getD_eq_getElem?_getD, List.getElem?_eq_none (by omega)]; rfl
set_option maxHeartbeats 1000000 in
theorem from_any (a : Option Addr) (cap : Nat) (zs : List Int) (i n : Int) (w : World) (hl : zs.length ≤ 9223372036854775807) (hn : 1 ≤ n) (hn2 : n ≤ 4294967296) (hi : Ints w a zs) :
    Calls Try.prog 27 #[.slice a zs.length cap, .int .i64 i, .int .i64 n] w fun e w' => e = .returned (.int .i64 (frI zs i n)) ∧ w = w' := by
  have HZ : Hid (∀ w', Below w.heap.size w w' → Ints w' a zs) := Lib.hid fun w' hb => Row1.below hi hb (Nat.le_refl _)
  have HZL := Lib.hid hl
  clear hi hl
  go_enter Try.func27, Try.ntmps27
  go_wp2_with (first | (go_at_call 54; refine (lat_any _ _ _ _ _ HZL.out (HZ.out _ (by (repeat' (first | (with_reducible exact Below.refl _ _) | (with_reducible assumption) | (with_reducible refine Below.setCell ?_ ?_ _) | (with_reducible refine Below.alloc ?_ ?_ _) | (with_reducible refine Below.drew ?_) | (with_reducible refine Up.base _ ?_ ?_) | (with_reducible exact LeSize.out) | exact LeSize.out | exact Nat.le_add_right_of_le LeSize.out | exact Nat.le_add_right_of_le (Nat.le_add_right_of_le LeSize.out) | (with_reducible exact Nat.le_refl _) | (simp; done) | (simp; omega)))))).mono ?_; rintro e w' ⟨rfl, rfl⟩) | (go_at_call 22; refine (place_any _ _ _ (by omega) (by omega)).mono ?_; rintro e w' ⟨rfl, rfl⟩))
  go_ret
  exact ⟨rfl, rfl⟩
set_option maxHeartbeats 8000000 in
set_option maxRecDepth 100000 in
theorem lphase_any (a : Option Addr) (cap : Nat) (zs : List Int) (i : Nat) (w : World) (hl : zs.length ≤ 9223372036854775807) (hi : i ≤ 10000) (hz : Ints w a zs) :
    Calls Try.prog 26 #[.slice a zs.length cap, .int .i64 i] w fun e w' => e = .returned (.agg (phC (phM zs i)).toArray) ∧ Below w.heap.size w w' := by
  have HZ : Hid (∀ w', Below w.heap.size w w' → Ints w' a zs) := Lib.hid fun w' hb => Row1.below hz hb (Nat.le_refl _)
  have HZL := Lib.hid hl
  have e0 := frI_nat zs i 12
  have e1 := frI_of zs ((i : Int) + 1) (i + 1) 9 (by omega)
  have e2 := frI_of zs ((i : Int) + 2) (i + 2) 6 (by omega)
  have e3 := frI_of zs ((i : Int) + 3) (i + 3) 4 (by omega)
  have e4 := frI_of zs ((i : Int) + 4) (i + 4) 5 (by omega)
  have e5 := frI_of zs ((i : Int) + 5) (i + 5) 25 (by omega)
  have e6 := frI_of zs ((i : Int) + 6) (i + 6) 15 (by omega)
  have e7 := frI_of zs ((i : Int) + 7) (i + 7) 2 (by omega)
  have e8 := frI_of zs ((i : Int) + 8) (i + 8) 10 (by omega)
  have e8' := frI_of zs ((i : Int) + 8) (i + 8) 97 (by omega)
  have e9 := frI_of zs ((i : Int) + 9) (i + 9) 7 (by omega)
  have e10 := frI_of zs ((i : Int) + 10) (i + 10) 3 (by omega)
  have e11 := frI_of zs ((i : Int) + 11) (i + 11) 4 (by omega)
  have b0 := fr_bd zs i (n := 12) (by omega)
  have b1 := fr_bd zs (i + 1) (n := 9) (by omega)
  have b2 := fr_bd zs (i + 2) (n := 6) (by omega)
  have b3 := fr_bd zs (i + 3) (n := 4) (by omega)
  have b4 := fr_bd zs (i + 4) (n := 5) (by omega)
  have b5 := fr_bd zs (i + 5) (n := 25) (by omega)
  have b6 := fr_bd zs (i + 6) (n := 15) (by omega)
  have b8 := fr_bd zs (i + 8) (n := 10) (by omega)
  have b8' := fr_bd zs (i + 8) (n := 97) (by omega)
  have b9 := fr_bd zs (i + 9) (n := 7) (by omega)
  have bt : 0 ≤ (fr zs (i + 8) 97).tdiv 10 ∧ (fr zs (i + 8) 97).tdiv 10 ≤ 9 := by
    rw [Int.tdiv_eq_ediv_of_nonneg b8'.1]; omega
  clear hl hz
  unfold phM
  generalize fr zs i 12 = x0 at *
  generalize fr zs (i + 1) 9 = x1 at *
  generalize fr zs (i + 2) 6 = x2 at *
  generalize fr zs (i + 3) 4 = x3 at *
  generalize fr zs (i + 4) 5 = x4 at *
  generalize fr zs (i + 5) 25 = x5 at *
  generalize fr zs (i + 6) 15 = x6 at *
  generalize fr zs (i + 7) 2 = x7 at *
  generalize fr zs (i + 8) 10 = x8 at *
  generalize fr zs (i + 8) 97 = x8' at *
  generalize fr zs (i + 9) 7 = x9 at *
  generalize fr zs (i + 10) 3 = x10 at *
  generalize fr zs (i + 11) 4 = x11 at *
  go_enter Try.func26, Try.ntmps26
  go_wp2_with (go_at_call 27; refine (from_any _ _ _ _ _ _ HZL.out (by omega) (by omega) (HZ.out _ (by (repeat' (first | (with_reducible exact Below.refl _ _) | (with_reducible assumption) | (with_reducible refine Below.setCell ?_ ?_ _) | (with_reducible refine Below.alloc ?_ ?_ _) | (with_reducible refine Below.drew ?_) | (with_reducible refine Up.base _ ?_ ?_) | (with_reducible exact LeSize.out) | exact LeSize.out | exact Nat.le_add_right_of_le LeSize.out | exact Nat.le_add_right_of_le (Nat.le_add_right_of_le LeSize.out) | (with_reducible exact Nat.le_refl _) | (simp; done) | (simp; omega)))))).mono ?_; rintro e w' ⟨rfl, rfl⟩)
  (refine wp_region_up_tail 8 (by kernel_rfl) (by kernel_rfl) ?_; simp only [List.take_succ_cons, List.take_zero, List.drop_succ_cons, List.drop_zero]; (repeat (first | go_big_quiet_step ((first | (go_at_call 27; exact Up.pure (from_any _ _ _ _ _ _ HZL.out (by omega) (by omega) (HZ.out _ (by (repeat' (first | (with_reducible exact Below.refl _ _) | (with_reducible assumption) | (with_reducible refine Below.setCell ?_ ?_ _) | (with_reducible refine Below.alloc ?_ ?_ _) | (with_reducible refine Below.drew ?_) | (with_reducible refine Up.base _ ?_ ?_) | (with_reducible exact LeSize.out) | exact LeSize.out | exact Nat.le_add_right_of_le LeSize.out | exact Nat.le_add_right_of_le (Nat.le_add_right_of_le LeSize.out) | (with_reducible exact Nat.le_refl _) | (simp; done) | (simp; omega))))))) | fail)))); refine wpQuiet_nil ?_; rintro _ ⟨u, rfl⟩)
  go_wp2
  (refine wp_region_up_tail 8 (by kernel_rfl) (by kernel_rfl) ?_; simp only [List.take_succ_cons, List.take_zero, List.drop_succ_cons, List.drop_zero]; (repeat (first | go_big_quiet_step ((first | (go_at_call 27; exact Up.pure (from_any _ _ _ _ _ _ HZL.out (by omega) (by omega) (HZ.out _ (by (repeat' (first | (with_reducible exact Below.refl _ _) | (with_reducible assumption) | (with_reducible refine Below.setCell ?_ ?_ _) | (with_reducible refine Below.alloc ?_ ?_ _) | (with_reducible refine Below.drew ?_) | (with_reducible refine Up.base _ ?_ ?_) | (with_reducible exact LeSize.out) | exact LeSize.out | exact Nat.le_add_right_of_le LeSize.out | exact Nat.le_add_right_of_le (Nat.le_add_right_of_le LeSize.out) | (with_reducible exact Nat.le_refl _) | (simp; done) | (simp; omega))))))) | fail)))); refine wpQuiet_nil ?_; rintro _ ⟨u, rfl⟩)
  cases h7 : (x7 == 1)
  all_goals
    rcases (show 3 < x9 ∨ x9 = 3 ∨ (x9 < 3 ∧ (x9 == 3) = false) by rcases Int.lt_trichotomy x9 3 with h | h | h <;> simp [h] <;> omega) with h9 | h9 | ⟨h9, h9'⟩
    all_goals (try subst h9)
    all_goals
      go_wp2_with (go_at_call 27; refine (from_any _ _ _ _ _ _ HZL.out (by omega) (by omega) (HZ.out _ (by (repeat' (first | (with_reducible exact Below.refl _ _) | (with_reducible assumption) | (with_reducible refine Below.setCell ?_ ?_ _) | (with_reducible refine Below.alloc ?_ ?_ _) | (with_reducible refine Below.drew ?_) | (with_reducible refine Up.base _ ?_ ?_) | (with_reducible exact LeSize.out) | exact LeSize.out | exact Nat.le_add_right_of_le LeSize.out | exact Nat.le_add_right_of_le (Nat.le_add_right_of_le LeSize.out) | (with_reducible exact Nat.le_refl _) | (simp; done) | (simp; omega)))))).mono ?_; rintro e w' ⟨rfl, rfl⟩)
      go_returns
      refine ⟨?_, by (repeat' (first | (with_reducible exact Below.refl _ _) | (with_reducible assumption) | (with_reducible refine Below.setCell ?_ ?_ _) | (with_reducible refine Below.alloc ?_ ?_ _) | (with_reducible refine Below.drew ?_) | (with_reducible refine Up.base _ ?_ ?_) | (with_reducible exact LeSize.out) | exact LeSize.out | exact Nat.le_add_right_of_le LeSize.out | exact Nat.le_add_right_of_le (Nat.le_add_right_of_le LeSize.out) | (with_reducible exact Nat.le_refl _) | (simp; done) | (simp; omega)))⟩
      simp [phC, *]
end Go.Proofs.Ytbnbakienajhmaa
