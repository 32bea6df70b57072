/- The contract of Place: a number as one from 0 to n - 1. -/
import Derived.Test.YtbnbakienajhmaaOpen
namespace Go.Proofs.Ytbnbakienajhmaa
open Go.RowKit
set_option linter.unusedVariables false

theorem tmod_neg {v n : Int} (h : v < 0) : v.tmod n = -((-v) % n) := by
  rw [← Int.tmod_eq_emod_of_nonneg (by omega), Int.neg_tmod, Int.neg_neg]
theorem emod_tmod {v n : Int} (hn : 1 ≤ n) : v % n = if v.tmod n < 0 then v.tmod n + n else v.tmod n := by
  by_cases h : v < 0
  · have e1 := tmod_neg (n := n) h
    have h1 := Int.emod_nonneg (-v) (show n ≠ 0 by omega)
    have h2 := Int.emod_lt_of_pos (-v) (show 0 < n by omega)
    by_cases hz : (-v) % n = 0
    · have : v % n = 0 := by
        have hd : n ∣ -v := Int.dvd_of_emod_eq_zero hz
        exact Int.emod_eq_zero_of_dvd ((Int.dvd_neg).1 hd)
      rw [e1, hz, this]; simp
    · rw [e1, if_pos (by omega)]
      have h3 : v = n * (-((-v) / n) - 1) + (-((-v) % n) + n) := by
        have := Int.mul_ediv_add_emod (-v) n
        have e : n * (-((-v) / n) - 1) = -(n * ((-v) / n)) - n := by rw [Int.mul_sub, Int.mul_neg, Int.mul_one]
        omega
      calc v % n = (n * (-((-v) / n) - 1) + (-((-v) % n) + n)) % n := by rw [← h3]
        _ = (-((-v) % n) + n) % n := by rw [Int.mul_add_emod_self_left]
        _ = -((-v) % n) + n := Int.emod_eq_of_lt (by omega) (by omega)
  · rw [Int.tmod_eq_emod_of_nonneg (by omega)]
    have := Int.emod_nonneg v (show n ≠ 0 by omega)
    rw [if_neg (by omega)]
theorem tmod_bd {v n : Int} (hn : 1 ≤ n) : -n < v.tmod n ∧ v.tmod n < n := by
  by_cases h : v < 0
  · rw [tmod_neg h]
    have h1 := Int.emod_nonneg (-v) (show n ≠ 0 by omega)
    have h2 := Int.emod_lt_of_pos (-v) (show 0 < n by omega)
    omega
  · rw [Int.tmod_eq_emod_of_nonneg (by omega)]
    have h1 := Int.emod_nonneg v (show n ≠ 0 by omega)
    have h2 := Int.emod_lt_of_pos v (show 0 < n by omega)
    omega

set_option maxHeartbeats 400000 in
theorem place_any (v n : Int) (w : World) (hn : 1 ≤ n) (hn2 : n ≤ 4294967296) :
    Calls Try.prog 22 #[.int .i64 v, .int .i64 n] w fun e w' => e = .returned (.int .i64 (v % n)) ∧ w = w' := by
  have hb := tmod_bd (v := v) hn
  have hne : (n == 0) = false := by simp; omega
  have H := Lib.hid (emod_tmod (v := v) hn)
  go_enter Try.func22, Try.ntmps22
  go_wp2
  all_goals
    go_ret
    exact ⟨ret_int (by rw [H.out]; simp [*]; try omega), rfl⟩
end Go.Proofs.Ytbnbakienajhmaa
