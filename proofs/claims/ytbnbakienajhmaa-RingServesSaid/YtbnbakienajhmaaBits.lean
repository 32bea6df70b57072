/- Plain laws of int's bits. -/
import Derived.Test.YtbnbakienajhmaaOpen
namespace Go.Proofs.Ytbnbakienajhmaa

theorem bits_and (x y : Int) : bits .and .i64 x y = IntKind.i64.wrap (((x % 18446744073709551616).toNat &&& (y % 18446744073709551616).toNat : Nat) : Int) := by
  rfl
theorem bits_or (x y : Int) : bits .or .i64 x y = IntKind.i64.wrap (((x % 18446744073709551616).toNat ||| (y % 18446744073709551616).toNat : Nat) : Int) := by
  rfl
theorem and_mask (x : Int) (i : Nat) (hi : i ≤ 62) : bits .and .i64 x (2 ^ i - 1) = x % 2 ^ i := by
  rw [bits_and]
  have hp : 2 ^ i ≤ 2 ^ 62 := Nat.pow_le_pow_right (by decide) hi
  have h1 : 1 ≤ 2 ^ i := Nat.one_le_two_pow
  have e : (((2 : Int) ^ i - 1) % 18446744073709551616).toNat = 2 ^ i - 1 := by
    have : (2 : Int) ^ i = ((2 ^ i : Nat) : Int) := by simp
    rw [this]
    generalize 2 ^ i = m at *
    omega
  rw [e, Nat.and_two_pow_sub_one_eq_mod]
  have hd : (2 : Int) ^ i ∣ 18446744073709551616 := by
    rw [show (18446744073709551616 : Int) = 2 ^ 64 by decide]
    exact ⟨2 ^ (64 - i), by rw [← Int.pow_add]; congr 1; omega⟩
  have h2 : (((x % 18446744073709551616).toNat % 2 ^ i : Nat) : Int) = x % 2 ^ i := by
    rw [Int.natCast_emod, Int.toNat_of_nonneg (Int.emod_nonneg _ (by decide))]
    simp only [Int.natCast_pow, Int.cast_ofNat_Int]
    exact Int.emod_emod_of_dvd x hd
  rw [h2]
  have h3 : (0 : Int) < 2 ^ i := Int.pow_pos (by decide)
  have h4 := Int.emod_nonneg x (Int.ne_of_gt h3)
  have h5 := Int.emod_lt_of_pos x h3
  have h6 : (2 : Int) ^ i ≤ 2 ^ 62 := by exact_mod_cast hp
  exact IntWalk.i64_in _ (by omega)
end Go.Proofs.Ytbnbakienajhmaa
