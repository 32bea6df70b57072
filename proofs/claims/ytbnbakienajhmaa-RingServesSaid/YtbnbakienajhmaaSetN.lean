/- The contracts of package set: bit, Has, With, Without, Of. -/
import Derived.Test.YtbnbakienajhmaaSetW
namespace Go.Proofs.Ytbnbakienajhmaa
open Go.RowKit
set_option linter.unusedVariables false

theorem oneM_out {p : Int} (h : ¬ (0 ≤ p ∧ p < 8)) : packM (oneM p) = 0 := pack_zero.2 fun i hi => by unfold oneM; simp; omega
set_option maxHeartbeats 1000000 in
theorem sbit_any (p : Int) (w : World) :
    Calls Try.prog 63 #[.int .i64 p] w fun e w' => e = .returned (.int .i64 (packM (oneM p))) ∧ w = w' := by
  by_cases h0 : 0 ≤ p
  · by_cases h8 : p < 8
    · rcases (show p = 0 ∨ p = 1 ∨ p = 2 ∨ p = 3 ∨ p = 4 ∨ p = 5 ∨ p = 6 ∨ p = 7 by omega) with rfl | rfl | rfl | rfl | rfl | rfl | rfl | rfl
      all_goals
        go_enter Try.func63, Try.ntmps63
        go_wp2
        go_ret
        exact ⟨ret_int (by decide), rfl⟩
    · go_enter Try.func63, Try.ntmps63
      go_wp2
      go_ret
      exact ⟨ret_int (oneM_out (by omega)).symm, rfl⟩
  · go_enter Try.func63, Try.ntmps63
    go_wp2
    go_ret
    exact ⟨ret_int (oneM_out (by omega)).symm, rfl⟩
theorem has_and (s p : Int) : (bits .and .i64 s (packM (oneM p)) != 0) = hasM s p := by
  rw [and_bits, Bool.eq_iff_iff, bne_iff_ne, ne_eq, pack_zero]
  unfold hasM oneM
  simp only [Bool.and_eq_true, decide_eq_true_eq]
  constructor
  · intro h
    by_cases hp : 0 ≤ p ∧ p < 8
    · refine ⟨hp, ?_⟩
      cases hb : bitM s p.toNat with
      | true => rfl
      | false =>
        exact absurd (fun i hi => by
          by_cases hpi : p = (i : Int)
          · subst hpi; simp at hb; simp [hb]
          · simp [hpi]) h
    · exact absurd (fun i hi => by have : ¬ p = (i : Int) := by omega
                                   simp [this]) h
  · rintro ⟨hp, hb⟩ h
    have := h p.toNat (by omega)
    have e : p = (p.toNat : Int) := by omega
    rw [hb, ← e] at this
    simp at this
set_option maxHeartbeats 1000000 in
theorem shas_any (s p : Int) (w : World) :
    Calls Try.prog 41 #[.int .i64 s, .int .i64 p] w fun e w' => e = .returned (.bool (hasM s p)) ∧ w = w' := by
  have H := Lib.hid (has_and s p)
  go_enter Try.func41, Try.ntmps41
  go_wp2_with (go_at_call 63; refine (sbit_any _ _).mono ?_; rintro e w' ⟨rfl, rfl⟩)
  go_ret
  exact ⟨ret_bool H.out, rfl⟩
theorem with_or (s p : Int) : bits .or .i64 (bits .and .i64 s 255) (packM (oneM p)) = withM s p := by
  rw [and255, or_pack]; rfl
set_option maxHeartbeats 1000000 in
theorem swith_any (s p : Int) (w : World) :
    Calls Try.prog 42 #[.int .i64 s, .int .i64 p] w fun e w' => e = .returned (.int .i64 (withM s p)) ∧ w = w' := by
  have H := Lib.hid (with_or s p)
  go_enter Try.func42, Try.ntmps42
  go_wp2_with (go_at_call 63; refine (sbit_any _ _).mono ?_; rintro e w' ⟨rfl, rfl⟩)
  go_ret
  exact ⟨ret_int H.out, rfl⟩
theorem bits_andNot (x y : Int) : bits .andNot .i64 x y = IntKind.i64.wrap (((x % 18446744073709551616).toNat &&& (2 ^ 64 - ((y % 18446744073709551616).toNat + 1)) : Nat) : Int) := by
  show IntKind.i64.wrap (((BitVec.ofInt 64 x) &&& ~~~(BitVec.ofInt 64 y)).toNat : Int) = _
  rw [BitVec.toNat_and, BitVec.toNat_not, BitVec.toNat_ofInt, BitVec.toNat_ofInt]
  congr 3
  simp only [Nat.reducePow, Int.cast_ofNat_Int]
  omega
theorem without_and (s p : Int) : bits .andNot .i64 (bits .and .i64 s 255) (packM (oneM p)) = withoutM s p := by
  rw [and255, bits_andNot]
  unfold withoutM packM
  rw [toNat_small (packN_lt _), toNat_small (packN_lt _)]
  have hp : packN (oneM p) < 2 ^ 64 := by have := packN_lt (oneM p); omega
  have e : packN (bitM s) &&& (2 ^ 64 - (packN (oneM p) + 1)) = packN (fun i => bitM s i && !oneM p i) := Nat.eq_of_testBit_eq fun i => by
    rw [Nat.testBit_and, Nat.testBit_two_pow_sub_succ hp, packN_test, packN_test, packN_test]
    by_cases hi : i < 8
    · have : i < 64 := by omega
      simp [hi, this]
    · simp [hi]
  rw [e, wrap_small (packN_lt _)]
def ofP (zs : List Int) (k : Nat) : Int := packM fun i => (zs.take k).contains (i : Int)
theorem ofP_succ {zs : List Int} {k : Nat} (hk : k < zs.length) : bits .or .i64 (ofP zs k) (packM (oneM (zs.getD k 0))) = ofP zs (k + 1) := by
  unfold ofP
  rw [or_pack]
  refine packM_congr fun i hi => ?_
  rw [Bool.eq_iff_iff, List.take_succ_eq_append_getElem hk]
  simp only [Bool.or_eq_true, List.contains_iff_mem, List.mem_append, List.mem_singleton, oneM, decide_eq_true_eq]
  simp only [List.getD, hk, List.getElem?_eq_getElem, Option.getD_some]
  exact or_congr Iff.rfl ⟨Eq.symm, Eq.symm⟩
set_option maxHeartbeats 1000000 in
theorem sof_any (a : Option Addr) (cap : Nat) (zs : List Int) (w : World) (hl : zs.length ≤ 1000) (hi : Ints w a zs) :
    Calls Try.prog 58 #[.slice a zs.length cap] w fun e w' => e = .returned (.int .i64 (ofM zs)) ∧ w = w' := by
  have HI := Lib.hid hi
  clear hi
  go_enter Try.func58, Try.ntmps58
  go_wp2
  go_loop [3, 8] (fun s i => ∃ k : Nat, k ≤ zs.length ∧ i = .int .i64 k ∧ s = .int .i64 (ofP zs k)) (fun _ i => zs.length - (intOf i).toNat)
  case atStart => exact ⟨0, Nat.zero_le _, rfl, by unfold ofP; rw [pack_zero.2 (by simp)]⟩
  case round =>
    obtain ⟨k, hk, rfl, rfl⟩ := hrel
    by_cases hlt : k < zs.length
    · obtain ⟨b, off, rfl, hbs, hc⟩ := HI.out.cell (by omega)
      have hcell := hc k hlt
      clear hc
      have HS := Lib.hid (ofP_succ hlt)
      generalize zs.getD k 0 = x at *
      go_wp2_with (go_at_call 63; refine (sbit_any _ _).mono ?_; rintro e w' ⟨rfl, rfl⟩)
      go_round
      case rel => exact ⟨k + 1, by omega, by go_num, by rw [HS.out]⟩
      case measure => simp [intOf]; omega
    · obtain rfl : k = zs.length := by omega
      go_wp2
      go_ret
      exact ⟨ret_int (by unfold ofP ofM; rw [List.take_length]), rfl⟩
end Go.Proofs.Ytbnbakienajhmaa
