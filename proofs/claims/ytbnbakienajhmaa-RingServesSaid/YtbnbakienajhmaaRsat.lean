/- The reference's sums, by themselves: Cut, Cap, Add, Mul, Sum, most, sum. -/
import Derived.Test.YtbnbakienajhmaaOpen
import Derived.WalkSpells
import Derived.WalkLawsBesides
import Derived.Lib.Hide
import Derived.Handy
namespace Go.Proofs.Ytbnbakienajhmaa
open Go.RowKit
set_option linter.unusedVariables false

def capZ (n : Int) : Int := min (max n 0) 2147483647
theorem capZ_bd (n : Int) : 0 ≤ capZ n ∧ capZ n ≤ 2147483647 := by unfold capZ; omega
def addZ (a b : Int) : Int := capZ (capZ a + capZ b)
def mulZ (a b : Int) : Int := capZ (capZ a * capZ b)
theorem mulZ_bd {a b : Int} (ha : 0 ≤ a ∧ a ≤ 2147483647) (hb : 0 ≤ b ∧ b ≤ 2147483647) : 0 ≤ a * b ∧ a * b ≤ 4611686014132420609 := by
  have h1 := Int.mul_nonneg ha.1 hb.1
  have h2 := Int.mul_le_mul ha.2 hb.2 hb.1 (by omega)
  omega
set_option maxHeartbeats 400000 in
theorem zcut_any (a b c : Int) (w : World) :
    Calls Try.prog 78 #[.int .i64 a, .int .i64 b, .int .i64 c] w fun e w' => e = .returned (.int .i64 (if a < b then b else if c < a then c else a)) ∧ w = w' := by
  go_enter Try.func78, Try.ntmps78
  go_wp2
  all_goals
    go_ret
    exact ⟨ret_int (by simp [*]; try omega), rfl⟩
set_option maxHeartbeats 400000 in
theorem zcap_any (a : Int) (w : World) :
    Calls Try.prog 72 #[.int .i64 a] w fun e w' => e = .returned (.int .i64 (capZ a)) ∧ w = w' := by
  go_enter Try.func72, Try.ntmps72
  go_wp2_with (go_at_call 78; refine (zcut_any _ _ _ _).mono ?_; rintro e w' ⟨rfl, rfl⟩)
  all_goals
    go_ret
    exact ⟨ret_int (by unfold capZ; omega), rfl⟩
set_option maxHeartbeats 400000 in
theorem zadd_any (a b : Int) (w : World) :
    Calls Try.prog 83 #[.int .i64 a, .int .i64 b] w fun e w' => e = .returned (.int .i64 (addZ a b)) ∧ w = w' := by
  have ha := capZ_bd a
  have hb := capZ_bd b
  go_enter Try.func83, Try.ntmps83
  go_wp2_with (go_at_call 72; refine (zcap_any _ _).mono ?_; rintro e w' ⟨rfl, rfl⟩)
  go_ret
  exact ⟨rfl, rfl⟩
set_option maxHeartbeats 400000 in
theorem zmul_any (a b : Int) (w : World) :
    Calls Try.prog 56 #[.int .i64 a, .int .i64 b] w fun e w' => e = .returned (.int .i64 (mulZ a b)) ∧ w = w' := by
  have hm := mulZ_bd (capZ_bd a) (capZ_bd b)
  go_enter Try.func56, Try.ntmps56
  go_wp2_with (go_at_call 72; refine (zcap_any _ _).mono ?_; rintro e w' ⟨rfl, rfl⟩)
  go_ret
  exact ⟨rfl, rfl⟩
def sumZ (l : List Int) : Int := l.foldl addZ 0
theorem sumZ_snoc (l : List Int) (x : Int) : sumZ (l ++ [x]) = addZ (sumZ l) x := by simp [sumZ]
set_option maxHeartbeats 400000 in
theorem zsum_any (a : Option Addr) (cap : Nat) (zs : List Int) (w : World) (hm : zs.length ≤ 9223372036854775807) (hi : Ints w a zs) :
    Calls Try.prog 71 #[.slice a zs.length cap] w fun e w' => e = .returned (.int .i64 (sumZ zs)) ∧ w = w' := by
  have HI := Lib.hid hi
  clear hi
  go_enter Try.func71, Try.ntmps71
  go_wp2
  go_loop [3, 4] (fun n i => ∃ k : Nat, k ≤ zs.length ∧ i = .int .i64 k ∧ n = .int .i64 (sumZ (zs.take k))) (fun _ i => zs.length - (intOf i).toNat)
  case atStart => exact ⟨0, Nat.zero_le _, rfl, rfl⟩
  case round =>
    obtain ⟨k, hk, rfl, rfl⟩ := hrel
    by_cases hlt : k < zs.length
    · obtain ⟨b, off, rfl, _, hc⟩ := HI.out.cell (by omega)
      have hcell := hc k hlt
      clear hc
      have hs : Hid (sumZ (zs.take (k + 1)) = addZ (sumZ (zs.take k)) (zs.getD k 0)) := by
        rw [← sumZ_snoc, List.take_succ_eq_append_getElem (by omega)]
        simp [List.getD, show k < zs.length by omega, Hid]
      go_wp2_with (go_at_call 83; refine (zadd_any _ _ _).mono ?_; rintro e w' ⟨rfl, rfl⟩)
      go_round
      case rel => exact ⟨k + 1, by omega, by go_num, by rw [hs.out]; simp [hlt]⟩
      case measure => simp [intOf]; omega
    · obtain rfl : k = zs.length := by omega
      go_wp2
      go_ret
      exact ⟨ret_int (by first | rfl | rw [List.take_length]), rfl⟩
set_option maxHeartbeats 400000 in
theorem vsum_any (a : Option Addr) (cap : Nat) (zs : List Int) (w : World) (hm : zs.length ≤ 1000) (hi : Ints w a zs) :
    Calls Try.prog 53 #[.slice a zs.length cap] w fun e w' => e = .returned (.int .i64 (sumZ zs)) ∧ w = w' := by
  go_enter Try.func53, Try.ntmps53
  go_wp2_with (go_at_call 71; refine (zsum_any _ _ _ _ (by omega) (by assumption)).mono ?_; rintro e w' ⟨rfl, rfl⟩)
  go_ret
  exact ⟨rfl, rfl⟩
def mostZ (l : List Int) : Int := l.foldl max 0
theorem mostZ_snoc (l : List Int) (x : Int) : mostZ (l ++ [x]) = max (mostZ l) x := by simp [mostZ]
set_option maxHeartbeats 400000 in
theorem vmost_any (a : Option Addr) (cap : Nat) (zs : List Int) (w : World) (hm : zs.length ≤ 1000) (hi : Ints w a zs) :
    Calls Try.prog 74 #[.slice a zs.length cap] w fun e w' => e = .returned (.int .i64 (mostZ zs)) ∧ w = w' := by
  have HI := Lib.hid hi
  clear hi
  go_enter Try.func74, Try.ntmps74
  go_wp2
  go_loop [3, 4] (fun n i => ∃ k : Nat, k ≤ zs.length ∧ i = .int .i64 k ∧ n = .int .i64 (mostZ (zs.take k))) (fun _ i => zs.length - (intOf i).toNat)
  case atStart => exact ⟨0, Nat.zero_le _, rfl, rfl⟩
  case round =>
    obtain ⟨k, hk, rfl, rfl⟩ := hrel
    by_cases hlt : k < zs.length
    · obtain ⟨b, off, rfl, _, hc⟩ := HI.out.cell (by omega)
      have hcell := hc k hlt
      clear hc
      have hs : Hid (mostZ (zs.take (k + 1)) = max (mostZ (zs.take k)) (zs.getD k 0)) := by
        rw [← mostZ_snoc, List.take_succ_eq_append_getElem (by omega)]
        simp [List.getD, show k < zs.length by omega, Hid]
      go_wp2
      go_round
      case rel => exact ⟨k + 1, by omega, by go_num, by rw [hs.out]; simp [hlt]; try omega⟩
      case measure => simp [intOf]; omega
    · obtain rfl : k = zs.length := by omega
      go_wp2
      go_ret
      exact ⟨ret_int (by first | rfl | rw [List.take_length]), rfl⟩
end Go.Proofs.Ytbnbakienajhmaa
