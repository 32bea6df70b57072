/- The contracts of package sat and of its reference: each function returns what the plain function of integers gives, and writes nothing. -/
import Derived.Test.YtjjlcjafadigkaaOpen
import Derived.WalkSpells
import Derived.WalkLawsBesides
import Derived.Lib.Hide
import Derived.Handy
namespace Go.Proofs.Ytjjlcjafadigkaa
open Go.RowKit
set_option linter.unusedVariables false


def capM (n : Int) : Int := min (max n 0) 2147483647
theorem capM_bd (n : Int) : 0 ≤ capM n ∧ capM n ≤ 2147483647 := by unfold capM; omega

set_option maxHeartbeats 400000 in
theorem cap_any (a : Int) (w : World) :
    Calls Try.prog 13 #[.int .i64 a] w fun e w' => e = .returned (.int .i64 (capM a)) ∧ w = w' := by
  go_enter Try.func13, Try.ntmps13
  go_wp2
  all_goals
    go_ret
    exact ⟨ret_int (by unfold capM; omega), rfl⟩

set_option maxHeartbeats 400000 in
theorem cut_any (a b c : Int) (w : World) :
    Calls Try.prog 20 #[.int .i64 a, .int .i64 b, .int .i64 c] w fun e w' => e = .returned (.int .i64 (if a < b then b else if c < a then c else a)) ∧ w = w' := by
  go_enter Try.func20, Try.ntmps20
  go_wp2
  all_goals
    go_ret
    exact ⟨ret_int (by simp [*]; try omega), rfl⟩

set_option maxHeartbeats 400000 in
theorem rcap_any (a : Int) (w : World) :
    Calls Try.prog 14 #[.int .i64 a] w fun e w' => e = .returned (.int .i64 (capM a)) ∧ w = w' := by
  go_enter Try.func14, Try.ntmps14
  go_wp2_with (go_at_call 20; refine (cut_any _ _ _ _).mono ?_; rintro e w' ⟨rfl, rfl⟩)
  all_goals
    go_ret
    exact ⟨ret_int (by unfold capM; omega), rfl⟩

def addM (a b : Int) : Int := capM (capM a + capM b)
def subM (a b : Int) : Int := capM (capM a - capM b)
def mulM (a b : Int) : Int := capM (capM a * capM b)

set_option maxHeartbeats 400000 in
theorem add_any (a b : Int) (w : World) :
    Calls Try.prog 11 #[.int .i64 a, .int .i64 b] w fun e w' => e = .returned (.int .i64 (addM a b)) ∧ w = w' := by
  have ha := capM_bd a
  have hb := capM_bd b
  go_enter Try.func11, Try.ntmps11
  go_wp2_with (go_at_call 13; refine (cap_any _ _).mono ?_; rintro e w' ⟨rfl, rfl⟩)
  go_ret
  exact ⟨rfl, rfl⟩

set_option maxHeartbeats 400000 in
theorem sub_any (a b : Int) (w : World) :
    Calls Try.prog 17 #[.int .i64 a, .int .i64 b] w fun e w' => e = .returned (.int .i64 (subM a b)) ∧ w = w' := by
  have ha := capM_bd a
  have hb := capM_bd b
  go_enter Try.func17, Try.ntmps17
  go_wp2_with (go_at_call 13; refine (cap_any _ _).mono ?_; rintro e w' ⟨rfl, rfl⟩)
  go_ret
  exact ⟨rfl, rfl⟩

theorem mul_bd {a b : Int} (ha : 0 ≤ a ∧ a ≤ 2147483647) (hb : 0 ≤ b ∧ b ≤ 2147483647) : 0 ≤ a * b ∧ a * b ≤ 4611686014132420609 := by
  have h1 := Int.mul_nonneg ha.1 hb.1
  have h2 := Int.mul_le_mul ha.2 hb.2 hb.1 (by omega)
  omega

set_option maxHeartbeats 400000 in
theorem mul_any (a b : Int) (w : World) :
    Calls Try.prog 12 #[.int .i64 a, .int .i64 b] w fun e w' => e = .returned (.int .i64 (mulM a b)) ∧ w = w' := by
  have hm := mul_bd (capM_bd a) (capM_bd b)
  go_enter Try.func12, Try.ntmps12
  go_wp2_with (go_at_call 13; refine (cap_any _ _).mono ?_; rintro e w' ⟨rfl, rfl⟩)
  go_ret
  exact ⟨rfl, rfl⟩

set_option maxHeartbeats 400000 in
theorem full_any (a : Int) (w : World) :
    Calls Try.prog 15 #[.int .i64 a] w fun e w' => e = .returned (.bool (decide (2147483647 ≤ a))) ∧ w = w' := by
  go_enter Try.func15, Try.ntmps15
  go_wp2
  go_ret
  exact ⟨rfl, rfl⟩

def sumM (l : List Int) : Int := l.foldl addM 0
theorem sumM_snoc (l : List Int) (x : Int) : sumM (l ++ [x]) = addM (sumM l) x := by simp [sumM]

set_option maxHeartbeats 400000 in
theorem sum_any (a : Option Addr) (cap : Nat) (zs : List Int) (w : World) (hm : zs.length ≤ 9223372036854775807) (hi : Ints w a zs) :
    Calls Try.prog 9 #[.slice a zs.length cap] w fun e w' => e = .returned (.int .i64 (sumM zs)) ∧ w = w' := by
  have HI := Lib.hid hi
  clear hi
  go_enter Try.func9, Try.ntmps9
  go_wp2
  go_loop [3, 8] (fun n i => ∃ k : Nat, k ≤ zs.length ∧ i = .int .i64 k ∧ n = .int .i64 (sumM (zs.take k))) (fun _ i => zs.length - (intOf i).toNat)
  case atStart => exact ⟨0, Nat.zero_le _, rfl, rfl⟩
  case round =>
    obtain ⟨k, hk, rfl, rfl⟩ := hrel
    by_cases hlt : k < zs.length
    · obtain ⟨b, off, rfl, _, hc⟩ := HI.out.cell (by omega)
      have hcell := hc k hlt
      clear hc
      have hs : Hid (sumM (zs.take (k + 1)) = addM (sumM (zs.take k)) (zs.getD k 0)) := by
        rw [← sumM_snoc, List.take_succ_eq_append_getElem (by omega)]
        simp [List.getD, show k < zs.length by omega, Hid]
      go_wp2_with (go_at_call 11; refine (add_any _ _ _).mono ?_; rintro e w' ⟨rfl, rfl⟩)
      go_round
      case rel => exact ⟨k + 1, by omega, by go_num, by rw [hs.out]; simp [hlt]⟩
      case measure => simp [intOf]; omega
    · go_wp2
      go_ret
      exact ⟨ret_int (by rw [List.take_of_length_le (by omega)]), rfl⟩
theorem sum_len (a : Option Addr) (len cap : Nat) (zs : List Int) (w : World) (hl : zs.length = len) (hm : len ≤ 9223372036854775807) (hi : Ints w a zs) :
    Calls Try.prog 9 #[.slice a len cap] w fun e w' => e = .returned (.int .i64 (sumM zs)) ∧ w = w' := by
  subst hl; exact sum_any a cap zs w hm hi

end Go.Proofs.Ytjjlcjafadigkaa
