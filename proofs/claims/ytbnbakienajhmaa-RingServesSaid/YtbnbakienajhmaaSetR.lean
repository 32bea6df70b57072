/- The contracts of the reference's sets. -/
import Derived.Test.YtbnbakienajhmaaSetM
import Derived.Test.YtbnbakienajhmaaApp
namespace Go.Proofs.Ytbnbakienajhmaa
open Go.RowKit
set_option linter.unusedVariables false

theorem and1 (x : Int) : bits .and .i64 x 1 = x % 2 := and_mask x 1 (by decide)
theorem has_at {s : Int} {i : Nat} {x : Int} (hi : i < 8) (hx : x = s / 2 ^ i) : (bits .and .i64 x 1 == 1) = hasM s i := by
  rw [and1, hasM_nat s hi, bitM_div hi, hx, Bool.eq_iff_iff]; simp
set_option maxHeartbeats 1000000 in
theorem rhas_any (s p : Int) (w : World) :
    Calls Try.prog 14 #[.int .i64 s, .int .i64 p] w fun e w' => e = .returned (.bool (hasM s p)) ∧ w = w' := by
  by_cases h0 : 0 ≤ p
  · by_cases h8 : p < 8
    · rcases (show p = 0 ∨ p = 1 ∨ p = 2 ∨ p = 3 ∨ p = 4 ∨ p = 5 ∨ p = 6 ∨ p = 7 by omega) with rfl | rfl | rfl | rfl | rfl | rfl | rfl | rfl
      · go_enter Try.func14, Try.ntmps14
        go_wp2
        go_ret
        exact ⟨ret_bool (has_at (i := 0) (by omega) (by simp)), rfl⟩
      · go_enter Try.func14, Try.ntmps14
        go_wp2
        go_ret
        exact ⟨ret_bool (has_at (i := 1) (by omega) (by simp)), rfl⟩
      · go_enter Try.func14, Try.ntmps14
        go_wp2
        go_ret
        exact ⟨ret_bool (has_at (i := 2) (by omega) (by simp)), rfl⟩
      · go_enter Try.func14, Try.ntmps14
        go_wp2
        go_ret
        exact ⟨ret_bool (has_at (i := 3) (by omega) (by simp)), rfl⟩
      · go_enter Try.func14, Try.ntmps14
        go_wp2
        go_ret
        exact ⟨ret_bool (has_at (i := 4) (by omega) (by simp)), rfl⟩
      · go_enter Try.func14, Try.ntmps14
        go_wp2
        go_ret
        exact ⟨ret_bool (has_at (i := 5) (by omega) (by simp)), rfl⟩
      · go_enter Try.func14, Try.ntmps14
        go_wp2
        go_ret
        exact ⟨ret_bool (has_at (i := 6) (by omega) (by simp)), rfl⟩
      · go_enter Try.func14, Try.ntmps14
        go_wp2
        go_ret
        exact ⟨ret_bool (has_at (i := 7) (by omega) (by simp)), rfl⟩
    · go_enter Try.func14, Try.ntmps14
      go_wp2
      go_ret
      exact ⟨ret_bool (by unfold hasM; simp; omega), rfl⟩
  · go_enter Try.func14, Try.ntmps14
    go_wp2
    go_ret
    exact ⟨ret_bool (by unfold hasM; simp; omega), rfl⟩

/-- What comes back is a row of the call's own. -/
def RetInts (B : Nat) (w : World) (zs : List Int) (e : Ending) (w' : World) : Prop := ∃ v, e = .returned v ∧ OwnInts w' w.heap.size v zs ∧ Below w.heap.size w w'
set_option maxHeartbeats 1000000 in
theorem rlist_any (s : Int) (w : World) :
    Calls Try.prog 13 #[.int .i64 s] w (RetInts 0 w (listM s)) := by
  go_enter Try.func13, Try.ntmps13
  go_wp2
  go_loopw [3, 4] (fun l i wr => ∃ k : Nat, k ≤ 8 ∧ i = .int .i64 k ∧ OwnInts wr w.heap.size l (setL s k) ∧ Below w.heap.size w wr) (fun _ i _ => 8 - (intOf i).toNat)
  case atStart => exact ⟨0, Nat.zero_le _, rfl, OwnInts.nil _ _, Below.refl _ _⟩
  case round =>
    obtain ⟨k, hk, rfl, hown, hb⟩ := hrel
    have hB := hb.size
    have hlen := setL_length s k
    by_cases hlt : k < 8
    · cases hh : hasM s k
      · have hs : setL s (k + 1) = setL s k := by rw [setL_succ, ← hasM_nat s hlt, hh]; simp
        have HS := Lib.hid hs
        clear hs
        go_wp2_with (go_at_call 14; refine (rhas_any _ _ _).mono ?_; rintro e w' ⟨rfl, rfl⟩)
        go_roundw
        case rel => exact ⟨k + 1, by omega, by go_num, by rw [HS.out]; exact hown, hb⟩
        case measure => simp [intOf]; omega
      · have hs : setL s (k + 1) = setL s k ++ [(k : Int)] := by rw [setL_succ, ← hasM_nat s hlt, hh]; simp
        have HS := Lib.hid hs
        clear hs
        go_wp2_with (first | (go_at_call 14; refine (rhas_any _ _ _).mono ?_; rintro e w' ⟨rfl, rfl⟩) | (at_builtin; refine wpList_app_int rfl _ _ rfl w.heap.size rfl (hown.alloc _) (b := wr.heap.size) (y := (k : Int)) rfl (by simp) (by omega) (by simp; omega) ?_; intro v' w1 hown' hg))
        go_roundw
        case rel => exact ⟨k + 1, by omega, by go_num, by rw [HS.out]; exact hown', hown.grown hb hB (Nat.le_refl _) hg⟩
        case measure => simp [intOf]; omega
    · obtain rfl : k = 8 := by omega
      go_wp2
      go_ret
      exact ⟨_, rfl, hown, hb⟩
end Go.Proofs.Ytbnbakienajhmaa
