/- The contract of the reference's With. -/
import Derived.Test.YtbnbakienajhmaaSetO
namespace Go.Proofs.Ytbnbakienajhmaa
open Go.RowKit
set_option linter.unusedVariables false

set_option maxHeartbeats 1000000 in
theorem rwith_any (s p : Int) (w : World) :
    Calls Try.prog 23 #[.int .i64 s, .int .i64 p] w fun e w' => e = .returned (.int .i64 (withM s p)) ∧ Below w.heap.size w w' := by
  have hlen : (listM s).length ≤ 8 := setL_length s 8
  go_enter Try.func23, Try.ntmps23
  go_wp2_with fail
  (go_at_call 13; refine (rlist_any _ _).mono ?_; rintro e w' ⟨v', rfl, hown', hb'⟩)
  have hB := hb'.size
  go_wp2_with (at_builtin; refine wpList_app_int rfl _ _ rfl w.heap.size rfl (hown'.alloc _) (b := w'.heap.size) (y := p) rfl (by simp) (by omega) (by simp; omega) ?_; intro v2 w1 hown2 hg)
  obtain ⟨a2, cap2, rfl, hi2⟩ := hown2.opened
  have hbw := hown'.grown hb' hB (Nat.le_refl _) hg
  have hl2 : (listM s ++ [p]).length ≤ 1000 := by simp; omega
  have HO := Lib.hid (of_list_with s p)
  go_wp2_with (go_at_call 51; refine (rof_any _ _ _ _ (by omega) (by assumption)).mono ?_; rintro e w' ⟨rfl, rfl⟩)
  go_ret
  exact ⟨ret_int HO.out, hbw⟩
end Go.Proofs.Ytbnbakienajhmaa
