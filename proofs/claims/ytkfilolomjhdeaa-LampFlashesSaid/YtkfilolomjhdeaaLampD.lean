/- The contracts of Moving; 'awake' of lamp's laws; the law LampTexts. -/
import Derived.Test.YtkfilolomjhdeaaLampC
namespace Go.Proofs.Ytkfilolomjhdeaa
open Go.ChangeShapes Go.WideShapes Go.ChangeAt Go.RowKit
set_option linter.unusedVariables false

set_option maxHeartbeats 4000000 in
theorem rmoving_any (cs : Array Value) (L : List Int) (w : World) (hL : L.length = 8) (hcs : cs = (L.map (Value.int .i64)).toArray) :
    Calls Try.prog 10 #[.agg cs] w fun e w' => e = .returned (.int .i64 (movK L 8)) ∧ Below w.heap.size w w' := by
  have HC : Hid (∀ k, k < 8 → cs[k]? = some (.int .i64 (L.getD k 0))) := Lib.hid fun k hk => by rw [hcs]; simp [List.getD, show k < L.length by omega]
  clear hcs hL
  go_enter Try.func10, Try.ntmps10
  go_wp2
  go_loopw [3, 4] (fun s i wr => ∃ k : Nat, k ≤ 8 ∧ i = .int .i64 k ∧ s = .int .i64 (movK L k) ∧ Below (w.heap.size + 1) (w.alloc (.cells cs 23)) wr) (fun _ i _ => 8 - (intOf i).toNat)
  case atStart => exact ⟨0, Nat.zero_le _, rfl, by rw [movK_zero], Below.refl _ _⟩
  case round =>
    obtain ⟨k, hk, rfl, rfl, hb⟩ := hrel
    have hB := hb.size
    rw [World.size_alloc] at hB
    have hbx : wr.heap[w.heap.size]? = some (.cells cs 23) := by rw [hb.block _ (by omega)]; exact heap_alloc_here _ _
    by_cases hlt : k < 8
    · have hck : wr.cell? ⟨w.heap.size, k, none⟩ = some (.int .i64 (L.getD k 0)) := laid_cell hbx k (HC.out k hlt)
      clear hbx
      cases hm : mvB (L.getD k 0)
      · have HS := Lib.hid (movK_no hm)
        generalize L.getD k 0 = x at *
        go_wp2_with (first
    | (go_at_call 19; refine (rmoves_any _ _).mono ?_; rintro e w' ⟨rfl, rfl⟩)
    | (go_at_call 20; refine (Up.run (rwith_any _ _ _)).mono ?_; rintro e w' ⟨rfl, u, rfl⟩))
        go_roundw
        case rel => exact ⟨k + 1, by omega, by go_num, by rw [HS.out], hb⟩
        case measure => simp [intOf]; omega
      · have HS := Lib.hid (movK_with hlt hm)
        generalize L.getD k 0 = x at *
        go_wp2_with (first
    | (go_at_call 19; refine (rmoves_any _ _).mono ?_; rintro e w' ⟨rfl, rfl⟩)
    | (go_at_call 20; refine (Up.run (rwith_any _ _ _)).mono ?_; rintro e w' ⟨rfl, u, rfl⟩))
        go_roundw
        case rel => exact ⟨k + 1, by omega, by go_num, by rw [HS.out], hb.trans (u.bel.mono (by omega))⟩
        case measure => simp [intOf]; omega
    · obtain rfl : k = 8 := by omega
      go_wp2
      go_ret
      exact ⟨rfl, by have hb0 := (Below.refl w.heap.size w).alloc (Nat.le_refl _) (.cells cs 23); exact hb0.trans (hb.mono (by omega))⟩
set_option maxHeartbeats 4000000 in
theorem moving_any (cs : Array Value) (L : List Int) (w : World) (hL : L.length = 8) (hcs : cs = (L.map (Value.int .i64)).toArray) :
    Calls Try.prog 9 #[.agg cs] w fun e w' => e = .returned (.int .i64 (movK L 8)) ∧ Below w.heap.size w w' := by
  have HC : Hid (∀ k, k < 8 → cs[k]? = some (.int .i64 (L.getD k 0))) := Lib.hid fun k hk => by rw [hcs]; simp [List.getD, show k < L.length by omega]
  have HS : Hid (cs.size = 8) := Lib.hid (by rw [hcs]; simp [hL])
  clear hcs hL
  go_enter Try.func9, Try.ntmps9
  go_wp2_with (refine wpList_load_whole 23 _ rfl rfl rfl Try.underlying23 rfl (by rw [HS.out]; kernel_rfl) ?_; go_simp)
  go_loop [3, 7] (fun s i => ∃ k : Nat, k ≤ 8 ∧ i = .int .i64 k ∧ s = .int .i64 (movK L k)) (fun _ i => 8 - (intOf i).toNat)
  case atStart => exact ⟨0, Nat.zero_le _, rfl, by rw [movK_zero]⟩
  case round =>
    obtain ⟨k, hk, rfl, rfl⟩ := hrel
    by_cases hlt : k < 8
    · have hidx := run_index_int hlt (HC.out k hlt)
      have h6 := lit6 (L.getD k 0)
      cases hm : mvB (L.getD k 0)
      · have HS2 := Lib.hid (movK_no hm)
        rw [hm] at h6
        generalize L.getD k 0 = x at *
        clear hm
        go_wp2
        go_round
        case rel => exact ⟨k + 1, by omega, by go_num, by rw [HS2.out]⟩
        case measure => simp [intOf]; omega
      · have HS2 := Lib.hid (movK_yes hlt hm)
        rw [hm] at h6
        generalize L.getD k 0 = x at *
        clear hm
        rcases (show k = 0 ∨ k = 1 ∨ k = 2 ∨ k = 3 ∨ k = 4 ∨ k = 5 ∨ k = 6 ∨ k = 7 by omega) with rfl | rfl | rfl | rfl | rfl | rfl | rfl | rfl
        all_goals
          (try simp only [Int.cast_ofNat_Int] at hidx)
          go_wp2
          go_round
          case rel => exact ⟨_ + 1, by omega, rfl, by rw [← HS2.out]; rfl⟩
          case measure => simp [intOf]
    · obtain rfl : k = 8 := by omega
      go_wp2
      go_ret
      exact ⟨rfl, by (repeat' (first | (with_reducible exact Below.refl _ _) | (with_reducible assumption) | (with_reducible refine Below.setCell ?_ ?_ _) | (with_reducible refine Below.alloc ?_ ?_ _) | (with_reducible refine Below.drew ?_) | (with_reducible refine Up.base _ ?_ ?_) | (with_reducible exact LeSize.out) | exact LeSize.out | exact Nat.le_add_right_of_le LeSize.out | exact Nat.le_add_right_of_le (Nat.le_add_right_of_le LeSize.out) | (with_reducible exact Nat.le_refl _) | (simp; done) | (simp; omega)))⟩
theorem textA_any (w : World) : Calls Try.prog 7 #[.agg #[.int .i64 0, .int .i64 12, .int .i64 0, .int .i64 0, .int .i64 0, .int .i64 0, .int .i64 0, .int .i64 0]] w fun e w' => e = .returned (.string { data := #[45, 87, 45, 45, 45, 45, 45, 45] }) ∧ Below w.heap.size w w' :=
  text_any _ [0, 12, 0, 0, 0, 0, 0, 0] w rfl rfl
theorem movA_any (w : World) : Calls Try.prog 9 #[.agg #[.int .i64 0, .int .i64 12, .int .i64 0, .int .i64 0, .int .i64 0, .int .i64 0, .int .i64 0, .int .i64 0]] w fun e w' => e = .returned (.int .i64 2) ∧ Below w.heap.size w w' := by
  have := moving_any _ [0, 12, 0, 0, 0, 0, 0, 0] w rfl rfl
  rwa [show movK [0, 12, 0, 0, 0, 0, 0, 0] 8 = 2 by decide +kernel] at this
set_option maxHeartbeats 4000000 in
theorem awake_any (w : World) : Calls Try.prog 11 #[] w fun e w' => e = .returned (.bool true) ∧ Below w.heap.size w w' := by
  have m1 : showM 1 1 = 12 := rfl
  have m2 : showM 0 0 = 1 := rfl
  go_enter Try.func11, Try.ntmps11
  go_wp2_with (first
    | (go_at_call 13; refine (Up.run (show_any _ _ _ _ _ _ _ _ _ _ _ _ _)).mono ?_; rintro e w' ⟨rfl, u, rfl⟩)
    | (go_at_call 7; refine (Up.run (textA_any _)).mono ?_; rintro e w' ⟨rfl, u, rfl⟩)
    | (go_at_call 9; refine (Up.run (movA_any _)).mono ?_; rintro e w' ⟨rfl, u, rfl⟩))
  go_ret
  exact ⟨rfl, by (repeat' (first | (with_reducible exact Below.refl _ _) | (with_reducible assumption) | (with_reducible refine Below.setCell ?_ ?_ _) | (with_reducible refine Below.alloc ?_ ?_ _) | (with_reducible refine Below.drew ?_) | (with_reducible refine Up.base _ ?_ ?_) | (with_reducible exact LeSize.out) | exact LeSize.out | exact Nat.le_add_right_of_le LeSize.out | exact Nat.le_add_right_of_le (Nat.le_add_right_of_le LeSize.out) | (with_reducible exact Nat.le_refl _) | (simp; done) | (simp; omega)))⟩
end Go.Proofs.Ytkfilolomjhdeaa
