/- Part Qj of the proof: ChHa, ChHb. -/
import Derived.Test.YtodgfjgljcinlaaGreatQi
namespace Go.Proofs.YtodgfjgljcinlaaGreat
set_option maxHeartbeats 8000000
set_option maxRecDepth 100000
set_option linter.unusedVariables false
section
open Go.RowKit Go.Shelf
attribute [local go_sem] IsBlk.cell IsBlk.frozen
theorem sY (T : Array Value) [hz : Sz131 T] (on a1 a2 a3 a4 a5 a6 a7 a8 a9 a10 a11 : Int) (b1 b2 b3 b4 : Bool) (w : World)
  (H1 : Hid (∀ W, Below w.heap.size w W → Calls Tryz.prog 148 #[.agg T, .int .i64 a2] W fun e w' => e = .returned (.bool b1) ∧ Below W.heap.size W w'))
  (H2 : Hid (∀ W, Below w.heap.size w W → Calls Tryz.prog 148 #[.agg T, .int .i64 a3] W fun e w' => e = .returned (.bool b2) ∧ Below W.heap.size W w'))
  (H3 : Hid (∀ W, Below w.heap.size w W → Calls Tryz.prog 148 #[.agg T, .int .i64 a4] W fun e w' => e = .returned (.bool b3) ∧ Below W.heap.size W w'))
  (H4 : Hid (∀ W, Below w.heap.size w W → Calls Tryz.prog 149 #[.agg T, .int .i64 a4] W fun e w' => e = .returned (.bool b4) ∧ Below W.heap.size W w'))
  (h1 : (bits .andNot .i64 (bits .or .i64 (bits .or .i64 (bits .or .i64 a1 a2) a3) a4) on != 0) = false) (e2 : (a3 == 0) = false) (e3 : (a4 == 0) = false) (h4 : (bits .and .i64 a3 a1 != 0) = false) (hb1 : b1 = false) (hb2 : b2 = false) (hb3 : b3 = false) (hb4 : b4 = false) (e5 : (a2 != 0) = true) (h8 : ¬ 0 < a8) :
  Calls Tryz.prog 76 #[.agg T, .int .i64 on, .agg #[.int .i64 a1, .int .i64 a2, .int .i64 a3, .int .i64 a4, .int .i64 a5, .int .i64 a6, .int .i64 a7, .int .i64 a8, .int .i64 a9, .int .i64 a10, .int .i64 a11]] w fun e w' => e = .returned (.bool true) ∧ Below w.heap.size w w' := by
 subst hb1
 subst hb2
 subst hb3
 subst hb4
 go_enter Tryz.func76, Tryz.ntmps76
 go_wp2_with fail
 first | refine aN rfl rfl rfl ?_ | refine aM rfl rfl ?_
 go_simp
 go_wp2_with (go_at_call 148; (with_reducible refine (Up.run (H1.out _ ?_)).mono ?_); (focus exact yd); rintro e w' ⟨rfl, u1, rfl⟩)
 go_wp2_with fail
 first | refine aN rfl rfl rfl ?_ | refine aM rfl rfl ?_
 go_simp
 go_wp2_with (go_at_call 148; (with_reducible refine (Up.run (H2.out _ ?_)).mono ?_); (focus exact yd); rintro e w' ⟨rfl, u2, rfl⟩)
 go_wp2_with fail
 first | refine aN rfl rfl rfl ?_ | refine aM rfl rfl ?_
 go_simp
 go_wp2_with (go_at_call 148; (with_reducible refine (Up.run (H3.out _ ?_)).mono ?_); (focus exact yd); rintro e w' ⟨rfl, u3, rfl⟩)
 go_wp2_with fail
 first | refine aN rfl rfl rfl ?_ | refine aM rfl rfl ?_
 go_simp
 go_wp2_with (go_at_call 149; (with_reducible refine (Up.run (H4.out _ ?_)).mono ?_); (focus exact yd); rintro e w' ⟨rfl, u4, rfl⟩)
 all_goals first
  | (go_ret; exact ⟨rfl, by exact yd⟩)
  | (exfalso; rename_i hu _; cases hu)
end
section
open Go.RowKit Go.Shelf
attribute [local go_sem] IsBlk.cell IsBlk.frozen
theorem tU (T : Array Value) [hz : Sz131 T] (on a1 a2 a3 a4 a5 a6 a7 a8 a9 a10 a11 : Int) (b1 b2 b3 b4 : Bool) (w : World)
  (H1 : Hid (∀ W, Below w.heap.size w W → Calls Tryz.prog 148 #[.agg T, .int .i64 a2] W fun e w' => e = .returned (.bool b1) ∧ Below W.heap.size W w'))
  (H2 : Hid (∀ W, Below w.heap.size w W → Calls Tryz.prog 148 #[.agg T, .int .i64 a3] W fun e w' => e = .returned (.bool b2) ∧ Below W.heap.size W w'))
  (H3 : Hid (∀ W, Below w.heap.size w W → Calls Tryz.prog 148 #[.agg T, .int .i64 a4] W fun e w' => e = .returned (.bool b3) ∧ Below W.heap.size W w'))
  (H4 : Hid (∀ W, Below w.heap.size w W → Calls Tryz.prog 149 #[.agg T, .int .i64 a4] W fun e w' => e = .returned (.bool b4) ∧ Below W.heap.size W w'))
  (h1 : (bits .andNot .i64 (bits .or .i64 (bits .or .i64 (bits .or .i64 a1 a2) a3) a4) on != 0) = false) (e2 : (a3 == 0) = false) (e3 : (a4 == 0) = false) (h4 : (bits .and .i64 a3 a1 != 0) = false) (hb1 : b1 = false) (hb2 : b2 = false) (hb3 : b3 = false) (hb4 : b4 = false) (e5 : (a2 != 0) = false) (h8 : 0 < a8) :
  Calls Tryz.prog 76 #[.agg T, .int .i64 on, .agg #[.int .i64 a1, .int .i64 a2, .int .i64 a3, .int .i64 a4, .int .i64 a5, .int .i64 a6, .int .i64 a7, .int .i64 a8, .int .i64 a9, .int .i64 a10, .int .i64 a11]] w fun e w' => e = .returned (.bool true) ∧ Below w.heap.size w w' := by
 subst hb1
 subst hb2
 subst hb3
 subst hb4
 go_enter Tryz.func76, Tryz.ntmps76
 go_wp2_with fail
 first | refine aN rfl rfl rfl ?_ | refine aM rfl rfl ?_
 go_simp
 go_wp2_with (go_at_call 148; (with_reducible refine (Up.run (H1.out _ ?_)).mono ?_); (focus exact yd); rintro e w' ⟨rfl, u1, rfl⟩)
 go_wp2_with fail
 first | refine aN rfl rfl rfl ?_ | refine aM rfl rfl ?_
 go_simp
 go_wp2_with (go_at_call 148; (with_reducible refine (Up.run (H2.out _ ?_)).mono ?_); (focus exact yd); rintro e w' ⟨rfl, u2, rfl⟩)
 go_wp2_with fail
 first | refine aN rfl rfl rfl ?_ | refine aM rfl rfl ?_
 go_simp
 go_wp2_with (go_at_call 148; (with_reducible refine (Up.run (H3.out _ ?_)).mono ?_); (focus exact yd); rintro e w' ⟨rfl, u3, rfl⟩)
 go_wp2_with fail
 first | refine aN rfl rfl rfl ?_ | refine aM rfl rfl ?_
 go_simp
 go_wp2_with (go_at_call 149; (with_reducible refine (Up.run (H4.out _ ?_)).mono ?_); (focus exact yd); rintro e w' ⟨rfl, u4, rfl⟩)
 all_goals first
  | (go_ret; exact ⟨rfl, by exact yd⟩)
  | (exfalso; rename_i hu _; cases hu)
end
end Go.Proofs.YtodgfjgljcinlaaGreat
