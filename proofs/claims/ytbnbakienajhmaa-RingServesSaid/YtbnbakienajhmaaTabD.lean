/- The contracts of the table's numbers: detector. -/
import Derived.Test.YtbnbakienajhmaaTabC
namespace Go.Proofs.Ytbnbakienajhmaa
open Go.RowKit
set_option linter.unusedVariables false

def onT (x : Int) : Nat := if x = 0 then 4617315517961601024 else if x = 1 then 4621819117588971520 else if x = 2 then 4607182418800017408 else 4602678819172646912
def offT (x : Int) : Nat := if x = 0 then 4602678819172646912 else if x = 1 then 4607182418800017408 else 4598175219545276416
theorem run_on (x : Int) (h : 0 ≤ x ∧ x < 4) (w : World) : Sem.run Try.prog (Instr.index 112 (.agg #[.float .f64 4617315517961601024, .float .f64 4621819117588971520, .float .f64 4607182418800017408, .float .f64 4602678819172646912]) (.int .i64 x)) w = .ok (.float .f64 (onT x)) w := by
  rcases (show x = 0 ∨ x = 1 ∨ x = 2 ∨ x = 3 by omega) with rfl | rfl | rfl | rfl <;> kernel_rfl
theorem run_off (x : Int) (h : 0 ≤ x ∧ x < 3) (w : World) : Sem.run Try.prog (Instr.index 113 (.agg #[.float .f64 4602678819172646912, .float .f64 4607182418800017408, .float .f64 4598175219545276416]) (.int .i64 x)) w = .ok (.float .f64 (offT x)) w := by
  rcases (show x = 0 ∨ x = 1 ∨ x = 2 by omega) with rfl | rfl | rfl <;> kernel_rfl
def mulT (x y : Int) : Nat := (FloatKind.f64.format.mul (onT x) (offT y)).getD 0
def tenT (x : Int) : Nat := (FloatKind.f64.format.div (floatOfInt .f64 x) 4621819117588971520).getD 0
theorem run_mulT (x y : Int) (h : 0 ≤ x ∧ x < 4) (k : 0 ≤ y ∧ y < 3) (t : TypeId) (w : World) : Sem.run Try.prog (binOp .mul t (.float .f64 (onT x)) (.float .f64 (offT y))) w = .ok (.float .f64 (mulT x y)) w := by
  rcases (show x = 0 ∨ x = 1 ∨ x = 2 ∨ x = 3 by omega) with rfl | rfl | rfl | rfl <;> rcases (show y = 0 ∨ y = 1 ∨ y = 2 by omega) with rfl | rfl | rfl <;> kernel_rfl
theorem run_tenT (x : Int) (h : 0 ≤ x ∧ x < 6) (t : TypeId) (w : World) : Sem.run Try.prog (binOp .quo t (.float .f64 (floatOfInt FloatKind.f64 x)) (.float .f64 4621819117588971520)) w = .ok (.float .f64 (tenT x)) w := by
  rcases (show x = 0 ∨ x = 1 ∨ x = 2 ∨ x = 3 ∨ x = 4 ∨ x = 5 by omega) with rfl | rfl | rfl | rfl | rfl | rfl <;> kernel_rfl
def detM (zs : List Int) (i : Nat) (n : Int) : Det :=
  { ph := fr zs i n, on := onT (fr zs (i + 1) 4), off := mulT (fr zs (i + 1) 4) (fr zs (i + 2) 3), dl := tenT (fr zs (i + 3) 4), ex := tenT (fr zs (i + 4) 6),
    mon := if fr zs (i + 5) 3 == 1 then 20 + fr zs (i + 6) 60 else 0, mof := if fr zs (i + 5) 9 == 2 then 60 + fr zs (i + 7) 300 else 0 }
set_option maxHeartbeats 8000000 in
set_option maxRecDepth 100000 in
theorem ldet_any (a : Option Addr) (cap : Nat) (zs : List Int) (i : Nat) (n : Int) (w : World) (hl : zs.length ≤ 9223372036854775807) (hi : i ≤ 10000) (hn : 1 ≤ n ∧ n ≤ 8) (hz : Ints w a zs) :
    Calls Try.prog 28 #[.slice a zs.length cap, .int .i64 i, .int .i64 n] w fun e w' => e = .returned (.agg (detC (detM zs i n)).toArray) ∧ Below w.heap.size w w' := by
  have HZ : Hid (∀ w', Below w.heap.size w w' → Ints w' a zs) := Lib.hid fun w' hb => Row1.below hz hb (Nat.le_refl _)
  have HZL := Lib.hid hl
  have e0 := frI_nat zs i n
  have e1 := frI_of zs ((i : Int) + 1) (i + 1) 4 (by omega)
  have e2 := frI_of zs ((i : Int) + 2) (i + 2) 3 (by omega)
  have e3 := frI_of zs ((i : Int) + 3) (i + 3) 4 (by omega)
  have e4 := frI_of zs ((i : Int) + 4) (i + 4) 6 (by omega)
  have e5 := frI_of zs ((i : Int) + 5) (i + 5) 3 (by omega)
  have e5' := frI_of zs ((i : Int) + 5) (i + 5) 9 (by omega)
  have e6 := frI_of zs ((i : Int) + 6) (i + 6) 60 (by omega)
  have e7 := frI_of zs ((i : Int) + 7) (i + 7) 300 (by omega)
  have b0 := fr_bd zs i (n := n) (by omega)
  have b1 := fr_bd zs (i + 1) (n := 4) (by omega)
  have b2 := fr_bd zs (i + 2) (n := 3) (by omega)
  have b3 := fr_bd zs (i + 3) (n := 4) (by omega)
  have b4 := fr_bd zs (i + 4) (n := 6) (by omega)
  have b6 := fr_bd zs (i + 6) (n := 60) (by omega)
  have b7 := fr_bd zs (i + 7) (n := 300) (by omega)
  have r1 := run_on (fr zs (i + 1) 4) b1
  have r2 := run_off (fr zs (i + 2) 3) b2
  have r3 := run_mulT (fr zs (i + 1) 4) (fr zs (i + 2) 3) b1 b2
  have r4 := run_tenT (fr zs (i + 3) 4) (by omega)
  have r5 := run_tenT (fr zs (i + 4) 6) b4
  clear hl hz
  unfold detM
  generalize fr zs i n = x0 at *
  generalize fr zs (i + 1) 4 = x1 at *
  generalize fr zs (i + 2) 3 = x2 at *
  generalize fr zs (i + 3) 4 = x3 at *
  generalize fr zs (i + 4) 6 = x4 at *
  generalize fr zs (i + 5) 3 = x5 at *
  generalize fr zs (i + 5) 9 = x5' at *
  generalize fr zs (i + 6) 60 = x6 at *
  generalize fr zs (i + 7) 300 = x7 at *
  go_enter Try.func28, Try.ntmps28
  go_wp2_with (go_at_call 27; refine (from_any _ _ _ _ _ _ HZL.out (by omega) (by omega) (HZ.out _ (by (repeat' (first | (with_reducible exact Below.refl _ _) | (with_reducible assumption) | (with_reducible refine Below.setCell ?_ ?_ _) | (with_reducible refine Below.alloc ?_ ?_ _) | (with_reducible refine Below.drew ?_) | (with_reducible refine Up.base _ ?_ ?_) | (with_reducible exact LeSize.out) | exact LeSize.out | exact Nat.le_add_right_of_le LeSize.out | exact Nat.le_add_right_of_le (Nat.le_add_right_of_le LeSize.out) | (with_reducible exact Nat.le_refl _) | (simp; done) | (simp; omega)))))).mono ?_; rintro e w' ⟨rfl, rfl⟩)
  (refine wp_region_up_tail 10 (by kernel_rfl) (by kernel_rfl) ?_; simp only [List.take_succ_cons, List.take_zero, List.drop_succ_cons, List.drop_zero]; (repeat (first | go_big_quiet_step ((first | (go_at_call 27; exact Up.pure (from_any _ _ _ _ _ _ HZL.out (by omega) (by omega) (HZ.out _ (by (repeat' (first | (with_reducible exact Below.refl _ _) | (with_reducible assumption) | (with_reducible refine Below.setCell ?_ ?_ _) | (with_reducible refine Below.alloc ?_ ?_ _) | (with_reducible refine Below.drew ?_) | (with_reducible refine Up.base _ ?_ ?_) | (with_reducible exact LeSize.out) | exact LeSize.out | exact Nat.le_add_right_of_le LeSize.out | exact Nat.le_add_right_of_le (Nat.le_add_right_of_le LeSize.out) | (with_reducible exact Nat.le_refl _) | (simp; done) | (simp; omega))))))) | fail)))); refine wpQuiet_nil ?_; rintro _ ⟨u, rfl⟩)
  cases h5 : (x5 == 1)
  all_goals
    cases h9 : (x5' == 2)
    all_goals
      go_wp2_with (go_at_call 27; refine (from_any _ _ _ _ _ _ HZL.out (by omega) (by omega) (HZ.out _ (by (repeat' (first | (with_reducible exact Below.refl _ _) | (with_reducible assumption) | (with_reducible refine Below.setCell ?_ ?_ _) | (with_reducible refine Below.alloc ?_ ?_ _) | (with_reducible refine Below.drew ?_) | (with_reducible refine Up.base _ ?_ ?_) | (with_reducible exact LeSize.out) | exact LeSize.out | exact Nat.le_add_right_of_le LeSize.out | exact Nat.le_add_right_of_le (Nat.le_add_right_of_le LeSize.out) | (with_reducible exact Nat.le_refl _) | (simp; done) | (simp; omega)))))).mono ?_; rintro e w' ⟨rfl, rfl⟩)
      go_returns
      exact ⟨by simp [detC, *], by (repeat' (first | (with_reducible exact Below.refl _ _) | (with_reducible assumption) | (with_reducible refine Below.setCell ?_ ?_ _) | (with_reducible refine Below.alloc ?_ ?_ _) | (with_reducible refine Below.drew ?_) | (with_reducible refine Up.base _ ?_ ?_) | (with_reducible exact LeSize.out) | exact LeSize.out | exact Nat.le_add_right_of_le LeSize.out | exact Nat.le_add_right_of_le (Nat.le_add_right_of_le LeSize.out) | (with_reducible exact Nat.le_refl _) | (simp; done) | (simp; omega)))⟩
end Go.Proofs.Ytbnbakienajhmaa
