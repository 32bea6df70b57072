/- Part Qc of the proof: TabD, TabE, TabO, TabP, TabQ, TabR, PlnK, PlnB, PlnC. -/
import Derived.Test.YtodgfjgljcinlaaGreatQb
import Derived.Test.YtodgfjgljcinlaaGreatQa
import Derived.Deep.DeepCutAuto
namespace Go.Proofs.YtodgfjgljcinlaaGreat
set_option maxHeartbeats 8000000
set_option maxRecDepth 100000
set_option linter.unusedVariables false
section
open Go.RowKit
def onT (x : Int) : Nat := if x = 0 then 4617315517961601024 else if x = 1 then 4621819117588971520 else if x = 2 then 4607182418800017408 else 4602678819172646912
def aeC (x : Int) : Nat := if x = 0 then 4602678819172646912 else if x = 1 then 4607182418800017408 else 4598175219545276416
theorem aeK (x : Int) (h : 0 ≤ x ∧ x < 4) (w : World) : Sem.run Tryz.prog (Instr.index 204 (.agg #[.float .f64 4617315517961601024, .float .f64 4621819117588971520, .float .f64 4607182418800017408, .float .f64 4602678819172646912]) (.int .i64 x)) w = .ok (.float .f64 (onT x)) w := by
 rcases (show x = 0 ∨ x = 1 ∨ x = 2 ∨ x = 3 by omega) with rfl | rfl | rfl | rfl <;> kernel_rfl
theorem aej (x : Int) (h : 0 ≤ x ∧ x < 3) (w : World) : Sem.run Tryz.prog (Instr.index 205 (.agg #[.float .f64 4602678819172646912, .float .f64 4607182418800017408, .float .f64 4598175219545276416]) (.int .i64 x)) w = .ok (.float .f64 (aeC x)) w := by
 rcases (show x = 0 ∨ x = 1 ∨ x = 2 by omega) with rfl | rfl | rfl <;> kernel_rfl
def aee (x y : Int) : Nat := (FloatKind.f64.format.mul (onT x) (aeC y)).getD 0
def aer (x : Int) : Nat := (FloatKind.f64.format.div (floatOfInt .f64 x) 4621819117588971520).getD 0
theorem adQ (x y : Int) (h : 0 ≤ x ∧ x < 4) (k : 0 ≤ y ∧ y < 3) (t : TypeId) (w : World) : Sem.run Tryz.prog (binOp .mul t (.float .f64 (onT x)) (.float .f64 (aeC y))) w = .ok (.float .f64 (aee x y)) w := by
 rcases (show x = 0 ∨ x = 1 ∨ x = 2 ∨ x = 3 by omega) with rfl | rfl | rfl | rfl <;> rcases (show y = 0 ∨ y = 1 ∨ y = 2 by omega) with rfl | rfl | rfl <;> kernel_rfl
theorem ab9 (x : Int) (h : 0 ≤ x ∧ x < 6) (t : TypeId) (w : World) : Sem.run Tryz.prog (binOp .quo t (.float .f64 (floatOfInt FloatKind.f64 x)) (.float .f64 4621819117588971520)) w = .ok (.float .f64 (aer x)) w := by
 rcases (show x = 0 ∨ x = 1 ∨ x = 2 ∨ x = 3 ∨ x = 4 ∨ x = 5 by omega) with rfl | rfl | rfl | rfl | rfl | rfl <;> kernel_rfl
def zo (zs : List Int) (i : Nat) (n : Int) : Det :=
 {ph := fr zs i n, on := onT (fr zs (i + 1) 4), off := aee (fr zs (i + 1) 4) (fr zs (i + 2) 3), dl := aer (fr zs (i + 3) 4), ex := aer (fr zs (i + 4) 6),
  mon := if fr zs (i + 5) 3 == 1 then 20 + fr zs (i + 6) 60 else 0, mof := if fr zs (i + 5) 9 == 2 then 60 + fr zs (i + 7) 300 else 0 }
theorem adz (a : Option Addr) (cap : Nat) (zs : List Int) (i : Nat) (n : Int) (w : World) (hl : zs.length ≤ 9223372036854775807) (hi : i ≤ 10000) (hn : 1 ≤ n ∧ n ≤ 8) (hz : bQ w a zs) :
  Calls Tryz.prog 87 #[.slice a zs.length cap, .int .i64 i, .int .i64 n] w fun e w' => e = .returned (.agg (aQ (zo zs i n)).toArray) ∧ Below w.heap.size w w' := by
 have HZ : Hid (∀ w', Below w.heap.size w w' → bQ w' a zs) := Lib.hid fun w' hb => bk.below hz hb (Nat.le_refl _)
 have HZL := Lib.hid hl
 have e0 := aaf zs i n
 have e1 := yi zs ((i : Int) + 1) (i + 1) 4 (by omega)
 have e2 := yi zs ((i : Int) + 2) (i + 2) 3 (by omega)
 have e3 := yi zs ((i : Int) + 3) (i + 3) 4 (by omega)
 have e4 := yi zs ((i : Int) + 4) (i + 4) 6 (by omega)
 have e5 := yi zs ((i : Int) + 5) (i + 5) 3 (by omega)
 have e5' := yi zs ((i : Int) + 5) (i + 5) 9 (by omega)
 have e6 := yi zs ((i : Int) + 6) (i + 6) 60 (by omega)
 have e7 := yi zs ((i : Int) + 7) (i + 7) 300 (by omega)
 have b0 := yh zs i (n := n) (by omega)
 have b1 := yh zs (i + 1) (n := 4) (by omega)
 have b2 := yh zs (i + 2) (n := 3) (by omega)
 have b3 := yh zs (i + 3) (n := 4) (by omega)
 have b4 := yh zs (i + 4) (n := 6) (by omega)
 have b6 := yh zs (i + 6) (n := 60) (by omega)
 have b7 := yh zs (i + 7) (n := 300) (by omega)
 have r1 := aeK (fr zs (i + 1) 4) b1
 have r2 := aej (fr zs (i + 2) 3) b2
 have r3 := adQ (fr zs (i + 1) 4) (fr zs (i + 2) 3) b1 b2
 have r4 := ab9 (fr zs (i + 3) 4) (by omega)
 have r5 := ab9 (fr zs (i + 4) 6) b4
 clear hl hz
 unfold zo
 generalize fr zs i n = x0 at *
 generalize fr zs (i + 1) 4 = x1 at *
 generalize fr zs (i + 2) 3 = x2 at *
 generalize fr zs (i + 3) 4 = x3 at *
 generalize fr zs (i + 4) 6 = x4 at *
 generalize fr zs (i + 5) 3 = x5 at *
 generalize fr zs (i + 5) 9 = x5' at *
 generalize fr zs (i + 6) 60 = x6 at *
 generalize fr zs (i + 7) 300 = x7 at *
 go_enter Tryz.func87, Tryz.ntmps87
 go_wp2_with (go_at_call 86; refine (yg _ _ _ _ _ _ HZL.out (by omega) (by omega) (HZ.out _ (by exact yd))).mono ?_; rintro e w' ⟨rfl, rfl⟩)
 (refine aO 10 (by kernel_rfl) (by kernel_rfl) ?_; simp only [List.take_succ_cons, List.take_zero, List.drop_succ_cons, List.drop_zero]; (repeat (first | go_big_quiet_step ((first | (go_at_call 86; exact Up.pure (yg _ _ _ _ _ _ HZL.out (by omega) (by omega) (HZ.out _ (by exact yd)))) | fail)))); refine wpQuiet_nil ?_; rintro _ ⟨u, rfl⟩)
 cases h5 : (x5 == 1)
 all_goals
  cases h9 : (x5' == 2)
  all_goals
   go_wp2_with (go_at_call 86; refine (yg _ _ _ _ _ _ HZL.out (by omega) (by omega) (HZ.out _ (by exact yd))).mono ?_; rintro e w' ⟨rfl, rfl⟩)
   go_returns
   exact ⟨by simp [aQ, *], by exact yd⟩
end
section
open Go.RowKit
def yw (gr : List (List Int × List Int)) (p q : Int) : Int := if gk gr p q then iI (tB [p]) q else tB [p]
theorem zP (T : Array Value) (t : Tab) (p q : Int) (w : World) (hT : ag w T t) :
  Calls Tryz.prog 151 #[.agg T, .int .i64 p, .int .i64 q] w fun e w' => e = .returned (.int .i64 (yw t.gr p q)) ∧ Below w.heap.size w w' := by
 haveI : Sz131 T := ⟨hT.size⟩
 have HT : Hid (∀ w', Below w.heap.size w w' → ag w' T t) := Lib.hid fun w' hb => hT.below hb (Nat.le_refl _)
 have HB : Hid (∀ w', ag w' T t → Calls Tryz.prog 85 #[.agg T, .int .i64 p, .int .i64 q] w' fun e w'' => e = .returned (.bool (gk t.gr p q)) ∧ Below w'.heap.size w' w'') := Lib.hid fun w' h => aaj T t p q w' h
 clear hT
 unfold yw
 generalize gk t.gr p q = bs at *
 cases bs
 all_goals
  go_enter Tryz.func151, Tryz.ntmps151
  go_wp2_with (first | (refine aJ rfl rfl rfl ?_; go_simp) | (go_at_call 110; refine (abJ _ 1 [p] _ (by simp) (cU _ (by simp) rfl)).mono ?_; rintro e w' ⟨rfl, rfl⟩) | (go_at_call 85; refine (Up.run (HB.out _ (HT.out _ (by exact yd)))).mono ?_; rintro e w' ⟨rfl, ub, rfl⟩) | (go_at_call 32; refine (Up.run (abk _ _ _)).mono ?_; rintro e w' ⟨rfl, u, rfl⟩))
  go_ret
  exact ⟨rfl, by exact yd⟩
def adB (x : Int) : Int := if x = 0 then 10000 else if x = 1 then 400 else 20
theorem aei (x : Int) (h : 0 ≤ x ∧ x < 3) (w : World) : Sem.run Tryz.prog (Instr.index 207 (.agg #[.int .i64 10000, .int .i64 400, .int .i64 20]) (.int .i64 x)) w = .ok (.int .i64 (adB x)) w := by
 rcases (show x = 0 ∨ x = 1 ∨ x = 2 by omega) with rfl | rfl | rfl <;> kernel_rfl
theorem acA (x : Int) : 20 ≤ adB x ∧ adB x ≤ 10000 := by unfold adB; split <;> (try split) <;> omega
theorem ab8 (n : Nat) (h : n ≤ 8) (t u : TypeId) (w : World) : Sem.run Tryz.prog (binOp .shl t (.int .i64 1) (.int .u64 (n : Int))) w = .ok (.int .i64 (2 ^ n)) w := by
 rcases (show n = 0 ∨ n = 1 ∨ n = 2 ∨ n = 3 ∨ n = 4 ∨ n = 5 ∨ n = 6 ∨ n = 7 ∨ n = 8 by omega) with rfl | rfl | rfl | rfl | rfl | rfl | rfl | rfl | rfl <;> kernel_rfl
def rlM (gr : List (List Int × List Int)) (zs : List Int) (i n : Nat) : Rl :=
 let p := fr zs (i + 4) (n + 1)
 let dwl := yw gr (fr zs i n) (fr zs (i + 1) n)
 let dly := fr zs (i + 8) 4
 let stay := 1 + fr zs (i + 11) 15
 {bars := bits .andNot .i64 (bits .and .i64 (fr zs (i + 7) 256) (2 ^ n - 1)) dwl, clr := if p < n then yw gr p (fr zs (i + 5) n) else 0, dwl := dwl, ext := yw gr (fr zs (i + 2) n) (fr zs (i + 3) n),
  dly := dly, grn := 1 + fr zs (i + 9) 6, foot := fr zs (i + 10) 6, hold := if p < n then 1 + fr zs (i + 6) 10 else 0, stay := stay,
  most := if fr zs (i + 12) 3 == 1 then stay + fr zs (i + 13) 30 else 0, lim := dly + 1 + adB (fr zs (i + 14) 3) }
theorem acU (T : Array Value) (t : Tab) (a : Option Addr) (cap : Nat) (zs : List Int) (i n : Nat) (w : World) (hT : ag w T t) (hl : zs.length ≤ 9223372036854775807) (hi : i ≤ 10000) (hn : 1 ≤ n ∧ n ≤ 8) (hz : bQ w a zs) :
  Calls Tryz.prog 88 #[.agg T, .slice a zs.length cap, .int .i64 i, .int .i64 n] w fun e w' => e = .returned (.agg (dq (rlM t.gr zs i n)).toArray) ∧ Below w.heap.size w w' := by
 haveI : Sz131 T := ⟨hT.size⟩
 have HT : Hid (∀ w', Below w.heap.size w w' → ag w' T t) := Lib.hid fun w' hb => hT.below hb (Nat.le_refl _)
 have HZ : Hid (∀ w', Below w.heap.size w w' → bQ w' a zs) := Lib.hid fun w' hb => bk.below hz hb (Nat.le_refl _)
 have HZL := Lib.hid hl
 have e0 := aaf zs i n
 have e1 := yi zs ((i : Int) + 1) (i + 1) n (by omega)
 have e2 := yi zs ((i : Int) + 2) (i + 2) n (by omega)
 have e3 := yi zs ((i : Int) + 3) (i + 3) n (by omega)
 have e4 := yi zs ((i : Int) + 4) (i + 4) (n + 1) (by omega)
 have e5 := yi zs ((i : Int) + 5) (i + 5) n (by omega)
 have e6 := yi zs ((i : Int) + 6) (i + 6) 10 (by omega)
 have e7 := yi zs ((i : Int) + 7) (i + 7) 256 (by omega)
 have e8 := yi zs ((i : Int) + 8) (i + 8) 4 (by omega)
 have e9 := yi zs ((i : Int) + 9) (i + 9) 6 (by omega)
 have e10 := yi zs ((i : Int) + 10) (i + 10) 6 (by omega)
 have e11 := yi zs ((i : Int) + 11) (i + 11) 15 (by omega)
 have e12 := yi zs ((i : Int) + 12) (i + 12) 3 (by omega)
 have e13 := yi zs ((i : Int) + 13) (i + 13) 30 (by omega)
 have e14 := yi zs ((i : Int) + 14) (i + 14) 3 (by omega)
 have b6 := yh zs (i + 6) (n := 10) (by omega)
 have b8 := yh zs (i + 8) (n := 4) (by omega)
 have b9 := yh zs (i + 9) (n := 6) (by omega)
 have b11 := yh zs (i + 11) (n := 15) (by omega)
 have b13 := yh zs (i + 13) (n := 30) (by omega)
 have b14 := yh zs (i + 14) (n := 3) (by omega)
 have r1 := aei (fr zs (i + 14) 3) b14
 have r2 := ab8 n hn.2
 have bl := acA (fr zs (i + 14) 3)
 have bp : (1 : Int) ≤ 2 ^ n ∧ (2 : Int) ^ n ≤ 256 := by
  rcases (show n = 1 ∨ n = 2 ∨ n = 3 ∨ n = 4 ∨ n = 5 ∨ n = 6 ∨ n = 7 ∨ n = 8 by omega) with rfl | rfl | rfl | rfl | rfl | rfl | rfl | rfl <;> decide
 clear hl hz hT
 unfold rlM
 generalize fr zs i n = x0 at *
 generalize fr zs (i + 1) n = x1 at *
 generalize fr zs (i + 2) n = x2 at *
 generalize fr zs (i + 3) n = x3 at *
 generalize fr zs (i + 4) (n + 1) = x4 at *
 generalize fr zs (i + 5) n = x5 at *
 generalize fr zs (i + 6) 10 = x6 at *
 generalize fr zs (i + 7) 256 = x7 at *
 generalize fr zs (i + 8) 4 = x8 at *
 generalize fr zs (i + 9) 6 = x9 at *
 generalize fr zs (i + 10) 6 = x10 at *
 generalize fr zs (i + 11) 15 = x11 at *
 generalize fr zs (i + 12) 3 = x12 at *
 generalize fr zs (i + 13) 30 = x13 at *
 generalize fr zs (i + 14) 3 = x14 at *
 go_enter Tryz.func88, Tryz.ntmps88
 go_wp2
 (refine zv 25 24 (by kernel_rfl) (by kernel_rfl) rfl rfl (fun A w => by simp only [go_sem]; rfl) ?_; intro X; simp only [List.take_succ_cons, List.take_zero, List.drop_succ_cons, List.drop_zero, List.eraseIdx_cons_succ, List.eraseIdx_cons_zero]; (repeat (first | (go_big_quiet_want; refine di rfl rfl ?_; simp only [Act.put, List.setIfInBounds_toArray, List.set_cons_succ, List.set_cons_zero]; go_big_quiet_on) | go_big_quiet_step ((first | (go_at_call 86; exact Up.pure (yg _ _ _ _ _ _ HZL.out (by omega) (by omega) (HZ.out _ (by exact yd)))) | (go_at_call 151; exact Up.calls (zP _ _ _ _ _ (HT.out _ (by exact yd)))) | fail)))); refine wpQuiet_nil ?_; clear X; rintro q u hq hO; (try simp at hq); have lO := yR hO; have hO0 := aV hO 0 rfl; have hOf0 := kJ hO 0; have hOj0 := HasCell.of hO0; have hO1 := aV hO 1 rfl; have hOf1 := kJ hO 1; have hOj1 := HasCell.of hO1; have hO2 := aV hO 2 rfl; have hOf2 := kJ hO 2; have hOj2 := HasCell.of hO2; have hO3 := aV hO 3 rfl; have hOf3 := kJ hO 3; have hOj3 := HasCell.of hO3; have hO4 := aV hO 4 rfl; have hOf4 := kJ hO 4; have hOj4 := HasCell.of hO4; have hO5 := aV hO 5 rfl; have hOf5 := kJ hO 5; have hOj5 := HasCell.of hO5; have hO6 := aV hO 6 rfl; have hOf6 := kJ hO 6; have hOj6 := HasCell.of hO6; have hO7 := aV hO 7 rfl; have hOf7 := kJ hO 7; have hOj7 := HasCell.of hO7; have hO8 := aV hO 8 rfl; have hOf8 := kJ hO 8; have hOj8 := HasCell.of hO8; have hO9 := aV hO 9 rfl; have hOf9 := kJ hO 9; have hOj9 := HasCell.of hO9; have hO10 := aV hO 10 rfl; have hOf10 := kJ hO 10; have hOj10 := HasCell.of hO10; clear hO; go_simp)
 haveI : Apart w.heap.size q := ⟨by omega⟩
 haveI : Apart (w.heap.size + 1) q := ⟨by omega⟩
 by_cases h4 : x4 < (n : Int)
 all_goals
  cases h12 : (x12 == 1)
 ·go_wp2_with (go_at_call 86; refine (yg _ _ _ _ _ _ HZL.out (by omega) (by omega) (HZ.out _ (by exact yd))).mono ?_; rintro e w' ⟨rfl, rfl⟩)
  (refine aO 9 (by kernel_rfl) (by kernel_rfl) ?_; simp only [List.take_succ_cons, List.take_zero, List.drop_succ_cons, List.drop_zero]; (repeat (first | (go_big_quiet_want; refine di rfl rfl ?_; simp only [Act.put, List.setIfInBounds_toArray, List.set_cons_succ, List.set_cons_zero]; go_big_quiet_on) | go_big_quiet_step ((first | (go_at_call 86; exact Up.pure (yg _ _ _ _ _ _ HZL.out (by omega) (by omega) (HZ.out _ (by exact yd)))) | (go_at_call 151; exact Up.calls (zP _ _ _ _ _ (HT.out _ (by exact yd)))) | fail)))); refine wpQuiet_nil ?_; rintro _ ⟨u, rfl⟩)
  go_wp2_with (go_at_call 86; refine (yg _ _ _ _ _ _ HZL.out (by omega) (by omega) (HZ.out _ (by exact yd))).mono ?_; rintro e w' ⟨rfl, rfl⟩)
  (refine aO 13 (by kernel_rfl) (by kernel_rfl) ?_; simp only [List.take_succ_cons, List.take_zero, List.drop_succ_cons, List.drop_zero]; (repeat (first | go_big_quiet_step ((first | (go_at_call 86; exact Up.pure (yg _ _ _ _ _ _ HZL.out (by omega) (by omega) (HZ.out _ (by exact yd)))) | fail)))); refine wpQuiet_nil ?_; rintro _ ⟨u, rfl⟩)
  go_wp2_with (go_at_call 86; refine (yg _ _ _ _ _ _ HZL.out (by omega) (by omega) (HZ.out _ (by exact yd))).mono ?_; rintro e w' ⟨rfl, rfl⟩)
  (refine aO 11 (by kernel_rfl) (by kernel_rfl) ?_; simp only [List.take_succ_cons, List.take_zero, List.drop_succ_cons, List.drop_zero]; (repeat (first | go_big_quiet_step ((first | (go_at_call 86; exact Up.pure (yg _ _ _ _ _ _ HZL.out (by omega) (by omega) (HZ.out _ (by exact yd)))) | fail)))); refine wpQuiet_nil ?_; rintro _ ⟨u, rfl⟩)
  go_wp2
  go_returns
  exact ⟨by simp [dq, *], by exact yd⟩
 ·go_wp2_with (go_at_call 86; refine (yg _ _ _ _ _ _ HZL.out (by omega) (by omega) (HZ.out _ (by exact yd))).mono ?_; rintro e w' ⟨rfl, rfl⟩)
  (refine aO 9 (by kernel_rfl) (by kernel_rfl) ?_; simp only [List.take_succ_cons, List.take_zero, List.drop_succ_cons, List.drop_zero]; (repeat (first | (go_big_quiet_want; refine di rfl rfl ?_; simp only [Act.put, List.setIfInBounds_toArray, List.set_cons_succ, List.set_cons_zero]; go_big_quiet_on) | go_big_quiet_step ((first | (go_at_call 86; exact Up.pure (yg _ _ _ _ _ _ HZL.out (by omega) (by omega) (HZ.out _ (by exact yd)))) | (go_at_call 151; exact Up.calls (zP _ _ _ _ _ (HT.out _ (by exact yd)))) | fail)))); refine wpQuiet_nil ?_; rintro _ ⟨u, rfl⟩)
  go_wp2_with (go_at_call 86; refine (yg _ _ _ _ _ _ HZL.out (by omega) (by omega) (HZ.out _ (by exact yd))).mono ?_; rintro e w' ⟨rfl, rfl⟩)
  (refine aO 13 (by kernel_rfl) (by kernel_rfl) ?_; simp only [List.take_succ_cons, List.take_zero, List.drop_succ_cons, List.drop_zero]; (repeat (first | go_big_quiet_step ((first | (go_at_call 86; exact Up.pure (yg _ _ _ _ _ _ HZL.out (by omega) (by omega) (HZ.out _ (by exact yd)))) | fail)))); refine wpQuiet_nil ?_; rintro _ ⟨u, rfl⟩)
  go_wp2_with (go_at_call 86; refine (yg _ _ _ _ _ _ HZL.out (by omega) (by omega) (HZ.out _ (by exact yd))).mono ?_; rintro e w' ⟨rfl, rfl⟩)
  (refine aO 8 (by kernel_rfl) (by kernel_rfl) ?_; simp only [List.take_succ_cons, List.take_zero, List.drop_succ_cons, List.drop_zero]; (repeat (first | go_big_quiet_step ((first | (go_at_call 86; exact Up.pure (yg _ _ _ _ _ _ HZL.out (by omega) (by omega) (HZ.out _ (by exact yd)))) | fail)))); refine wpQuiet_nil ?_; rintro _ ⟨u, rfl⟩)
  go_wp2_with (go_at_call 86; refine (yg _ _ _ _ _ _ HZL.out (by omega) (by omega) (HZ.out _ (by exact yd))).mono ?_; rintro e w' ⟨rfl, rfl⟩)
  (refine aO 11 (by kernel_rfl) (by kernel_rfl) ?_; simp only [List.take_succ_cons, List.take_zero, List.drop_succ_cons, List.drop_zero]; (repeat (first | go_big_quiet_step ((first | (go_at_call 86; exact Up.pure (yg _ _ _ _ _ _ HZL.out (by omega) (by omega) (HZ.out _ (by exact yd)))) | fail)))); refine wpQuiet_nil ?_; rintro _ ⟨u, rfl⟩)
  go_wp2
  go_returns
  exact ⟨by simp [dq, *], by exact yd⟩
 ·go_wp2_with (go_at_call 86; refine (yg _ _ _ _ _ _ HZL.out (by omega) (by omega) (HZ.out _ (by exact yd))).mono ?_; rintro e w' ⟨rfl, rfl⟩)
  (refine aO 13 (by kernel_rfl) (by kernel_rfl) ?_; simp only [List.take_succ_cons, List.take_zero, List.drop_succ_cons, List.drop_zero]; (repeat (first | go_big_quiet_step ((first | (go_at_call 86; exact Up.pure (yg _ _ _ _ _ _ HZL.out (by omega) (by omega) (HZ.out _ (by exact yd)))) | fail)))); refine wpQuiet_nil ?_; rintro _ ⟨u, rfl⟩)
  go_wp2_with (go_at_call 86; refine (yg _ _ _ _ _ _ HZL.out (by omega) (by omega) (HZ.out _ (by exact yd))).mono ?_; rintro e w' ⟨rfl, rfl⟩)
  (refine aO 11 (by kernel_rfl) (by kernel_rfl) ?_; simp only [List.take_succ_cons, List.take_zero, List.drop_succ_cons, List.drop_zero]; (repeat (first | go_big_quiet_step ((first | (go_at_call 86; exact Up.pure (yg _ _ _ _ _ _ HZL.out (by omega) (by omega) (HZ.out _ (by exact yd)))) | fail)))); refine wpQuiet_nil ?_; rintro _ ⟨u, rfl⟩)
  go_wp2
  go_returns
  exact ⟨by simp [dq, *], by exact yd⟩
 ·go_wp2_with (go_at_call 86; refine (yg _ _ _ _ _ _ HZL.out (by omega) (by omega) (HZ.out _ (by exact yd))).mono ?_; rintro e w' ⟨rfl, rfl⟩)
  (refine aO 13 (by kernel_rfl) (by kernel_rfl) ?_; simp only [List.take_succ_cons, List.take_zero, List.drop_succ_cons, List.drop_zero]; (repeat (first | go_big_quiet_step ((first | (go_at_call 86; exact Up.pure (yg _ _ _ _ _ _ HZL.out (by omega) (by omega) (HZ.out _ (by exact yd)))) | fail)))); refine wpQuiet_nil ?_; rintro _ ⟨u, rfl⟩)
  go_wp2_with (go_at_call 86; refine (yg _ _ _ _ _ _ HZL.out (by omega) (by omega) (HZ.out _ (by exact yd))).mono ?_; rintro e w' ⟨rfl, rfl⟩)
  (refine aO 8 (by kernel_rfl) (by kernel_rfl) ?_; simp only [List.take_succ_cons, List.take_zero, List.drop_succ_cons, List.drop_zero]; (repeat (first | go_big_quiet_step ((first | (go_at_call 86; exact Up.pure (yg _ _ _ _ _ _ HZL.out (by omega) (by omega) (HZ.out _ (by exact yd)))) | fail)))); refine wpQuiet_nil ?_; rintro _ ⟨u, rfl⟩)
  go_wp2_with (go_at_call 86; refine (yg _ _ _ _ _ _ HZL.out (by omega) (by omega) (HZ.out _ (by exact yd))).mono ?_; rintro e w' ⟨rfl, rfl⟩)
  (refine aO 11 (by kernel_rfl) (by kernel_rfl) ?_; simp only [List.take_succ_cons, List.take_zero, List.drop_succ_cons, List.drop_zero]; (repeat (first | go_big_quiet_step ((first | (go_at_call 86; exact Up.pure (yg _ _ _ _ _ _ HZL.out (by omega) (by omega) (HZ.out _ (by exact yd)))) | fail)))); refine wpQuiet_nil ?_; rintro _ ⟨u, rfl⟩)
  go_wp2
  go_returns
  exact ⟨by simp [dq, *], by exact yd⟩
end
section
open Go.RowKit
def dT {α : Type} (f : Nat → α) (i : Nat) (x : α) : Nat → α := fun j => if j = i then x else f j
def ph1 (zs : List Int) (n : Nat) : Nat → Phs := fun p => if p < n then phM zs (10 + 12 * p) else vz
def fl1 (n : Nat) : Nat → Int := fun p => if p < n then 1 else 0
def cfC (gr : List (List Int × List Int)) (zs : List Int) (p q : Nat) : Bool := !gk gr p q && fr zs (110 + 8 * p + q) 9 != 1
def cfS (gr : List (List Int × List Int)) (zs : List Int) (p q : Nat) (cf : Nat → Int) : Nat → Int :=
 if cfC gr zs p q then dT (dT cf p (iI (cf p) q)) q (iI (dT cf p (iI (cf p) q) q) p) else cf
def cfQ (gr : List (List Int × List Int)) (zs : List Int) (p : Nat) (cf : Nat → Int) : Nat → Nat → Int
 | 0 => cf
 | q + 1 => cfS gr zs p q (cfQ gr zs p cf q)
def cfP (gr : List (List Int × List Int)) (zs : List Int) : Nat → Nat → Int
 | 0 => fun _ => 0
 | p + 1 => cfQ gr zs p (cfP gr zs p) p
def deM (zs : List Int) (n k m : Nat) : List Det := (List.range m).map fun j => zo zs (180 + 8 * (k - j)) n
def raM (gr : List (List Int × List Int)) (zs : List Int) (n k m : Nat) : List Rl := (List.range m).map fun j => rlM gr zs (260 + 16 * (k - j)) n
def buX (zs : List Int) (n i : Nat) : Bus := ⟨if 1 < bits .and .i64 (fr zs (330 + 2 * i) 256) (2 ^ n - 1) then bits .and .i64 (fr zs (330 + 2 * i) 256) (2 ^ n - 1) else 1, 1 + fr zs (331 + 2 * i) 30⟩
def buM (zs : List Int) (n k m : Nat) : List Bus := (List.range m).map fun j => buX zs n (k - j)
def yJ (t : Tab) : Nat → Int
 | 0 => 0
 | p + 1 => max (yJ t p) (cm t p)
def ee : Tab := ⟨fun _ => vz, [], fun _ => 0, [], [], [], 0, 0, 0, 0, 0, fun _ => 0, 0, 0⟩
def flM (zs : List Int) (n : Nat) : Nat → Int := if fr zs 174 (n + 1) < n then dT (fl1 n) (fr zs 174 (n + 1)).toNat 2 else fl1 n
def zI (zs : List Int) : Tab :=
 let n := (yf zs).1
 let gr := (yf zs).2
 let kd := (fr zs 175 9).toNat
 let kr := (fr zs 176 4 % 3).toNat
 let kb := (fr zs 177 3).toNat
 {ph := ph1 zs n, gr := gr, cf := cfP gr zs n, de := deM zs n kd kd, ra := raM gr zs n kr kr, bu := buM zs n kb kb,
  ext := fr zs 178 12, bud := fr zs 179 40, start := fr zs 180 8, rev := fr zs 181 8, least := fr zs 182 12, fl := flM zs n, win := 0, share := fr zs 183 4 }
def ye (zs : List Int) : Tab := { zI zs with win := if (zI zs).ra.length = 0 then 0 else yJ (zI zs) (yf zs).1 }
theorem cW {n : Nat} {f g : Nat → Value} {i : Nat} {v : Value} (hi : i < n) (h : ∀ j, j < n → g j = if j = i then v else f j) : (aS n f).setIfInBounds i v = aS n g := by
 refine gY (by simp [aE]) fun j hj => ?_
 rw [Array.getElem?_setIfInBounds]
 rw [h j hj]
 by_cases e : i = j
 ·subst e; simp [aE, hi]
 ·rw [if_neg e, if_neg (Ne.symm e), ab _ _ _ hj]
theorem sm {n : Nat} {f g : Nat → Value} {o : Nat} {vs : List Value} (ho : o + vs.length ≤ n) (h : ∀ j, j < n → g j = if o ≤ j ∧ j < o + vs.length then (vs[j - o]?).getD undef else f j) : kk (aS n f) o vs = aS n g := by
 refine gY (by rw [jH, aE]) fun j hj => ?_
 rw [ji, h j hj, aE]
 by_cases e : o ≤ j ∧ j < o + vs.length
 ·rw [if_pos ⟨e.1, e.2, hj⟩, if_pos e, List.getElem?_eq_getElem (by omega)]; rfl
 ·rw [if_neg (by omega), if_neg e, ab _ _ _ hj]
structure TabBd (t : Tab) : Prop where
 lg : t.gr.length ≤ 8
 lr : ∀ i j, (ak t.gr i j).length ≤ 8
 ld : t.de.length ≤ 64
 la : t.ra.length ≤ 64
 lb : t.bu.length ≤ 64
theorem eC (x : Det) : (aQ x).length = 7 := rfl
theorem pt (x : Rl) : (dq x).length = 11 := rfl
theorem nK (x : Bus) : (dm x).length = 2 := rfl
structure TB (w0 wr : World) (b : Nat) (t : Tab) (vg vd vr vb : Value) : Prop where
 blk : wr.heap[b]? = some (.cells (aS 131 (ah t vg vd vr vb)) 34)
 gr : ∃ hs, ew wr (b + 1) vg hs ∧ bK wr (b + 1) hs t.gr
 de : aD 58 7 aQ wr (b + 1) vd t.de
 ra : aD 100 11 dq wr (b + 1) vr t.ra
 bu : aD 110 2 dm wr (b + 1) vb t.bu
 bd : TabBd t
 bel : Below b w0 wr
theorem TB.lt {w0 wr : World} {b : Nat} {t : Tab} {vg vd vr vb : Value} (h : TB w0 wr b t vg vd vr vb) : b < wr.heap.size := (Array.getElem?_eq_some_iff.1 h.blk).1
theorem TB.below {w0 wr w' : World} {b : Nat} {t : Tab} {vg vd vr vb : Value} (h : TB w0 wr b t vg vd vr vb) (hb : Below wr.heap.size wr w') : TB w0 w' b t vg vd vr vb := by
 obtain ⟨hs, h1, h2⟩ := h.gr
 exact ⟨by rw [hb.block _ h.lt]; exact h.blk, ⟨hs, aD.below (C := fI) h1 hb, h2.below hb⟩, h.de.below hb, h.ra.below hb, h.bu.below hb, h.bd, h.bel.trans (hb.mono (Nat.le_of_lt h.lt))⟩
theorem kO {w : World} {base : Nat} {hs : List (Value × Value)} {gr : List (List Int × List Int)} (h : bK w base hs gr) {i j : Nat} (hi : i < gr.length) (hj : j < 2) :
  ∃ a cap, aF fI hs i j = .slice a (ak gr i j).length cap ∧ bQ w a (ak gr i j) := by
 have g1 : gr[i]? = some gr[i] := List.getElem?_eq_getElem hi
 have g2 : hs[i]? = some (hs[i]'(by rw [h.1]; exact hi)) := List.getElem?_eq_getElem (by rw [h.1]; exact hi)
 obtain ⟨o1, o2⟩ := h.2 i _ _ g2 g1
 unfold aF ak
 simp only [g1, g2, Option.bind_some, fI]
 rcases (show j = 0 ∨ j = 1 by omega) with rfl | rfl
 ·obtain ⟨a, cap, e, hi⟩ := o1.opened; exact ⟨a, cap, by simp [e], hi⟩
 ·obtain ⟨a, cap, e, hi⟩ := o2.opened; exact ⟨a, cap, by simp [e], hi⟩
def jl : Value → Option Addr × Nat | .slice a _ c => (a, c) | _ => (none, 0)
theorem TB.isTab {w0 wr : World} {b : Nat} {t : Tab} {vg vd vr vb : Value} (h : TB w0 wr b t vg vd vr vb) : ag wr (aS 131 (ah t vg vd vr vb)) t := by
 obtain ⟨hs, h1, h2⟩ := h.gr
 have h1' : aD 60 2 fI wr (b + 1) vg hs := h1
 obtain ⟨ga, gcap, rfl, _, _, _, r1⟩ := aD.opened pC h1'
 obtain ⟨da, dcap, rfl, _, _, _, r2⟩ := aD.opened eC h.de
 obtain ⟨xa, xcap, rfl, _, _, _, r3⟩ := aD.opened pt h.ra
 obtain ⟨ba, bcap, rfl, _, _, _, r4⟩ := aD.opened nK h.bu
 refine ⟨_, _, _, _, rfl, ⟨⟨ga, gcap, fun i j => jl (aF fI hs i j), by rw [h2.1], ?_, fun i hi j hj => ?_⟩, ⟨_, _, rfl, r2⟩, ⟨_, _, rfl, r3⟩, ⟨_, _, rfl, r4⟩, h.bd.lg, h.bd.lr, h.bd.ld, h.bd.la, h.bd.lb⟩⟩
 ·rw [h2.1] at r1
  refine r1.congr fun i hi j hj => ?_
  obtain ⟨a, cap, e, _⟩ := kO h2 hi hj
  show aF fI hs i j = Value.slice (jl (aF fI hs i j)).1 _ (jl (aF fI hs i j)).2
  rw [e]; rfl
 ·obtain ⟨a, cap, e, hi'⟩ := kO h2 hi hj
  show bQ wr (jl (aF fI hs i j)).1 _
  rw [e]; exact hi'
def tS (w : World) (base : Nat) (T : Array Value) (de : List Det) : Prop := ∃ v, T[113]? = some v ∧ aD 58 7 aQ w base v de
theorem TB.ownDe {w0 wr : World} {b : Nat} {t : Tab} {vg vd vr vb : Value} (h : TB w0 wr b t vg vd vr vb) : tS wr (b + 1) (aS 131 (ah t vg vd vr vb)) t.de := ⟨vd, by rw [ab _ _ _ (by omega)]; rfl, h.de⟩
theorem tS.less {w : World} {base base' : Nat} {T : Array Value} {de : List Det} (h : tS w base T de) (hb : base' ≤ base) : tS w base' T de := by
 obtain ⟨v, h1, h2⟩ := h
 exact ⟨v, h1, h2.less hb⟩
theorem TB.put {w0 wr : World} {b : Nat} {t t' : Tab} {vg vd vr vb : Value} (h : TB w0 wr b t vg vd vr vb) {i : Nat} {v : Value} (hi : i < 131) (ht : ∀ j, j < 131 → ah t' vg vd vr vb j = if j = i then v else ah t vg vd vr vb j)
  (e1 : t'.gr = t.gr) (e2 : t'.de = t.de) (e3 : t'.ra = t.ra) (e4 : t'.bu = t.bu) : TB w0 (wr.setCell ⟨b, i, none⟩ v) b t' vg vd vr vb := by
 obtain ⟨hs, h1, h2⟩ := h.gr
 have hg := cQ wr b i v
 refine ⟨by rw [ao h.blk, cW hi ht], ⟨hs, aD.kept (C := fI) h1 hg (.inr (aD.ne (C := fI) h1 (by omega))), ?_⟩, ?_, ?_, ?_, ⟨by rw [e1]; exact h.bd.lg, by rw [e1]; exact h.bd.lr, by rw [e2]; exact h.bd.ld, by rw [e3]; exact h.bd.la, by rw [e4]; exact h.bd.lb⟩, h.bel.setCell (p := ⟨b, i, none⟩) (Nat.le_refl _) _⟩
 ·rw [e1]; exact h2.kept hg fun v xs h => .inr (h.ne (by omega))
 ·rw [e2]; exact h.de.kept hg (.inr (h.de.ne (by omega)))
 ·rw [e3]; exact h.ra.kept hg (.inr (h.ra.ne (by omega)))
 ·rw [e4]; exact h.bu.kept hg (.inr (h.bu.ne (by omega)))
theorem gO (w : World) (b o : Nat) (vs : List Value) : w.grownBy (w.setCells b o vs) (some b) := by
 refine ⟨?_, ?_, ?_, by rw [aY]; exact Nat.le_refl _, fun k _ hk => ar vs o (by simpa using hk)⟩
 all_goals
  induction vs generalizing w o with
  | nil => rfl
  | cons v r ih => rw [World.setCells, ih]; rfl
theorem TB.putPh {w0 wr : World} {b : Nat} {t : Tab} {vg vd vr vb : Value} (h : TB w0 wr b t vg vd vr vb) {p : Nat} {x : Phs} (hp : p < 8) : TB w0 (wr.setCells b (p * 13) (cy x)) b { t with ph := dT t.ph p x } vg vd vr vb := by
 obtain ⟨hs, h1, h2⟩ := h.gr
 have hg := gO wr b (p * 13) (cy x)
 refine ⟨?_, ⟨hs, aD.kept (C := fI) h1 hg (.inr (aD.ne (C := fI) h1 (by omega))), h2.kept hg fun v xs h => .inr (h.ne (by omega))⟩, h.de.kept hg (.inr (h.de.ne (by omega))), h.ra.kept hg (.inr (h.ra.ne (by omega))), h.bu.kept hg (.inr (h.bu.ne (by omega))), ⟨h.bd.lg, h.bd.lr, h.bd.ld, h.bd.la, h.bd.lb⟩, al _ _ h.bel (Nat.le_refl _)⟩
 rw [ap _ h.blk, sm (g := ah { t with ph := dT t.ph p x } vg vd vr vb) (by show p * 13 + 13 ≤ 131; omega)]
 intro j hj
 show _ = if p * 13 ≤ j ∧ j < p * 13 + 13 then _ else _
 unfold ah
 by_cases h1 : j < 104
 ·rw [if_pos h1, if_pos h1]
  simp only [dT]
  by_cases hj2 : p * 13 ≤ j ∧ j < p * 13 + 13
  ·rw [if_pos hj2, if_pos (by omega), List.getD_eq_getElem?_getD, show j % 13 = j - p * 13 by omega]
  ·rw [if_neg hj2, if_neg (by omega)]
 ·rw [if_neg h1, if_neg h1, if_neg (show ¬(p * 13 ≤ j ∧ j < p * 13 + 13) by omega)]
theorem TB.append {w0 wr w1 : World} {b : Nat} {t : Tab} {vg vd vr vb : Value} (h : TB w0 wr b t vg vd vr vb) {e k n : Nat} {v : Value} {xs : List Value} (hv : wr.ownsRow (b + 1) e k v n xs) (hg : wr.grownBy w1 v.ownBlock) :
  (w1.heap[b]? = some (.cells (aS 131 (ah t vg vd vr vb)) 34)) ∧ (60 ≠ e → 3 ≠ e → ∃ hs, ew w1 (b + 1) vg hs ∧ bK w1 (b + 1) hs t.gr) ∧
  (58 ≠ e → aD 58 7 aQ w1 (b + 1) vd t.de) ∧ (100 ≠ e → aD 100 11 dq w1 (b + 1) vr t.ra) ∧ (110 ≠ e → aD 110 2 dm w1 (b + 1) vb t.bu) ∧ Below b w0 w1 := by
 obtain ⟨hs, h1, h2⟩ := h.gr
 have hlt := h.lt
 have hne : v.ownBlock ≠ some b := by
  rcases hv.2 with ⟨rfl, _⟩ | ⟨g, cap, cur, rfl, hg, _⟩
  ·simp [Value.ownBlock]
  ·simp [Value.ownBlock]; omega
 refine ⟨by rw [hg.block b hlt (fun e => hne e.symm)]; exact h.blk, fun n1 n2 => ⟨hs, aD.kept (C := fI) h1 hg (fw (Ne.symm n1) hv h1), h2.kept hg fun v xs h => fw (Ne.symm n2) hv h⟩, fun n1 => h.de.kept hg (fw (Ne.symm n1) hv h.de), fun n1 => h.ra.kept hg (fw (Ne.symm n1) hv h.ra), fun n1 => h.bu.kept hg (fw (Ne.symm n1) hv h.bu), ?_⟩
 refine h.bel.grown hg (by omega) (fun j hj => ?_)
 rcases hv.2 with ⟨rfl, _⟩ | ⟨g, cap, cur, rfl, hg, _⟩
 ·simp [Value.ownBlock] at hj
 ·simp [Value.ownBlock] at hj; omega
end
section
open Go.RowKit
attribute [local go_sem] IsBlk.cell IsBlk.frozen
theorem adI (zs : List Int) (k : Nat) : dT (ph1 zs k) k (phM zs (10 + 12 * k)) = ph1 zs (k + 1) := by
 funext p; unfold dT ph1
 by_cases h : p = k
 ·subst h; rw [if_pos rfl, if_pos (by omega)]
 ·rw [if_neg h]
  by_cases h2 : p < k
  ·rw [if_pos h2, if_pos (by omega)]
  ·rw [if_neg h2, if_neg (by omega)]
theorem adv (k : Nat) : dT (fl1 k) k 1 = fl1 (k + 1) := by
 funext p; unfold dT fl1
 by_cases h : p = k
 ·subst h; rw [if_pos rfl, if_pos (by omega)]
 ·rw [if_neg h]
  by_cases h2 : p < k
  ·rw [if_pos h2, if_pos (by omega)]
  ·rw [if_neg h2, if_neg (by omega)]
theorem jD : aj = aS 131 (ah ee (.slice none 0 0) (.slice none 0 0) (.slice none 0 0) (.slice none 0 0)) := by kernel_rfl
theorem nu (t : Tab) (gr : List (List Int × List Int)) (v g d r b : Value) (j : Nat) : ah { t with gr := gr } v d r b j = if j = 104 then v else ah t g d r b j := by
 unfold ah
 by_cases h : j = 104
 ·subst h; rfl
 ·simp only [if_neg h]
theorem pU (t : Tab) (k : Nat) (x : Int) (hk : k < 8) (g d r b : Value) (j : Nat) (hj : j < 131) : ah { t with fl := dT t.fl k x } g d r b j = if j = 121 + k then .int .i64 x else ah t g d r b j := by
 unfold ah dT
 by_cases c0 : j < 104
 ·(repeat rw [if_pos c0]); rw [if_neg (show ¬ j = 121 + k by omega)]
 (repeat rw [if_neg c0])
 by_cases c1 : j = 104
 ·(repeat rw [if_pos c1]); rw [if_neg (show ¬ j = 121 + k by omega)]
 (repeat rw [if_neg c1])
 by_cases c2 : j < 113
 ·(repeat rw [if_pos c2]); rw [if_neg (show ¬ j = 121 + k by omega)]
 (repeat rw [if_neg c2])
 by_cases c3 : j = 113
 ·(repeat rw [if_pos c3]); rw [if_neg (show ¬ j = 121 + k by omega)]
 (repeat rw [if_neg c3])
 by_cases c4 : j = 114
 ·(repeat rw [if_pos c4]); rw [if_neg (show ¬ j = 121 + k by omega)]
 (repeat rw [if_neg c4])
 by_cases c5 : j = 115
 ·(repeat rw [if_pos c5]); rw [if_neg (show ¬ j = 121 + k by omega)]
 (repeat rw [if_neg c5])
 by_cases c6 : j = 116
 ·(repeat rw [if_pos c6]); rw [if_neg (show ¬ j = 121 + k by omega)]
 (repeat rw [if_neg c6])
 by_cases c7 : j = 117
 ·(repeat rw [if_pos c7]); rw [if_neg (show ¬ j = 121 + k by omega)]
 (repeat rw [if_neg c7])
 by_cases c8 : j = 118
 ·(repeat rw [if_pos c8]); rw [if_neg (show ¬ j = 121 + k by omega)]
 (repeat rw [if_neg c8])
 by_cases c9 : j = 119
 ·(repeat rw [if_pos c9]); rw [if_neg (show ¬ j = 121 + k by omega)]
 (repeat rw [if_neg c9])
 by_cases c10 : j = 120
 ·(repeat rw [if_pos c10]); rw [if_neg (show ¬ j = 121 + k by omega)]
 (repeat rw [if_neg c10])
 by_cases c11 : j < 129
 ·(repeat rw [if_pos c11])
  show Value.int .i64 (if j - 121 = k then x else t.fl (j - 121)) = _
  by_cases h : j = 121 + k
  ·rw [if_pos h, if_pos (by omega)]
  ·rw [if_neg h, if_neg (by omega)]
 (repeat rw [if_neg c11])
 by_cases c12 : j = 129
 ·(repeat rw [if_pos c12]); rw [if_neg (show ¬ j = 121 + k by omega)]
 (repeat rw [if_neg c12])
 rw [if_neg (show ¬ j = 121 + k by omega)]
theorem ac8 (t : Tab) (k : Nat) (x : Int) (hk : k < 8) (g d r b : Value) (j : Nat) (hj : j < 131) : ah { t with cf := dT t.cf k x } g d r b j = if j = 105 + k then .int .i64 x else ah t g d r b j := by
 unfold ah dT
 by_cases c0 : j < 104
 ·(repeat rw [if_pos c0]); rw [if_neg (show ¬ j = 105 + k by omega)]
 (repeat rw [if_neg c0])
 by_cases c1 : j = 104
 ·(repeat rw [if_pos c1]); rw [if_neg (show ¬ j = 105 + k by omega)]
 (repeat rw [if_neg c1])
 by_cases c2 : j < 113
 ·(repeat rw [if_pos c2])
  show Value.int .i64 (if j - 105 = k then x else t.cf (j - 105)) = _
  by_cases h : j = 105 + k
  ·rw [if_pos h, if_pos (by omega)]
  ·rw [if_neg h, if_neg (by omega)]
 (repeat rw [if_neg c2])
 by_cases c3 : j = 113
 ·(repeat rw [if_pos c3]); rw [if_neg (show ¬ j = 105 + k by omega)]
 (repeat rw [if_neg c3])
 by_cases c4 : j = 114
 ·(repeat rw [if_pos c4]); rw [if_neg (show ¬ j = 105 + k by omega)]
 (repeat rw [if_neg c4])
 by_cases c5 : j = 115
 ·(repeat rw [if_pos c5]); rw [if_neg (show ¬ j = 105 + k by omega)]
 (repeat rw [if_neg c5])
 by_cases c6 : j = 116
 ·(repeat rw [if_pos c6]); rw [if_neg (show ¬ j = 105 + k by omega)]
 (repeat rw [if_neg c6])
 by_cases c7 : j = 117
 ·(repeat rw [if_pos c7]); rw [if_neg (show ¬ j = 105 + k by omega)]
 (repeat rw [if_neg c7])
 by_cases c8 : j = 118
 ·(repeat rw [if_pos c8]); rw [if_neg (show ¬ j = 105 + k by omega)]
 (repeat rw [if_neg c8])
 by_cases c9 : j = 119
 ·(repeat rw [if_pos c9]); rw [if_neg (show ¬ j = 105 + k by omega)]
 (repeat rw [if_neg c9])
 by_cases c10 : j = 120
 ·(repeat rw [if_pos c10]); rw [if_neg (show ¬ j = 105 + k by omega)]
 (repeat rw [if_neg c10])
 by_cases c11 : j < 129
 ·(repeat rw [if_pos c11]); rw [if_neg (show ¬ j = 105 + k by omega)]
 (repeat rw [if_neg c11])
 by_cases c12 : j = 129
 ·(repeat rw [if_pos c12]); rw [if_neg (show ¬ j = 105 + k by omega)]
 (repeat rw [if_neg c12])
 rw [if_neg (show ¬ j = 105 + k by omega)]
theorem TB.rows {X w' : World} {b : Nat} {gr : List (List Int × List Int)} (hX : b + 1 = X.heap.size) (h : RowsEnd X w' b aj gr) (lg : gr.length ≤ 8) (lr : ∀ i j, (ak gr i j).length ≤ 8) :
  ∃ vg, TB X w' b { ee with gr := gr } vg (.slice none 0 0) (.slice none 0 0) (.slice none 0 0) := by
 obtain ⟨v, hs, hb, h1, h2⟩ := h.out
 rw [← hX] at h1 h2
 refine ⟨v, ?_, ⟨hs, h1, h2⟩, aD.nil _ _, aD.nil _ _, aD.nil _ _, ⟨lg, lr, by simp [ee], by simp [ee], by simp [ee]⟩, h.below⟩
 rw [hb, jD, cW (g := ah { ee with gr := gr } v (.slice none 0 0) (.slice none 0 0) (.slice none 0 0)) (by omega) fun j _ => nu _ _ _ _ _ _ _ _]
theorem abi (zs : List Int) (k : Nat) : ∀ g i j, (ak (yk zs k g).2 i j).length ≤ 8
 | 0, i, j => by simp [yk, ak]
 | g + 1, i, j => by
  simp only [yk, ak]
  rcases Nat.lt_trichotomy i (yk zs k g).2.length with hi | hi | hi
  ·rw [List.getElem?_append_left hi]; exact abi zs k g i j
  ·subst hi
   rw [List.getElem?_append_right (Nat.le_refl _)]
   simp only [Nat.sub_self, List.getElem?_cons_zero]
   split <;> simp [yj, yr] <;> omega
  ·rw [List.getElem?_eq_none (by simp; omega)]; simp
theorem TB.world {w X wr : World} {b : Nat} {t : Tab} {vg vd vr vb : Value} (h : TB X wr b t vg vd vr vb) (hX : Below w.heap.size w X) (hb : w.heap.size ≤ b) : Below w.heap.size w wr := hX.trans (h.bel.mono hb)
theorem TB.putP {w0 wr : World} {b p : Nat} {x : Phs} {ph : Nat → Phs} {gr : List (List Int × List Int)} {cf : Nat → Int} {de : List Det} {ra : List Rl} {bu : List Bus} {e0 e1 e2 e3 e4 : Int} {fl : Nat → Int} {wn sh : Int} {vg vd vr vb : Value} (h : TB w0 wr b ⟨ph, gr, cf, de, ra, bu, e0, e1, e2, e3, e4, fl, wn, sh⟩ vg vd vr vb) (hp : p < 8) : TB w0 (wr.setCells b (p * 13) (cy x)) b ⟨dT ph p x, gr, cf, de, ra, bu, e0, e1, e2, e3, e4, fl, wn, sh⟩ vg vd vr vb := h.putPh hp
theorem TB.putFl {w0 wr : World} {b k : Nat} {x : Int} {ph : Nat → Phs} {gr : List (List Int × List Int)} {cf : Nat → Int} {de : List Det} {ra : List Rl} {bu : List Bus} {e0 e1 e2 e3 e4 : Int} {fl : Nat → Int} {wn sh : Int} {vg vd vr vb : Value} (h : TB w0 wr b ⟨ph, gr, cf, de, ra, bu, e0, e1, e2, e3, e4, fl, wn, sh⟩ vg vd vr vb) (hk : k < 8) : TB w0 (wr.setCell ⟨b, 121 + k, none⟩ (.int .i64 x)) b ⟨ph, gr, cf, de, ra, bu, e0, e1, e2, e3, e4, dT fl k x, wn, sh⟩ vg vd vr vb := h.put (by omega) (fun j hj => pU ⟨ph, gr, cf, de, ra, bu, e0, e1, e2, e3, e4, fl, wn, sh⟩ k x hk _ _ _ _ j hj) rfl rfl rfl rfl
theorem TB.putCf {w0 wr : World} {b k : Nat} {x : Int} {ph : Nat → Phs} {gr : List (List Int × List Int)} {cf : Nat → Int} {de : List Det} {ra : List Rl} {bu : List Bus} {e0 e1 e2 e3 e4 : Int} {fl : Nat → Int} {wn sh : Int} {vg vd vr vb : Value} (h : TB w0 wr b ⟨ph, gr, cf, de, ra, bu, e0, e1, e2, e3, e4, fl, wn, sh⟩ vg vd vr vb) (hk : k < 8) : TB w0 (wr.setCell ⟨b, 105 + k, none⟩ (.int .i64 x)) b ⟨ph, gr, dT cf k x, de, ra, bu, e0, e1, e2, e3, e4, fl, wn, sh⟩ vg vd vr vb := h.put (by omega) (fun j hj => ac8 ⟨ph, gr, cf, de, ra, bu, e0, e1, e2, e3, e4, fl, wn, sh⟩ k x hk _ _ _ _ j hj) rfl rfl rfl rfl
theorem TB.putExt {w0 wr : World} {b : Nat} {x : Int} {ph : Nat → Phs} {gr : List (List Int × List Int)} {cf : Nat → Int} {de : List Det} {ra : List Rl} {bu : List Bus} {e0 e1 e2 e3 e4 : Int} {fl : Nat → Int} {wn sh : Int} {vg vd vr vb : Value} (h : TB w0 wr b ⟨ph, gr, cf, de, ra, bu, e0, e1, e2, e3, e4, fl, wn, sh⟩ vg vd vr vb) : TB w0 (wr.setCell ⟨b, 116, none⟩ (.int .i64 x)) b ⟨ph, gr, cf, de, ra, bu, x, e1, e2, e3, e4, fl, wn, sh⟩ vg vd vr vb := by
 refine h.put (by omega) (fun j hj => ?_) rfl rfl rfl rfl
 by_cases h0 : j = 116
 ·subst h0; rfl
 rw [if_neg h0]
 unfold ah
 by_cases c0 : j < 104
 ·(repeat rw [if_pos c0])
 (repeat rw [if_neg c0])
 by_cases c1 : j = 104
 ·(repeat rw [if_pos c1])
 (repeat rw [if_neg c1])
 by_cases c2 : j < 113
 ·(repeat rw [if_pos c2])
 (repeat rw [if_neg c2])
 by_cases c3 : j = 113
 ·(repeat rw [if_pos c3])
 (repeat rw [if_neg c3])
 by_cases c4 : j = 114
 ·(repeat rw [if_pos c4])
 (repeat rw [if_neg c4])
 by_cases c5 : j = 115
 ·(repeat rw [if_pos c5])
 (repeat rw [if_neg c5])
 (repeat rw [if_neg h0])
theorem TB.putBud {w0 wr : World} {b : Nat} {x : Int} {ph : Nat → Phs} {gr : List (List Int × List Int)} {cf : Nat → Int} {de : List Det} {ra : List Rl} {bu : List Bus} {e0 e1 e2 e3 e4 : Int} {fl : Nat → Int} {wn sh : Int} {vg vd vr vb : Value} (h : TB w0 wr b ⟨ph, gr, cf, de, ra, bu, e0, e1, e2, e3, e4, fl, wn, sh⟩ vg vd vr vb) : TB w0 (wr.setCell ⟨b, 117, none⟩ (.int .i64 x)) b ⟨ph, gr, cf, de, ra, bu, e0, x, e2, e3, e4, fl, wn, sh⟩ vg vd vr vb := by
 refine h.put (by omega) (fun j hj => ?_) rfl rfl rfl rfl
 by_cases h0 : j = 117
 ·subst h0; rfl
 rw [if_neg h0]
 unfold ah
 by_cases c0 : j < 104
 ·(repeat rw [if_pos c0])
 (repeat rw [if_neg c0])
 by_cases c1 : j = 104
 ·(repeat rw [if_pos c1])
 (repeat rw [if_neg c1])
 by_cases c2 : j < 113
 ·(repeat rw [if_pos c2])
 (repeat rw [if_neg c2])
 by_cases c3 : j = 113
 ·(repeat rw [if_pos c3])
 (repeat rw [if_neg c3])
 by_cases c4 : j = 114
 ·(repeat rw [if_pos c4])
 (repeat rw [if_neg c4])
 by_cases c5 : j = 115
 ·(repeat rw [if_pos c5])
 (repeat rw [if_neg c5])
 by_cases c6 : j = 116
 ·(repeat rw [if_pos c6])
 (repeat rw [if_neg c6])
 (repeat rw [if_neg h0])
theorem TB.putStart {w0 wr : World} {b : Nat} {x : Int} {ph : Nat → Phs} {gr : List (List Int × List Int)} {cf : Nat → Int} {de : List Det} {ra : List Rl} {bu : List Bus} {e0 e1 e2 e3 e4 : Int} {fl : Nat → Int} {wn sh : Int} {vg vd vr vb : Value} (h : TB w0 wr b ⟨ph, gr, cf, de, ra, bu, e0, e1, e2, e3, e4, fl, wn, sh⟩ vg vd vr vb) : TB w0 (wr.setCell ⟨b, 118, none⟩ (.int .i64 x)) b ⟨ph, gr, cf, de, ra, bu, e0, e1, x, e3, e4, fl, wn, sh⟩ vg vd vr vb := by
 refine h.put (by omega) (fun j hj => ?_) rfl rfl rfl rfl
 by_cases h0 : j = 118
 ·subst h0; rfl
 rw [if_neg h0]
 unfold ah
 by_cases c0 : j < 104
 ·(repeat rw [if_pos c0])
 (repeat rw [if_neg c0])
 by_cases c1 : j = 104
 ·(repeat rw [if_pos c1])
 (repeat rw [if_neg c1])
 by_cases c2 : j < 113
 ·(repeat rw [if_pos c2])
 (repeat rw [if_neg c2])
 by_cases c3 : j = 113
 ·(repeat rw [if_pos c3])
 (repeat rw [if_neg c3])
 by_cases c4 : j = 114
 ·(repeat rw [if_pos c4])
 (repeat rw [if_neg c4])
 by_cases c5 : j = 115
 ·(repeat rw [if_pos c5])
 (repeat rw [if_neg c5])
 by_cases c6 : j = 116
 ·(repeat rw [if_pos c6])
 (repeat rw [if_neg c6])
 by_cases c7 : j = 117
 ·(repeat rw [if_pos c7])
 (repeat rw [if_neg c7])
 (repeat rw [if_neg h0])
theorem TB.putRev {w0 wr : World} {b : Nat} {x : Int} {ph : Nat → Phs} {gr : List (List Int × List Int)} {cf : Nat → Int} {de : List Det} {ra : List Rl} {bu : List Bus} {e0 e1 e2 e3 e4 : Int} {fl : Nat → Int} {wn sh : Int} {vg vd vr vb : Value} (h : TB w0 wr b ⟨ph, gr, cf, de, ra, bu, e0, e1, e2, e3, e4, fl, wn, sh⟩ vg vd vr vb) : TB w0 (wr.setCell ⟨b, 119, none⟩ (.int .i64 x)) b ⟨ph, gr, cf, de, ra, bu, e0, e1, e2, x, e4, fl, wn, sh⟩ vg vd vr vb := by
 refine h.put (by omega) (fun j hj => ?_) rfl rfl rfl rfl
 by_cases h0 : j = 119
 ·subst h0; rfl
 rw [if_neg h0]
 unfold ah
 by_cases c0 : j < 104
 ·(repeat rw [if_pos c0])
 (repeat rw [if_neg c0])
 by_cases c1 : j = 104
 ·(repeat rw [if_pos c1])
 (repeat rw [if_neg c1])
 by_cases c2 : j < 113
 ·(repeat rw [if_pos c2])
 (repeat rw [if_neg c2])
 by_cases c3 : j = 113
 ·(repeat rw [if_pos c3])
 (repeat rw [if_neg c3])
 by_cases c4 : j = 114
 ·(repeat rw [if_pos c4])
 (repeat rw [if_neg c4])
 by_cases c5 : j = 115
 ·(repeat rw [if_pos c5])
 (repeat rw [if_neg c5])
 by_cases c6 : j = 116
 ·(repeat rw [if_pos c6])
 (repeat rw [if_neg c6])
 by_cases c7 : j = 117
 ·(repeat rw [if_pos c7])
 (repeat rw [if_neg c7])
 by_cases c8 : j = 118
 ·(repeat rw [if_pos c8])
 (repeat rw [if_neg c8])
 (repeat rw [if_neg h0])
theorem TB.putLeast {w0 wr : World} {b : Nat} {x : Int} {ph : Nat → Phs} {gr : List (List Int × List Int)} {cf : Nat → Int} {de : List Det} {ra : List Rl} {bu : List Bus} {e0 e1 e2 e3 e4 : Int} {fl : Nat → Int} {wn sh : Int} {vg vd vr vb : Value} (h : TB w0 wr b ⟨ph, gr, cf, de, ra, bu, e0, e1, e2, e3, e4, fl, wn, sh⟩ vg vd vr vb) : TB w0 (wr.setCell ⟨b, 120, none⟩ (.int .i64 x)) b ⟨ph, gr, cf, de, ra, bu, e0, e1, e2, e3, x, fl, wn, sh⟩ vg vd vr vb := by
 refine h.put (by omega) (fun j hj => ?_) rfl rfl rfl rfl
 by_cases h0 : j = 120
 ·subst h0; rfl
 rw [if_neg h0]
 unfold ah
 by_cases c0 : j < 104
 ·(repeat rw [if_pos c0])
 (repeat rw [if_neg c0])
 by_cases c1 : j = 104
 ·(repeat rw [if_pos c1])
 (repeat rw [if_neg c1])
 by_cases c2 : j < 113
 ·(repeat rw [if_pos c2])
 (repeat rw [if_neg c2])
 by_cases c3 : j = 113
 ·(repeat rw [if_pos c3])
 (repeat rw [if_neg c3])
 by_cases c4 : j = 114
 ·(repeat rw [if_pos c4])
 (repeat rw [if_neg c4])
 by_cases c5 : j = 115
 ·(repeat rw [if_pos c5])
 (repeat rw [if_neg c5])
 by_cases c6 : j = 116
 ·(repeat rw [if_pos c6])
 (repeat rw [if_neg c6])
 by_cases c7 : j = 117
 ·(repeat rw [if_pos c7])
 (repeat rw [if_neg c7])
 by_cases c8 : j = 118
 ·(repeat rw [if_pos c8])
 (repeat rw [if_neg c8])
 by_cases c9 : j = 119
 ·(repeat rw [if_pos c9])
 (repeat rw [if_neg c9])
 (repeat rw [if_neg h0])
theorem TB.putWin {w0 wr : World} {b : Nat} {x : Int} {ph : Nat → Phs} {gr : List (List Int × List Int)} {cf : Nat → Int} {de : List Det} {ra : List Rl} {bu : List Bus} {e0 e1 e2 e3 e4 : Int} {fl : Nat → Int} {wn sh : Int} {vg vd vr vb : Value} (h : TB w0 wr b ⟨ph, gr, cf, de, ra, bu, e0, e1, e2, e3, e4, fl, wn, sh⟩ vg vd vr vb) : TB w0 (wr.setCell ⟨b, 129, none⟩ (.int .i64 x)) b ⟨ph, gr, cf, de, ra, bu, e0, e1, e2, e3, e4, fl, x, sh⟩ vg vd vr vb := by
 refine h.put (by omega) (fun j hj => ?_) rfl rfl rfl rfl
 by_cases h0 : j = 129
 ·subst h0; rfl
 rw [if_neg h0]
 unfold ah
 by_cases c0 : j < 104
 ·(repeat rw [if_pos c0])
 (repeat rw [if_neg c0])
 by_cases c1 : j = 104
 ·(repeat rw [if_pos c1])
 (repeat rw [if_neg c1])
 by_cases c2 : j < 113
 ·(repeat rw [if_pos c2])
 (repeat rw [if_neg c2])
 by_cases c3 : j = 113
 ·(repeat rw [if_pos c3])
 (repeat rw [if_neg c3])
 by_cases c4 : j = 114
 ·(repeat rw [if_pos c4])
 (repeat rw [if_neg c4])
 by_cases c5 : j = 115
 ·(repeat rw [if_pos c5])
 (repeat rw [if_neg c5])
 by_cases c6 : j = 116
 ·(repeat rw [if_pos c6])
 (repeat rw [if_neg c6])
 by_cases c7 : j = 117
 ·(repeat rw [if_pos c7])
 (repeat rw [if_neg c7])
 by_cases c8 : j = 118
 ·(repeat rw [if_pos c8])
 (repeat rw [if_neg c8])
 by_cases c9 : j = 119
 ·(repeat rw [if_pos c9])
 (repeat rw [if_neg c9])
 by_cases c10 : j = 120
 ·(repeat rw [if_pos c10])
 (repeat rw [if_neg c10])
 by_cases c11 : j < 129
 ·(repeat rw [if_pos c11])
 (repeat rw [if_neg c11])
 (repeat rw [if_neg h0])
theorem TB.putShare {w0 wr : World} {b : Nat} {x : Int} {ph : Nat → Phs} {gr : List (List Int × List Int)} {cf : Nat → Int} {de : List Det} {ra : List Rl} {bu : List Bus} {e0 e1 e2 e3 e4 : Int} {fl : Nat → Int} {wn sh : Int} {vg vd vr vb : Value} (h : TB w0 wr b ⟨ph, gr, cf, de, ra, bu, e0, e1, e2, e3, e4, fl, wn, sh⟩ vg vd vr vb) : TB w0 (wr.setCell ⟨b, 130, none⟩ (.int .i64 x)) b ⟨ph, gr, cf, de, ra, bu, e0, e1, e2, e3, e4, fl, wn, x⟩ vg vd vr vb := by
 refine h.put (by omega) (fun j hj => ?_) rfl rfl rfl rfl
 by_cases h0 : j = 130
 ·subst h0; rfl
 rw [if_neg h0]
 unfold ah
 by_cases c0 : j < 104
 ·(repeat rw [if_pos c0])
 (repeat rw [if_neg c0])
 by_cases c1 : j = 104
 ·(repeat rw [if_pos c1])
 (repeat rw [if_neg c1])
 by_cases c2 : j < 113
 ·(repeat rw [if_pos c2])
 (repeat rw [if_neg c2])
 by_cases c3 : j = 113
 ·(repeat rw [if_pos c3])
 (repeat rw [if_neg c3])
 by_cases c4 : j = 114
 ·(repeat rw [if_pos c4])
 (repeat rw [if_neg c4])
 by_cases c5 : j = 115
 ·(repeat rw [if_pos c5])
 (repeat rw [if_neg c5])
 by_cases c6 : j = 116
 ·(repeat rw [if_pos c6])
 (repeat rw [if_neg c6])
 by_cases c7 : j = 117
 ·(repeat rw [if_pos c7])
 (repeat rw [if_neg c7])
 by_cases c8 : j = 118
 ·(repeat rw [if_pos c8])
 (repeat rw [if_neg c8])
 by_cases c9 : j = 119
 ·(repeat rw [if_pos c9])
 (repeat rw [if_neg c9])
 by_cases c10 : j = 120
 ·(repeat rw [if_pos c10])
 (repeat rw [if_neg c10])
 by_cases c11 : j < 129
 ·(repeat rw [if_pos c11])
 (repeat rw [if_neg c11])
 by_cases c12 : j = 129
 ·(repeat rw [if_pos c12])
 (repeat rw [if_neg c12])
 omega
theorem fH : (Tryz.prog.info? 58).map (fun i => (i.zero, i.size, i.bytes)) = some (some (.agg #[.int .i64 0, .float .f64 0, .float .f64 0, .float .f64 0, .float .f64 0, .int .i64 0, .int .i64 0]), 7, 56) := by kernel_rfl
theorem qi : (Tryz.prog.info? 100).map (fun i => (i.zero, i.size, i.bytes)) = some (some (.agg #[.int .i64 0, .int .i64 0, .int .i64 0, .int .i64 0, .int .i64 0, .int .i64 0, .int .i64 0, .int .i64 0, .int .i64 0, .int .i64 0, .int .i64 0]), 11, 88) := by kernel_rfl
theorem tr : (Tryz.prog.info? 110).map (fun i => (i.zero, i.size, i.bytes)) = some (some (.agg #[.int .i64 0, .int .i64 0]), 2, 16) := by kernel_rfl
theorem TB.appDe {w0 wr w1 : World} {b : Nat} {x : Det} {v' : Value} {ph : Nat → Phs} {gr : List (List Int × List Int)} {cf : Nat → Int} {de : List Det} {ra : List Rl} {bu : List Bus} {e0 e1 e2 e3 e4 : Int} {fl : Nat → Int} {wn sh : Int} {vg vd vr vb : Value} (h : TB w0 wr b ⟨ph, gr, cf, de, ra, bu, e0, e1, e2, e3, e4, fl, wn, sh⟩ vg vd vr vb) (hg : wr.grownBy w1 vd.ownBlock) (hn : aD 58 7 aQ w1 (b + 1) v' (de ++ [x])) (hl : de.length < 64) : TB w0 (w1.setCell ⟨b, 113, none⟩ v') b ⟨ph, gr, cf, de ++ [x], ra, bu, e0, e1, e2, e3, e4, fl, wn, sh⟩ vg v' vr vb := by
 obtain ⟨h1, h2, h3, h4, h5, h6⟩ := h.append h.de hg
 obtain ⟨hs, g1, g2⟩ := h2 (by decide) (by decide)
 have hb := cQ w1 b 113 v'
 have n := h.bd
 refine ⟨?_, ⟨hs, aD.kept (C := fI) g1 hb (.inr (aD.ne (C := fI) g1 (by omega))), g2.kept hb fun v xs h => .inr (h.ne (by omega))⟩, (hn).kept hb (.inr ((hn).ne (by omega))), ((h4 (by decide))).kept hb (.inr (((h4 (by decide))).ne (by omega))), ((h5 (by decide))).kept hb (.inr (((h5 (by decide))).ne (by omega))), ⟨n.lg, n.lr, by simp only [List.length_append, List.length_cons, List.length_nil]; omega, n.la, n.lb⟩, h6.setCell (p := ⟨b, 113, none⟩) (Nat.le_refl _) _⟩
 rw [ao h1, cW (g := ah ⟨ph, gr, cf, de ++ [x], ra, bu, e0, e1, e2, e3, e4, fl, wn, sh⟩ vg v' vr vb) (by omega) fun j hj => ?_]
 by_cases h0 : j = 113
 ·subst h0; rfl
 rw [if_neg h0]
 unfold ah
 by_cases c0 : j < 104
 ·(repeat rw [if_pos c0])
 (repeat rw [if_neg c0])
 by_cases c1 : j = 104
 ·(repeat rw [if_pos c1])
 (repeat rw [if_neg c1])
 by_cases c2 : j < 113
 ·(repeat rw [if_pos c2])
 (repeat rw [if_neg c2])
 (repeat rw [if_neg h0])
theorem TB.appRa {w0 wr w1 : World} {b : Nat} {x : Rl} {v' : Value} {ph : Nat → Phs} {gr : List (List Int × List Int)} {cf : Nat → Int} {de : List Det} {ra : List Rl} {bu : List Bus} {e0 e1 e2 e3 e4 : Int} {fl : Nat → Int} {wn sh : Int} {vg vd vr vb : Value} (h : TB w0 wr b ⟨ph, gr, cf, de, ra, bu, e0, e1, e2, e3, e4, fl, wn, sh⟩ vg vd vr vb) (hg : wr.grownBy w1 vr.ownBlock) (hn : aD 100 11 dq w1 (b + 1) v' (ra ++ [x])) (hl : ra.length < 64) : TB w0 (w1.setCell ⟨b, 114, none⟩ v') b ⟨ph, gr, cf, de, ra ++ [x], bu, e0, e1, e2, e3, e4, fl, wn, sh⟩ vg vd v' vb := by
 obtain ⟨h1, h2, h3, h4, h5, h6⟩ := h.append h.ra hg
 obtain ⟨hs, g1, g2⟩ := h2 (by decide) (by decide)
 have hb := cQ w1 b 114 v'
 have n := h.bd
 refine ⟨?_, ⟨hs, aD.kept (C := fI) g1 hb (.inr (aD.ne (C := fI) g1 (by omega))), g2.kept hb fun v xs h => .inr (h.ne (by omega))⟩, ((h3 (by decide))).kept hb (.inr (((h3 (by decide))).ne (by omega))), (hn).kept hb (.inr ((hn).ne (by omega))), ((h5 (by decide))).kept hb (.inr (((h5 (by decide))).ne (by omega))), ⟨n.lg, n.lr, n.ld, by simp only [List.length_append, List.length_cons, List.length_nil]; omega, n.lb⟩, h6.setCell (p := ⟨b, 114, none⟩) (Nat.le_refl _) _⟩
 rw [ao h1, cW (g := ah ⟨ph, gr, cf, de, ra ++ [x], bu, e0, e1, e2, e3, e4, fl, wn, sh⟩ vg vd v' vb) (by omega) fun j hj => ?_]
 by_cases h0 : j = 114
 ·subst h0; rfl
 rw [if_neg h0]
 unfold ah
 by_cases c0 : j < 104
 ·(repeat rw [if_pos c0])
 (repeat rw [if_neg c0])
 by_cases c1 : j = 104
 ·(repeat rw [if_pos c1])
 (repeat rw [if_neg c1])
 by_cases c2 : j < 113
 ·(repeat rw [if_pos c2])
 (repeat rw [if_neg c2])
 by_cases c3 : j = 113
 ·(repeat rw [if_pos c3])
 (repeat rw [if_neg c3])
 (repeat rw [if_neg h0])
theorem TB.appBu {w0 wr w1 : World} {b : Nat} {x : Bus} {v' : Value} {ph : Nat → Phs} {gr : List (List Int × List Int)} {cf : Nat → Int} {de : List Det} {ra : List Rl} {bu : List Bus} {e0 e1 e2 e3 e4 : Int} {fl : Nat → Int} {wn sh : Int} {vg vd vr vb : Value} (h : TB w0 wr b ⟨ph, gr, cf, de, ra, bu, e0, e1, e2, e3, e4, fl, wn, sh⟩ vg vd vr vb) (hg : wr.grownBy w1 vb.ownBlock) (hn : aD 110 2 dm w1 (b + 1) v' (bu ++ [x])) (hl : bu.length < 64) : TB w0 (w1.setCell ⟨b, 115, none⟩ v') b ⟨ph, gr, cf, de, ra, bu ++ [x], e0, e1, e2, e3, e4, fl, wn, sh⟩ vg vd vr v' := by
 obtain ⟨h1, h2, h3, h4, h5, h6⟩ := h.append h.bu hg
 obtain ⟨hs, g1, g2⟩ := h2 (by decide) (by decide)
 have hb := cQ w1 b 115 v'
 have n := h.bd
 refine ⟨?_, ⟨hs, aD.kept (C := fI) g1 hb (.inr (aD.ne (C := fI) g1 (by omega))), g2.kept hb fun v xs h => .inr (h.ne (by omega))⟩, ((h3 (by decide))).kept hb (.inr (((h3 (by decide))).ne (by omega))), ((h4 (by decide))).kept hb (.inr (((h4 (by decide))).ne (by omega))), (hn).kept hb (.inr ((hn).ne (by omega))), ⟨n.lg, n.lr, n.ld, n.la, by simp only [List.length_append, List.length_cons, List.length_nil]; omega⟩, h6.setCell (p := ⟨b, 115, none⟩) (Nat.le_refl _) _⟩
 rw [ao h1, cW (g := ah ⟨ph, gr, cf, de, ra, bu ++ [x], e0, e1, e2, e3, e4, fl, wn, sh⟩ vg vd vr v') (by omega) fun j hj => ?_]
 by_cases h0 : j = 115
 ·subst h0; rfl
 rw [if_neg h0]
 unfold ah
 by_cases c0 : j < 104
 ·(repeat rw [if_pos c0])
 (repeat rw [if_neg c0])
 by_cases c1 : j = 104
 ·(repeat rw [if_pos c1])
 (repeat rw [if_neg c1])
 by_cases c2 : j < 113
 ·(repeat rw [if_pos c2])
 (repeat rw [if_neg c2])
 by_cases c3 : j = 113
 ·(repeat rw [if_pos c3])
 (repeat rw [if_neg c3])
 by_cases c4 : j = 114
 ·(repeat rw [if_pos c4])
 (repeat rw [if_neg c4])
 (repeat rw [if_neg h0])
theorem TB.other {w0 wr : World} {b k i : Nat} {vs : List Value} {t : Tab} {vg vd vr vb : Value} (h : TB w0 wr b t vg vd vr vb) (hk : k < b) : TB (wr.setCells k i vs) (wr.setCells k i vs) b t vg vd vr vb := by
 obtain ⟨hs, h1, h2⟩ := h.gr
 have hg := gO wr k i vs
 exact ⟨by rw [ar vs i (by omega)]; exact h.blk, ⟨hs, aD.kept (C := fI) h1 hg (.inr (aD.ne (C := fI) h1 (by omega))), h2.kept hg fun v xs h => .inr (h.ne (by omega))⟩, h.de.kept hg (.inr (h.de.ne (by omega))), h.ra.kept hg (.inr (h.ra.ne (by omega))), h.bu.kept hg (.inr (h.bu.ne (by omega))), h.bd, Below.refl _ _⟩
theorem ads (zs : List Int) (n k m : Nat) : deM zs n k (m + 1) = deM zs n k m ++ [zo zs (180 + 8 * (k - m)) n] := by unfold deM; rw [List.range_succ, List.map_append]; rfl
theorem adO (gr : List (List Int × List Int)) (zs : List Int) (n k m : Nat) : raM gr zs n k (m + 1) = raM gr zs n k m ++ [rlM gr zs (260 + 16 * (k - m)) n] := by unfold raM; rw [List.range_succ, List.map_append]; rfl
theorem adn (zs : List Int) (n k m : Nat) : buM zs n k (m + 1) = buM zs n k m ++ [buX zs n (k - m)] := by unfold buM; rw [List.range_succ, List.map_append]; rfl
theorem ad9 (zs : List Int) (n k m : Nat) : (deM zs n k m).length = m := by simp [deM]
theorem acF (gr : List (List Int × List Int)) (zs : List Int) (n k m : Nat) : (raM gr zs n k m).length = m := by simp [raM]
theorem ad7 (zs : List Int) (n k m : Nat) : (buM zs n k m).length = m := by simp [buM]
theorem sT {n : Nat} {f : Nat → Value} {p : Value → Bool} (h : ∀ i, i < n → p (f i) = true) : (aS n f).all p = true := by
 rw [Array.all_eq_true]
 intro i hi
 have e : (aS n f)[i] = f i := Option.some.inj ((Array.getElem?_eq_getElem hi).symm.trans (ab n f i (by rw [aE] at hi; exact hi)))
 rw [e]
 exact h i (by rw [aE] at hi; exact hi)
theorem ve (t : Tab) (vg vd vr vb : Value) (h1 : vg.oneCell' = true) (h2 : vd.oneCell' = true) (h3 : vr.oneCell' = true) (h4 : vb.oneCell' = true) : (aS 131 (ah t vg vd vr vb)).all (·.oneCell') = true := by
 refine sT fun i hi => ?_
 unfold ah
 by_cases c : i < 104
 ·rw [if_pos c]
  have : i % 13 < 13 := Nat.mod_lt _ (by omega)
  generalize i % 13 = j at *
  rcases (show j = 0 ∨ j = 1 ∨ j = 2 ∨ j = 3 ∨ j = 4 ∨ j = 5 ∨ j = 6 ∨ j = 7 ∨ j = 8 ∨ j = 9 ∨ j = 10 ∨ j = 11 ∨ j = 12 by omega) with rfl | rfl | rfl | rfl | rfl | rfl | rfl | rfl | rfl | rfl | rfl | rfl | rfl <;> rfl
 rw [if_neg c]
 by_cases c0 : i = 104
 ·rw [if_pos c0]; exact h1
 rw [if_neg c0]
 by_cases c1 : i < 113
 ·rw [if_pos c1]; rfl
 rw [if_neg c1]
 by_cases c2 : i = 113
 ·rw [if_pos c2]; exact h2
 rw [if_neg c2]
 by_cases c3 : i = 114
 ·rw [if_pos c3]; exact h3
 rw [if_neg c3]
 by_cases c4 : i = 115
 ·rw [if_pos c4]; exact h4
 rw [if_neg c4]
 by_cases c5 : i = 116
 ·rw [if_pos c5]; rfl
 rw [if_neg c5]
 by_cases c6 : i = 117
 ·rw [if_pos c6]; rfl
 rw [if_neg c6]
 by_cases c7 : i = 118
 ·rw [if_pos c7]; rfl
 rw [if_neg c7]
 by_cases c8 : i = 119
 ·rw [if_pos c8]; rfl
 rw [if_neg c8]
 by_cases c9 : i = 120
 ·rw [if_pos c9]; rfl
 rw [if_neg c9]
 by_cases c10 : i < 129
 ·rw [if_pos c10]; rfl
 rw [if_neg c10]
 by_cases c11 : i = 129
 ·rw [if_pos c11]; rfl
 rw [if_neg c11]
 rfl
theorem ac9 (ph : Nat → Phs) (gr : List (List Int × List Int)) (cf : Nat → Int) (de : List Det) (ra : List Rl) (bu : List Bus) (e0 e1 e2 e3 e4 : Int) (fl : Nat → Int) (wn sh p : Int) (T : Tab) (hT : (⟨ph, gr, cf, de, ra, bu, e0, e1, e2, e3, e4, fl, 0, sh⟩ : Tab) = T) :
  cm ⟨ph, gr, cf, de, ra, bu, e0, e1, e2, e3, e4, fl, wn, sh⟩ p = cm T p := by subst hT; rfl
theorem yp {Z C : Array Value} (h : C.size = Z.size) : kk Z 0 C.toList = C := by
 apply Array.ext_getElem?
 intro i
 rw [ji]
 by_cases hi : i < Z.size
 ·rw [if_pos ⟨Nat.zero_le _, by simp; omega, hi⟩]; simp
 ·rw [if_neg (by omega), Array.getElem?_eq_none (by omega), Array.getElem?_eq_none (by omega)]
end
section
open Go.RowKit
attribute [local go_sem] IsBlk.cell IsBlk.frozen
theorem acl (a : Option Addr) (cap : Nat) (zs : List Int) (w : World) (hl : zs.length ≤ 9223372036854775807) (hz : bQ w a zs) :
  Calls Tryz.prog 21 #[.slice a zs.length cap] w fun e w' => ∃ T, e = .returned (.agg T) ∧ ag w' T (ye zs) ∧ tS w' w.heap.size T (ye zs).de ∧ Below w.heap.size w w' := by
 have HZ : Hid (∀ w', Below w.heap.size w w' → bQ w' a zs) := Lib.hid fun w' hb => bk.below hz hb (Nat.le_refl _)
 have HZL := Lib.hid hl
 have z := lM
 have hz0 : aj.size = 131 := rfl
 clear hl hz
 go_enter Tryz.func21, Tryz.ntmps21
 obtain ⟨X, hX⟩ : ∃ X, (w.alloc (.cells aj 34)).alloc (.cells aj 34) = X := ⟨_, rfl⟩
 have hXs : w.heap.size + 1 + 1 = X.heap.size := by rw [← hX]; simp
 have hXb : X.heap[w.heap.size + 1]? = some (.cells aj 34) := by
  have := aq (w.alloc (.cells aj 34)) (.cells aj 34)
  rw [hX] at this; simpa using this
 have hXr : X.heap[w.heap.size]? = some (.cells aj 34) := by
  rw [← hX, Below.heap_alloc _ _ _ (by simp)]; exact aq _ _
 have hXw : Below w.heap.size w X := by rw [← hX]; all_goals try exact yd
 have HRW : Hid (Calls Tryz.prog 83 #[.pointer (some ⟨w.heap.size + 1, 0, none⟩), .slice a zs.length cap] X fun e w' => e = .returned (.int .i64 (yf zs).1) ∧ ∃ vg, TB X w' (w.heap.size + 1) { ee with gr := (yf zs).2 } vg (.slice none 0 0) (.slice none 0 0) (.slice none 0 0)) := Lib.hid (by
  refine (acV a cap zs (w.heap.size + 1) aj X HZL.out (fun w' hb => HZ.out _ (hXw.trans (hb.mono (by omega)))) hXb hXs rfl (by rw [jD, ab _ _ _ (by omega)]; rfl)).mono ?_
  rintro e w' ⟨rfl, hr⟩
  refine ⟨rfl, TB.rows hXs hr ?_ (abi zs _ _)⟩
  have := yx zs; have := yD zs; omega)
 have hn := yx zs
 obtain ⟨R, hR⟩ : ∃ R, ye zs = R := ⟨_, rfl⟩
 rw [hR]
 have HR := Lib.hid hR
 clear hR
 go_wp2_with (go_at_call 83; refine HRW.out.mono ?_; rintro e w' ⟨rfl, vg, htb⟩)
 generalize hgr : (yf zs).2 = gr at *
 generalize hnn : (yf zs).1 = n at *
 clear HRW
 go_loopw [5] (fun i wr => ∃ k : Nat, k ≤ n ∧ i = .int .i64 k ∧ TB X wr (w.heap.size + 1) ⟨ph1 zs k, gr, fun _ => 0, [], [], [], 0, 0, 0, 0, 0, fl1 k, 0, 0⟩ vg (.slice none 0 0) (.slice none 0 0) (.slice none 0 0)) (fun i _ => n - (intOf i).toNat)
 case atStart => exact ⟨0, Nat.zero_le _, rfl, by rw [show ph1 zs 0 = ee.ph from rfl, show fl1 0 = ee.fl from rfl]; exact htb⟩
 case round =>
  clear htb
  obtain ⟨k, hk, rfl, htb⟩ := hrel
  have hbw := htb.world hXw (by omega)
  haveI : LeSize w.heap.size wr := ⟨hbw.size⟩
  by_cases hlt : k < n
  ·have hk8 : (k : Int) < 8 := by omega
   have HPh : Hid (∀ w', Below w.heap.size w w' → Calls Tryz.prog 84 #[.slice a zs.length cap, .int .i64 (10 + 12 * (k : Int))] w' fun e w'' => e = .returned (.agg (cy (phM zs (10 + 12 * k))).toArray) ∧ Below w'.heap.size w' w'') := Lib.hid fun w' h => by
    rw [show (10 + 12 * (k : Int)) = ((10 + 12 * k : Nat) : Int) by omega]; exact acj a cap zs _ w' HZL.out (by omega) (HZ.out _ h)
   have HP1 := Lib.hid (adI zs k)
   generalize phM zs (10 + 12 * k) = x at *
   have HTB := Lib.hid htb
   haveI : IsBlk wr (w.heap.size + 1) (aS 131 (ah ⟨ph1 zs k, gr, fun _ => 0, [], [], [], 0, 0, 0, 0, 0, fl1 k, 0, 0⟩ vg (.slice none 0 0) (.slice none 0 0) (.slice none 0 0))) 34 := ⟨htb.blk⟩
   have hsz : (aS 131 (ah ⟨ph1 zs k, gr, fun _ => 0, [], [], [], 0, 0, 0, 0, 0, fl1 k, 0, 0⟩ vg (.slice none 0 0) (.slice none 0 0) (.slice none 0 0))).size = 131 := aE _ _
   generalize aS 131 (ah ⟨ph1 zs k, gr, fun _ => 0, [], [], [], 0, 0, 0, 0, 0, fl1 k, 0, 0⟩ vg (.slice none 0 0) (.slice none 0 0) (.slice none 0 0)) = C at *
   clear htb
   obtain ⟨xs, hxs⟩ : ∃ xs, (cy x).toArray = xs := ⟨_, rfl⟩
   have hx13 : xs.size = 13 := by rw [← hxs]; rfl
   have hx1 : xs.all (·.oneCell') = true := by rw [← hxs]; simp [cy, Value.oneCell']
   obtain ⟨V, hV⟩ : ∃ V, (kk C (k * 13) xs.toList)[121 + k]? = some V := ⟨_, Array.getElem?_eq_getElem (by rw [jH]; omega)⟩
   rw [hxs] at HPh
   have HXS : Hid (xs.toList = cy x) := Lib.hid (by rw [← hxs])
   clear hxs
   go_wp2_with (first | (go_at_call 84; refine (Up.run (HPh.out _ (by exact yd))).mono ?_; rintro e w' ⟨rfl, u, rfl⟩) | (refine ac (o := k * 13) (cs := xs) 26 rfl rfl rfl rfl (by omega) (by rw [hx13]; kernel_rfl) hx1 ?_; go_simp))
   go_roundw
   case rel => exact ⟨k + 1, by omega, by go_num, by
    have h1 := ((HTB.out.below u.bel).putP (x := x) (p := k) (by omega)).putFl (k := k) (x := 1) (by omega)
    rw [← HXS.out] at h1
    rw [← HP1.out, ← adv]; exact h1⟩
   case measure => simp [intOf]; omega
  ·obtain rfl : k = n := by omega
   obtain ⟨PH, hPH⟩ : ∃ x, ph1 zs k = x := ⟨_, rfl⟩
   obtain ⟨FL, hFL⟩ : ∃ x, fl1 k = x := ⟨_, rfl⟩
   have HPH := Lib.hid hPH
   have HFL := Lib.hid hFL
   rw [hPH, hFL] at htb
   clear hPH hFL
   go_wp2
   go_loopw [6] (fun i wr => ∃ p : Nat, p ≤ k ∧ i = .int .i64 p ∧ TB X wr (w.heap.size + 1) ⟨PH, gr, cfP gr zs p, [], [], [], 0, 0, 0, 0, 0, FL, 0, 0⟩ vg (.slice none 0 0) (.slice none 0 0) (.slice none 0 0)) (fun i _ => k - (intOf i).toNat)
   case atStart => exact ⟨0, Nat.zero_le _, rfl, htb⟩
   case round =>
    clear htb hbw
    obtain ⟨p, hp, rfl, htb⟩ := hrel
    by_cases hltp : p < k
    ·go_wp2
     go_loopw [7] (fun i wr => ∃ q : Nat, q ≤ p ∧ i = .int .i64 q ∧ TB X wr (w.heap.size + 1) ⟨PH, gr, cfQ gr zs p (cfP gr zs p) q, [], [], [], 0, 0, 0, 0, 0, FL, 0, 0⟩ vg (.slice none 0 0) (.slice none 0 0) (.slice none 0 0)) (fun i _ => p - (intOf i).toNat)
     case atStart => exact ⟨0, Nat.zero_le _, rfl, htb⟩
     case round =>
      clear htb
      obtain ⟨q, hq, rfl, htb⟩ := hrel
      have hbw := htb.world hXw (by omega)
      haveI : LeSize w.heap.size wr := ⟨hbw.size⟩
      by_cases hltq : q < p
      ·have hp8 : (p : Int) < 8 := by omega
       have hq8 : (q : Int) < 8 := by omega
       have HTB := Lib.hid htb
       have hT := htb.isTab
       haveI iB : IsBlk wr (w.heap.size + 1) _ _ := ⟨htb.blk⟩
       have hCF : cfQ gr zs p (cfP gr zs p) (q + 1) = cfS gr zs p q (cfQ gr zs p (cfP gr zs p) q) := rfl
       have HCF := Lib.hid hCF
       clear hCF
       generalize cfQ gr zs p (cfP gr zs p) q = CF at *
       have g1 := hT.cf p (by omega)
       have g2 := hT.cf q (by omega)
       simp only at g1 g2
       haveI hS : Sz131 (aS 131 (ah ⟨PH, gr, CF, [], [], [], 0, 0, 0, 0, 0, FL, 0, 0⟩ vg (.slice none 0 0) (.slice none 0 0) (.slice none 0 0))) := ⟨aE _ _⟩
       have hsz := hS.out
       have HB : Hid (∀ w', Below wr.heap.size wr w' → Calls Tryz.prog 85 #[.agg (aS 131 (ah ⟨PH, gr, CF, [], [], [], 0, 0, 0, 0, 0, FL, 0, 0⟩ vg (.slice none 0 0) (.slice none 0 0) (.slice none 0 0))), .int .i64 p, .int .i64 q] w' fun e w'' => e = .returned (.bool (gk gr p q)) ∧ Below w'.heap.size w' w'') := Lib.hid fun w' h => by have h2 := aaj _ _ (p : Int) (q : Int) w' (hT.below h (Nat.le_refl _)); exact h2
       generalize aS 131 (ah ⟨PH, gr, CF, [], [], [], 0, 0, 0, 0, 0, FL, 0, 0⟩ vg (.slice none 0 0) (.slice none 0 0) (.slice none 0 0)) = C at *
       have hfr : ot zs (110 + 8 * (p : Int) + (q : Int)) 9 = fr zs (110 + 8 * p + q) 9 := yi zs _ _ 9 (by omega)
       obtain ⟨f, hf⟩ : ∃ f, fr zs (110 + 8 * p + q) 9 = f := ⟨_, rfl⟩
       rw [hf] at hfr
       cases hbs : gk gr p q
       ·cases hfe : (f != 1)
        ·have HC0 : Hid (cfQ gr zs p (cfP gr zs p) (q + 1) = CF) := Lib.hid (by rw [HCF.out]; unfold cfS cfC; rw [hbs, hf, hfe]; rfl)
         rw [hbs] at HB
         clear htb hT hf
         go_wp2_with (first | (refine aJ rfl rfl rfl ?_; go_simp) | (go_at_call 86; refine (yg _ _ _ _ _ _ HZL.out (by omega) (by omega) (HZ.out _ (by exact yd))).mono ?_; rintro e w' ⟨rfl, rfl⟩) | (go_at_call 85; refine (Up.run (HB.out _ (by exact yd))).mono ?_; rintro e w' ⟨rfl, u, rfl⟩))
         go_roundw
         case rel => exact ⟨q + 1, by omega, by go_num, by rw [HC0.out]; exact HTB.out.below (by exact yd)⟩
         case measure => simp [intOf]; omega
        ·have HC0 : Hid (cfQ gr zs p (cfP gr zs p) (q + 1) = dT (dT CF p (iI (CF p) q)) q (iI (CF q) p)) := Lib.hid (by
          rw [HCF.out]; unfold cfS cfC; rw [hbs, hf, hfe]; simp only [Bool.not_false, Bool.and_self, if_true]
          rw [show dT CF p (iI (CF p) q) q = CF q by unfold dT; rw [if_neg (by omega)]])
         rw [hbs] at HB
         clear htb hT hf
         have hpq : (p = q) = False := by simp; omega
         have hpq' : p ≠ q := by omega
         have g3 : ∀ v : Value, (C.setIfInBounds (105 + p) v)[105 + q]? = some (.int .i64 (CF q)) := fun v => by rw [Array.getElem?_setIfInBounds, if_neg (by omega)]; exact g2
         go_wp2_with (first | (refine aJ rfl rfl rfl ?_; go_simp) | (go_at_call 86; refine (yg _ _ _ _ _ _ HZL.out (by omega) (by omega) (HZ.out _ (by exact yd))).mono ?_; rintro e w' ⟨rfl, rfl⟩) | (go_at_call 85; refine (Up.run (HB.out _ (by exact yd))).mono ?_; rintro e w' ⟨rfl, u, rfl⟩) | (go_at_call 32; refine (Up.run (abk _ _ _)).mono ?_; rintro e w' ⟨rfl, u, rfl⟩))
         go_roundw
         case rel => exact ⟨q + 1, by omega, by go_num, by
          rw [HC0.out]
          exact TB.putCf ((TB.putCf (HTB.out.below (by exact yd)) (by omega)).below (Up.bel _)) (by omega)⟩
         case measure => simp [intOf]; omega
       ·have HC0 : Hid (cfQ gr zs p (cfP gr zs p) (q + 1) = CF) := Lib.hid (by rw [HCF.out]; unfold cfS cfC; rw [hbs]; rfl)
        rw [hbs] at HB
        clear htb hT hf
        go_wp2_with (first | (refine aJ rfl rfl rfl ?_; go_simp) | (go_at_call 86; refine (yg _ _ _ _ _ _ HZL.out (by omega) (by omega) (HZ.out _ (by exact yd))).mono ?_; rintro e w' ⟨rfl, rfl⟩) | (go_at_call 85; refine (Up.run (HB.out _ (by exact yd))).mono ?_; rintro e w' ⟨rfl, u, rfl⟩))
        go_roundw
        case rel => exact ⟨q + 1, by omega, by go_num, by rw [HC0.out]; exact HTB.out.below (by exact yd)⟩
        case measure => simp [intOf]; omega
      ·obtain rfl : q = p := by omega
       go_wp2
       go_roundw
       case rel => exact ⟨q + 1, by omega, by go_num, htb⟩
       case measure => simp [intOf]; omega
    ·obtain rfl : p = k := by omega
     obtain ⟨CF, hCF⟩ : ∃ x, cfP gr zs p = x := ⟨_, rfl⟩
     have HCF := Lib.hid hCF
     rw [hCF] at htb
     clear hCF
     have hbw := htb.world hXw (by omega)
     haveI : LeSize w.heap.size wr := ⟨hbw.size⟩
     obtain ⟨f, hf⟩ : ∃ f, fr zs 174 ((p : Int) + 1) = f := ⟨_, rfl⟩
     have hfb := yh zs 174 (n := (p : Int) + 1) (by omega)
     rw [hf] at hfb
     have hfr : ot zs 174 ((p : Int) + 1) = f := (yi zs 174 174 _ rfl).trans hf
     obtain ⟨FL2, hFL2⟩ : ∃ x, (if f < p then dT FL f.toNat 2 else FL) = x := ⟨_, rfl⟩
     have HFL2 : Hid (flM zs p = FL2) := Lib.hid (by rw [← hFL2, ← HFL.out]; unfold flM; rw [hf])
     clear hf HFL
     have HTB := Lib.hid htb
     haveI iB : IsBlk wr (w.heap.size + 1) _ _ := ⟨htb.blk⟩
     have hsz := aE 131 (ah ⟨PH, gr, CF, [], [], [], 0, 0, 0, 0, 0, FL, 0, 0⟩ vg (.slice none 0 0) (.slice none 0 0) (.slice none 0 0))
     generalize aS 131 (ah ⟨PH, gr, CF, [], [], [], 0, 0, 0, 0, 0, FL, 0, 0⟩ vg (.slice none 0 0) (.slice none 0 0) (.slice none 0 0)) = C at *
     clear htb
     go_upto_if 80 with (go_at_call 86; refine (yg _ _ _ _ _ _ HZL.out (by omega) (by omega) (HZ.out _ (by exact yd))).mono ?_; rintro e w' ⟨rfl, rfl⟩)
     go_cut [] (fun wx => TB X wx (w.heap.size + 1) ⟨PH, gr, CF, [], [], [], 0, 0, 0, 0, 0, FL2, 0, 0⟩ vg (.slice none 0 0) (.slice none 0 0) (.slice none 0 0))
     case first =>
      by_cases hff : f < p
      ·obtain ⟨m, rfl⟩ := Int.eq_ofNat_of_zero_le hfb.1
       have hm8 : (m : Int) < 8 := by omega
       have hm : m < 8 := by omega
       rw [if_pos hff] at hFL2
       have HF := Lib.hid hFL2
       obtain ⟨V, hV⟩ : ∃ V, C[121 + m]? = some V := ⟨_, Array.getElem?_eq_getElem (by omega)⟩
       clear hFL2
       go_wp2
       go_meet
       rw [← HF.out]
       exact TB.putFl HTB.out (by omega)
      ·rw [if_neg hff] at hFL2
       have HF := Lib.hid hFL2
       clear hFL2
       go_wp2
       go_meet
       rw [← HF.out]
       exact HTB.out
     case rest =>
      clear HTB iB hFL2 hbw hfb hfr hsz
      have hbw := hcut.world hXw (by omega)
      haveI : LeSize w.heap.size _ := ⟨hbw.size⟩
      obtain ⟨kd, hkd⟩ : ∃ k : Nat, k = (fr zs 175 9).toNat := ⟨_, rfl⟩
      have hfd := yh zs 175 (n := 9) (by omega)
      have hfdE : ot zs 175 9 = (kd : Int) := by rw [yi zs 175 175 9 rfl]; omega
      have HKD := Lib.hid hkd
      have hkd8 : kd ≤ 8 := by omega
      clear hkd hfd
      go_wp2_with (go_at_call 86; refine (yg _ _ _ _ _ _ HZL.out (by omega) (by omega) (HZ.out _ (by exact yd))).mono ?_; rintro e w' ⟨rfl, rfl⟩)
      go_loopw [9] (fun i wr => ∃ m : Nat, m ≤ kd ∧ i = .int .i64 ((kd : Int) - m) ∧ ∃ vd, TB X wr (w.heap.size + 1) ⟨PH, gr, CF, deM zs p kd m, [], [], 0, 0, 0, 0, 0, FL2, 0, 0⟩ vg vd (.slice none 0 0) (.slice none 0 0)) (fun i _ => (intOf i).toNat)
      case atStart => exact ⟨0, Nat.zero_le _, by simp, _, hcut⟩
      case round =>
       clear hcut hbw
       obtain ⟨m, hm, rfl, vd, htb⟩ := hrel
       have hbw := htb.world hXw (by omega)
       haveI : LeSize w.heap.size wr := ⟨hbw.size⟩
       by_cases hltm : m < kd
       ·have hpos : 0 < (kd : Int) - m := by omega
        have HD0 : Hid (∀ w', Below w.heap.size w w' → Calls Tryz.prog 87 #[.slice a zs.length cap, .int .i64 (180 + 8 * ((kd : Int) - m)), .int .i64 p] w' fun e w'' => e = .returned (.agg (aQ (zo zs (180 + 8 * (kd - m)) p)).toArray) ∧ Below w'.heap.size w' w'') := Lib.hid fun w' h => by
         rw [show 180 + 8 * ((kd : Int) - m) = ((180 + 8 * (kd - m) : Nat) : Int) by omega]; exact adz a cap zs _ p w' HZL.out (by omega) (by omega) (HZ.out _ h)
        have HDS := Lib.hid (ads zs p kd m)
        have hdl := ad9 zs p kd m
        generalize zo zs (180 + 8 * (kd - m)) p = x at *
        generalize deM zs p kd m = DE at *
        have HD : Hid (∀ w', Below w.heap.size w w' → Calls Tryz.prog 87 #[.slice a zs.length cap, .int .i64 (180 + 8 * ((kd : Int) - m)), .int .i64 p] w' fun e w'' => e = .returned (.agg #[.int .i64 x.ph, .float .f64 x.on, .float .f64 x.off, .float .f64 x.dl, .float .f64 x.ex, .int .i64 x.mon, .int .i64 x.mof]) ∧ Below w'.heap.size w' w'') := Lib.hid fun w' h => HD0.out w' h
        clear HD0
        obtain ⟨da, dl, dc, rfl⟩ := htb.de.slice
        have HTB := Lib.hid htb
        haveI iB : IsBlk wr (w.heap.size + 1) _ _ := ⟨htb.blk⟩
        have t113 : (aS 131 (ah ⟨PH, gr, CF, DE, [], [], 0, 0, 0, 0, 0, FL2, 0, 0⟩ vg (.slice da dl dc) (.slice none 0 0) (.slice none 0 0)))[113]? = some (.slice da dl dc) := by rw [ab _ _ _ (by omega)]; rfl
        generalize aS 131 (ah ⟨PH, gr, CF, DE, [], [], 0, 0, 0, 0, 0, FL2, 0, 0⟩ vg (.slice da dl dc) (.slice none 0 0) (.slice none 0 0)) = C at *
        clear htb
        go_wp2
        (refine wp_region_noPanic ?_; refine cX [] [0, 1, 2, 3, 4, 5, 6, 7, 8] [9, 10, 11] [8] [] oJ (by kernel_rfl) (by kernel_rfl) (fun _ _ _ _ _ h => (h : False).elim) dY ?_; simp only [bD, List.filterMap_cons, List.filterMap_nil, List.getElem?_cons_succ, List.getElem?_cons_zero]; refine eS ?_)
        (repeat (first | (refine cL rfl rfl ?_; simp only [Act.put, List.setIfInBounds_toArray, List.set_cons_succ, List.set_cons_zero]) | (refine cM rfl rfl ?_; intro Z hZs hZi hZn K hK; (first | (go_big_quiet_op; (first | go_big_quiet_on | go_big_quiet_call ((first | (go_at_call 87; exact eZ.calls hZs (HD.out _ (by exact yd))) | fail))))); clear hZs hZi hZn Z)))
        (refine eV 1 (.cells #[.int .i64 x.ph, .float .f64 x.on, .float .f64 x.off, .float .f64 x.dl, .float .f64 x.ex, .int .i64 x.mon, .int .i64 x.mof] 58) rfl rfl (fun w => (by simp [go_sem] <;> rfl)) ?_; intro q8 p8 hq8 hp8; simp only [Act.put, List.setIfInBounds_toArray, List.set_cons_succ, List.set_cons_zero])
        (refine gX ?_; intro u hinv; have hO8 := (hp8 _ (hinv 8 _ rfl)).out; have lO8 := yR hO8; clear hinv; clear hp8 p8; go_simp)
        have HTU := Lib.hid (HTB.out.below u.bel)
        have hbs := HTU.out.lt
        have own : aD 58 7 aQ u.w (w.heap.size + 1 + 1) (.slice da dl dc) DE := HTU.out.de
        refine bo eC 56 _ 30 Tryz.underlying30 fH rfl (by decide) (by decide) rfl _ _ rfl (w.heap.size + 1 + 1) rfl own (b := q8) x (by simp [aQ, Value.oneCell']) rfl (fun j y hj => aV hO8 j (by simpa [aQ] using hj)) (by omega) hbs ?_
        intro v' w1 hown' hg
        obtain ⟨a', n', cap', rfl⟩ := hown'.slice
        have HTA := Lib.hid (HTU.out.appDe hg hown' (by omega))
        clear own
        haveI : IsBlk w1 (w.heap.size + 1) C 34 := ⟨by rw [hg.block _ hbs (fun e => HTU.out.de.ne (Nat.lt_succ_self _) e.symm)]; exact (inferInstance : IsBlk u.w (w.heap.size + 1) C 34).out⟩
        clear hown' hg HTU HTB HD
        go_wp2
        refine NoPanic.normal ?_
        go_wp2
        go_roundw
        case rel => exact ⟨m + 1, by omega, by congr 1; omega, _, by rw [HDS.out]; exact HTA.out⟩
        case measure => simp [intOf]; omega
       ·obtain rfl : m = kd := by omega
        obtain ⟨DE, hDE⟩ : ∃ x, deM zs p m m = x := ⟨_, rfl⟩
        have HDE : Hid (deM zs p (fr zs 175 9).toNat (fr zs 175 9).toNat = DE) := Lib.hid (by rw [← HKD.out]; exact hDE)
        rw [hDE] at htb
        clear hDE HKD
        obtain ⟨kr, hkr⟩ : ∃ k : Nat, k = (fr zs 176 4 % 3).toNat := ⟨_, rfl⟩
        have hfd := yh zs 176 (n := 4) (by omega)
        have hfrE : ot zs 176 4 = fr zs 176 4 := yi zs 176 176 4 rfl
        have hrem : Int.tmod (fr zs 176 4) 3 = (kr : Int) := by rw [Int.tmod_eq_emod_of_nonneg hfd.1]; omega
        have HKR := Lib.hid hkr
        have hkr8 : kr ≤ 2 := by omega
        clear hkr
        obtain ⟨f176, hf176⟩ : ∃ x, fr zs 176 4 = x := ⟨_, rfl⟩
        rw [hf176] at hfd hfrE hrem HKR
        have HF176 := Lib.hid hf176
        clear hf176
        go_wp2_with (go_at_call 86; refine (yg _ _ _ _ _ _ HZL.out (by omega) (by omega) (HZ.out _ (by exact yd))).mono ?_; rintro e w' ⟨rfl, rfl⟩)
        go_loopw [10] (fun i wr => ∃ m : Nat, m ≤ kr ∧ i = .int .i64 ((kr : Int) - m) ∧ ∃ vr, TB X wr (w.heap.size + 1) ⟨PH, gr, CF, DE, raM gr zs p kr m, [], 0, 0, 0, 0, 0, FL2, 0, 0⟩ vg vd vr (.slice none 0 0)) (fun i _ => (intOf i).toNat)
        case atStart => exact ⟨0, Nat.zero_le _, by simp, _, htb⟩
        case round =>
         clear htb hbw
         obtain ⟨m, hm, rfl, vr, htb⟩ := hrel
         have hbw := htb.world hXw (by omega)
         haveI : LeSize w.heap.size wr := ⟨hbw.size⟩
         by_cases hltm : m < kr
         ·have hpos : 0 < (kr : Int) - m := by omega
          have hT := htb.isTab
          obtain ⟨da, dl, dc, rfl⟩ := htb.ra.slice
          have HTB := Lib.hid htb
          haveI iB : IsBlk wr (w.heap.size + 1) _ _ := ⟨htb.blk⟩
          haveI hS : Sz131 (aS 131 (ah ⟨PH, gr, CF, DE, raM gr zs p kr m, [], 0, 0, 0, 0, 0, FL2, 0, 0⟩ vg vd (.slice da dl dc) (.slice none 0 0))) := ⟨aE _ _⟩
          have t114 : (aS 131 (ah ⟨PH, gr, CF, DE, raM gr zs p kr m, [], 0, 0, 0, 0, 0, FL2, 0, 0⟩ vg vd (.slice da dl dc) (.slice none 0 0)))[114]? = some (.slice da dl dc) := by rw [ab _ _ _ (by omega)]; rfl
          have HD0 : Hid (∀ w', Below w.heap.size w w' → ag w' (aS 131 (ah ⟨PH, gr, CF, DE, raM gr zs p kr m, [], 0, 0, 0, 0, 0, FL2, 0, 0⟩ vg vd (.slice da dl dc) (.slice none 0 0))) ⟨PH, gr, CF, DE, raM gr zs p kr m, [], 0, 0, 0, 0, 0, FL2, 0, 0⟩ → Calls Tryz.prog 88 #[.agg (aS 131 (ah ⟨PH, gr, CF, DE, raM gr zs p kr m, [], 0, 0, 0, 0, 0, FL2, 0, 0⟩ vg vd (.slice da dl dc) (.slice none 0 0))), .slice a zs.length cap, .int .i64 (260 + 16 * ((kr : Int) - m)), .int .i64 p] w' fun e w'' => e = .returned (.agg (dq (rlM gr zs (260 + 16 * (kr - m)) p)).toArray) ∧ Below w'.heap.size w' w'') := Lib.hid fun w' h h2 => by
           have h3 := acU _ _ a cap zs (260 + 16 * (kr - m)) p w' h2 HZL.out (by omega) (by omega) (HZ.out _ h)
           rw [show 260 + 16 * ((kr : Int) - m) = ((260 + 16 * (kr - m) : Nat) : Int) by omega]; exact h3
          have HTT : Hid (∀ w', Below wr.heap.size wr w' → ag w' (aS 131 (ah ⟨PH, gr, CF, DE, raM gr zs p kr m, [], 0, 0, 0, 0, 0, FL2, 0, 0⟩ vg vd (.slice da dl dc) (.slice none 0 0))) ⟨PH, gr, CF, DE, raM gr zs p kr m, [], 0, 0, 0, 0, 0, FL2, 0, 0⟩) := Lib.hid fun w' h => hT.below h (Nat.le_refl _)
          have HDS := Lib.hid (adO gr zs p kr m)
          have hdl := acF gr zs p kr m
          generalize aS 131 (ah ⟨PH, gr, CF, DE, raM gr zs p kr m, [], 0, 0, 0, 0, 0, FL2, 0, 0⟩ vg vd (.slice da dl dc) (.slice none 0 0)) = C at *
          generalize rlM gr zs (260 + 16 * (kr - m)) p = x at *
          generalize raM gr zs p kr m = RA at *
          have HD : Hid (∀ w', Below wr.heap.size wr w' → Calls Tryz.prog 88 #[.agg C, .slice a zs.length cap, .int .i64 (260 + 16 * ((kr : Int) - m)), .int .i64 p] w' fun e w'' => e = .returned (.agg #[.int .i64 x.bars, .int .i64 x.clr, .int .i64 x.dwl, .int .i64 x.ext, .int .i64 x.dly, .int .i64 x.grn, .int .i64 x.foot, .int .i64 x.hold, .int .i64 x.stay, .int .i64 x.most, .int .i64 x.lim]) ∧ Below w'.heap.size w' w'') := Lib.hid fun w' h => HD0.out w' (hbw.trans (h.mono hbw.size)) (HTT.out w' h)
          clear HD0 HTT hT htb
          go_wp2
          (refine wp_region_noPanic ?_; refine cX [] [0, 1, 2, 3, 4, 5, 6, 7, 8, 9] [10, 11, 12] [9] [] oJ (by kernel_rfl) (by kernel_rfl) (fun _ _ _ _ _ h => (h : False).elim) dY ?_; simp only [bD, List.filterMap_cons, List.filterMap_nil, List.getElem?_cons_succ, List.getElem?_cons_zero]; refine eS ?_)
          (repeat (first | (refine cL rfl rfl ?_; simp only [Act.put, List.setIfInBounds_toArray, List.set_cons_succ, List.set_cons_zero]) | (refine cM rfl rfl ?_; intro Z hZs hZi hZn K hK; (first | (refine oK rfl rfl ?_; simp only [Act.put, List.setIfInBounds_toArray, List.set_cons_succ, List.set_cons_zero]; go_big_quiet_on) | (go_big_quiet_op; (first | go_big_quiet_on | go_big_quiet_call ((first | (go_at_call 88; exact eZ.calls hZs (HD.out _ (by exact yd))) | fail))))); clear hZs hZi hZn Z)))
          (refine eV 1 (.cells #[.int .i64 x.bars, .int .i64 x.clr, .int .i64 x.dwl, .int .i64 x.ext, .int .i64 x.dly, .int .i64 x.grn, .int .i64 x.foot, .int .i64 x.hold, .int .i64 x.stay, .int .i64 x.most, .int .i64 x.lim] 100) rfl rfl (fun w => (by simp [go_sem] <;> rfl)) ?_; intro q9 p9 hq9 hp9; simp only [Act.put, List.setIfInBounds_toArray, List.set_cons_succ, List.set_cons_zero])
          (refine gX ?_; intro u hinv; have hO9 := (hp9 _ (hinv 9 _ rfl)).out; have lO9 := yR hO9; clear hinv; clear hp9 p9; go_simp)
          have HTU := Lib.hid (HTB.out.below u.bel)
          have hbs := HTU.out.lt
          have own : aD 100 11 dq u.w (w.heap.size + 1 + 1) (.slice da dl dc) RA := HTU.out.ra
          refine bo pt 88 _ 31 Tryz.underlying31 qi rfl (by decide) (by decide) rfl _ _ rfl (w.heap.size + 1 + 1) rfl own (b := q9) x (by simp [dq, Value.oneCell']) rfl (fun j y hj => aV hO9 j (by simpa [dq] using hj)) (by omega) hbs ?_
          intro v' w1 hown' hg
          obtain ⟨a', n', cap', rfl⟩ := hown'.slice
          have HTA := Lib.hid (HTU.out.appRa hg hown' (by omega))
          haveI : IsBlk w1 (w.heap.size + 1) C 34 := ⟨by rw [hg.block _ hbs (fun e => own.ne (Nat.lt_succ_self _) e.symm)]; exact (inferInstance : IsBlk u.w (w.heap.size + 1) C 34).out⟩
          clear own hown' hg HTU HTB HD
          go_wp2
          refine NoPanic.normal ?_
          go_wp2
          go_roundw
          case rel => exact ⟨m + 1, by omega, by congr 1; omega, _, by rw [HDS.out]; exact HTA.out⟩
          case measure => simp [intOf]; omega
         ·obtain rfl : m = kr := by omega
          obtain ⟨RA, hRA⟩ : ∃ x, raM gr zs p m m = x := ⟨_, rfl⟩
          have hral : RA.length = m := by rw [← hRA]; exact acF gr zs p m m
          have HRAL := Lib.hid hral
          have HRA : Hid (raM gr zs p (f176 % 3).toNat (f176 % 3).toNat = RA) := Lib.hid (by rw [← HKR.out]; exact hRA)
          rw [hRA] at htb
          clear hRA HKR hral
          obtain ⟨kb, hkb⟩ : ∃ k : Nat, k = (fr zs 177 3).toNat := ⟨_, rfl⟩
          have hfd := yh zs 177 (n := 3) (by omega)
          have hfbE : ot zs 177 3 = (kb : Int) := by rw [yi zs 177 177 3 rfl]; omega
          have HKB := Lib.hid hkb
          have hkb8 : kb ≤ 2 := by omega
          clear hkb hfd
          go_wp2_with (go_at_call 86; refine (yg _ _ _ _ _ _ HZL.out (by omega) (by omega) (HZ.out _ (by exact yd))).mono ?_; rintro e w' ⟨rfl, rfl⟩)
          go_loopw [11] (fun i wr => ∃ m : Nat, m ≤ kb ∧ i = .int .i64 ((kb : Int) - m) ∧ ∃ vb, TB X wr (w.heap.size + 1) ⟨PH, gr, CF, DE, RA, buM zs p kb m, 0, 0, 0, 0, 0, FL2, 0, 0⟩ vg vd vr vb) (fun i _ => (intOf i).toNat)
          case atStart => exact ⟨0, Nat.zero_le _, by simp, _, htb⟩
          case round =>
           clear htb hbw
           obtain ⟨m, hm, rfl, vb, htb⟩ := hrel
           have hbw := htb.world hXw (by omega)
           haveI : LeSize w.heap.size wr := ⟨hbw.size⟩
           by_cases hltm : m < kb
           ·have hpos : 0 < (kb : Int) - m := by omega
            have r2 := ab8 p hn.2.1
            have bp : (1 : Int) ≤ 2 ^ p ∧ (2 : Int) ^ p ≤ 256 := by
             rcases (show p = 1 ∨ p = 2 ∨ p = 3 ∨ p = 4 ∨ p = 5 ∨ p = 6 ∨ p = 7 ∨ p = 8 by omega) with rfl | rfl | rfl | rfl | rfl | rfl | rfl | rfl <;> decide
            have hf1 : ot zs (330 + 2 * ((kb : Int) - m)) 256 = fr zs (330 + 2 * (kb - m)) 256 := yi zs _ _ _ (by omega)
            have hf2 : ot zs (331 + 2 * ((kb : Int) - m)) 30 = fr zs (331 + 2 * (kb - m)) 30 := yi zs _ _ _ (by omega)
            have hb2 := yh zs (331 + 2 * (kb - m)) (n := 30) (by omega)
            obtain ⟨da, dl, dc, rfl⟩ := htb.bu.slice
            have HTB := Lib.hid htb
            haveI iB : IsBlk wr (w.heap.size + 1) _ _ := ⟨htb.blk⟩
            have t115 : (aS 131 (ah ⟨PH, gr, CF, DE, RA, buM zs p kb m, 0, 0, 0, 0, 0, FL2, 0, 0⟩ vg vd vr (.slice da dl dc)))[115]? = some (.slice da dl dc) := by rw [ab _ _ _ (by omega)]; rfl
            have HDS := Lib.hid (adn zs p kb m)
            have hdl := ad7 zs p kb m
            generalize aS 131 (ah ⟨PH, gr, CF, DE, RA, buM zs p kb m, 0, 0, 0, 0, 0, FL2, 0, 0⟩ vg vd vr (.slice da dl dc)) = C at *
            have HX : Hid (buX zs p (kb - m) = ⟨if 1 < bits .and .i64 (fr zs (330 + 2 * (kb - m)) 256) (2 ^ p - 1) then bits .and .i64 (fr zs (330 + 2 * (kb - m)) 256) (2 ^ p - 1) else 1, 1 + fr zs (331 + 2 * (kb - m)) 30⟩) := Lib.hid rfl
            generalize buX zs p (kb - m) = x at *
            generalize buM zs p kb m = BU at *
            generalize fr zs (330 + 2 * (kb - m)) 256 = f1 at *
            generalize fr zs (331 + 2 * (kb - m)) 30 = f2 at *
            clear htb
            go_wp2
            (refine wp_region_noPanic ?_; refine cX [] [0, 1, 2, 3, 4, 5, 6, 7, 8, 9, 10, 11, 12, 13, 14, 15, 16, 17, 18, 19, 20] [21, 22, 23] [20] [] oJ (by kernel_rfl) (by kernel_rfl) (fun _ _ _ _ _ h => (h : False).elim) dY ?_; simp only [bD, List.filterMap_cons, List.filterMap_nil, List.getElem?_cons_succ, List.getElem?_cons_zero]; refine eS ?_)
            (repeat (first | (refine cL rfl rfl ?_; simp only [Act.put, List.setIfInBounds_toArray, List.set_cons_succ, List.set_cons_zero]) | (refine cM rfl rfl ?_; intro Z hZs hZi hZn K hK; (first | (go_big_quiet_op; (first | go_big_quiet_on | go_big_quiet_call ((first | (go_at_call 86; exact eZ.pure (yg _ _ _ _ _ _ HZL.out (by omega) (by omega) (HZ.out _ (by exact yd)))) | fail))))); clear hZs hZi hZn Z)))
            (refine eV 1 (.cells #[.int .i64 (if 1 < bits .and .i64 f1 (2 ^ p - 1) then bits .and .i64 f1 (2 ^ p - 1) else 1), .int .i64 (1 + f2)] 110) rfl rfl (fun w => (by simp [go_sem] <;> rfl)) ?_; intro q20 p20 hq20 hp20; simp only [Act.put, List.setIfInBounds_toArray, List.set_cons_succ, List.set_cons_zero])
            (refine gX ?_; intro u hinv; have hO20 := (hp20 _ (hinv 20 _ rfl)).out; have lO20 := yR hO20; clear hinv; clear hp20 p20; go_simp)
            generalize (if 1 < bits .and .i64 f1 (2 ^ p - 1) then bits .and .i64 f1 (2 ^ p - 1) else 1) = bz at *
            have HTU := Lib.hid (HTB.out.below u.bel)
            have hbs := HTU.out.lt
            have own : aD 110 2 dm u.w (w.heap.size + 1 + 1) (.slice da dl dc) BU := HTU.out.bu
            refine bo nK 16 _ 32 Tryz.underlying32 tr rfl (by decide) (by decide) rfl _ _ rfl (w.heap.size + 1 + 1) rfl own (b := q20) x (by simp [dm, Value.oneCell']) rfl (fun j y hj => aV hO20 j (by rw [HX.out] at hj; simpa [dm] using hj)) (by omega) hbs ?_
            intro v' w1 hown' hg
            obtain ⟨a', n', cap', rfl⟩ := hown'.slice
            have HTA := Lib.hid (HTU.out.appBu hg hown' (by omega))
            haveI : IsBlk w1 (w.heap.size + 1) C 34 := ⟨by rw [hg.block _ hbs (fun e => own.ne (Nat.lt_succ_self _) e.symm)]; exact (inferInstance : IsBlk u.w (w.heap.size + 1) C 34).out⟩
            clear own hown' hg HTU HTB
            go_wp2
            refine NoPanic.normal ?_
            go_wp2
            go_roundw
            case rel => exact ⟨m + 1, by omega, by congr 1; omega, _, by rw [HDS.out]; exact HTA.out⟩
            case measure => simp [intOf]; omega
           ·obtain rfl : m = kb := by omega
            obtain ⟨BU, hBU⟩ : ∃ x, buM zs p m m = x := ⟨_, rfl⟩
            have HBU : Hid (buM zs p (fr zs 177 3).toNat (fr zs 177 3).toNat = BU) := Lib.hid (by rw [← HKB.out]; exact hBU)
            rw [hBU] at htb
            clear hBU HKB
            have e178 : ot zs 178 12 = fr zs 178 12 := yi zs 178 178 12 rfl
            have e179 : ot zs 179 40 = fr zs 179 40 := yi zs 179 179 40 rfl
            have e180 : ot zs 180 8 = fr zs 180 8 := yi zs 180 180 8 rfl
            have e181 : ot zs 181 8 = fr zs 181 8 := yi zs 181 181 8 rfl
            have e182 : ot zs 182 12 = fr zs 182 12 := yi zs 182 182 12 rfl
            have e183 : ot zs 183 4 = fr zs 183 4 := yi zs 183 183 4 rfl
            have HE : Hid (ye zs = ⟨PH, gr, CF, DE, RA, BU, fr zs 178 12, fr zs 179 40, fr zs 180 8, fr zs 181 8, fr zs 182 12, FL2, if RA.length = 0 then 0 else yJ ⟨PH, gr, CF, DE, RA, BU, fr zs 178 12, fr zs 179 40, fr zs 180 8, fr zs 181 8, fr zs 182 12, FL2, 0, fr zs 183 4⟩ p, fr zs 183 4⟩) := Lib.hid (by
             have hW : zI zs = ⟨PH, gr, CF, DE, RA, BU, fr zs 178 12, fr zs 179 40, fr zs 180 8, fr zs 181 8, fr zs 182 12, FL2, 0, fr zs 183 4⟩ := by
              unfold zI
              simp only [hnn, hgr, HF176.out, HPH.out, HCF.out, HDE.out, HRA.out, HBU.out, HFL2.out]
             unfold ye
             rw [hW, hnn])
            generalize fr zs 178 12 = s0 at *
            generalize fr zs 179 40 = s1 at *
            generalize fr zs 180 8 = s2 at *
            generalize fr zs 181 8 = s3 at *
            generalize fr zs 182 12 = s4 at *
            generalize fr zs 183 4 = sh at *
            have HTB := Lib.hid htb
            haveI iB : IsBlk wr (w.heap.size + 1) _ _ := ⟨htb.blk⟩
            have HSZ := Lib.hid (aE 131 (ah ⟨PH, gr, CF, DE, RA, BU, 0, 0, 0, 0, 0, FL2, 0, 0⟩ vg vd vr vb))
            have t116 : ∃ v, (aS 131 (ah ⟨PH, gr, CF, DE, RA, BU, 0, 0, 0, 0, 0, FL2, 0, 0⟩ vg vd vr vb))[116]? = some v := ⟨_, ab _ _ _ (by omega)⟩
            generalize aS 131 (ah ⟨PH, gr, CF, DE, RA, BU, 0, 0, 0, 0, 0, FL2, 0, 0⟩ vg vd vr vb) = C at *
            have hc : ∀ i, i < 131 → ∃ v, C[i]? = some v := fun i hi => ⟨_, Array.getElem?_eq_getElem (by rw [HSZ.out]; exact hi)⟩
            obtain ⟨c116, h116⟩ := hc 116 (by omega)
            obtain ⟨c117, h117⟩ := hc 117 (by omega)
            obtain ⟨c118, h118⟩ := hc 118 (by omega)
            obtain ⟨c119, h119⟩ := hc 119 (by omega)
            obtain ⟨c120, h120⟩ := hc 120 (by omega)
            obtain ⟨c130, h130⟩ := hc 130 (by omega)
            clear hc t116 htb
            go_wp2_with (go_at_call 86; refine (yg _ _ _ _ _ _ HZL.out (by omega) (by omega) (HZ.out _ (by exact yd))).mono ?_; rintro e w' ⟨rfl, rfl⟩)
            have htb0 := ((((((HTB.out.putExt (x := s0)).putBud (x := s1)).putStart (x := s2)).putRev (x := s3)).putLeast (x := s4)).putShare (x := sh))
            clear HTB iB h116 h117 h118 h119 h120 h130 HSZ
            generalize (((((wr.setCell ⟨w.heap.size + 1, 116, none⟩ (.int .i64 s0)).setCell ⟨w.heap.size + 1, 117, none⟩ (.int .i64 s1)).setCell ⟨w.heap.size + 1, 118, none⟩ (.int .i64 s2)).setCell ⟨w.heap.size + 1, 119, none⟩ (.int .i64 s3)).setCell ⟨w.heap.size + 1, 120, none⟩ (.int .i64 s4)).setCell ⟨w.heap.size + 1, 130, none⟩ (.int .i64 sh) = W7 at *
            obtain ⟨T0, hT0⟩ : ∃ x, (⟨PH, gr, CF, DE, RA, BU, s0, s1, s2, s3, s4, FL2, 0, sh⟩ : Tab) = x := ⟨_, rfl⟩
            go_loopw [12] (fun i wr => ∃ q : Nat, q ≤ p ∧ (RA.length = 0 → q = 0) ∧ i = .int .i64 q ∧ TB X wr (w.heap.size + 1) ⟨PH, gr, CF, DE, RA, BU, s0, s1, s2, s3, s4, FL2, yJ T0 q, sh⟩ vg vd vr vb) (fun i _ => p - (intOf i).toNat)
            case atStart => exact ⟨0, Nat.zero_le _, fun _ => rfl, rfl, htb0⟩
            case round =>
             clear htb0 hbw
             obtain ⟨q, hq, hq0, rfl, htb⟩ := hrel
             have hbw := htb.world hXw (by omega)
             haveI : LeSize w.heap.size wr := ⟨hbw.size⟩
             have hT := htb.isTab
             have hown : aD 100 11 dq wr (w.heap.size + 1 + 1) vr RA := htb.ra
             obtain ⟨xa, xc, rfl, _⟩ := aD.opened pt hown
             have hone := ve ⟨PH, gr, CF, DE, RA, BU, s0, s1, s2, s3, s4, FL2, yJ T0 q, sh⟩ vg vd (.slice xa RA.length xc) vb (by obtain ⟨hs, h1, _⟩ := htb.gr; have h1' : aD 60 2 fI wr (w.heap.size + 1 + 1) vg hs := h1; obtain ⟨_, _, _, rfl⟩ := h1'.slice; rfl) (by obtain ⟨_, _, _, rfl⟩ := htb.de.slice; rfl) rfl (by obtain ⟨_, _, _, rfl⟩ := htb.bu.slice; rfl)
             have HTB := Lib.hid htb
             haveI iB : IsBlk wr (w.heap.size + 1) _ _ := ⟨htb.blk⟩
             haveI iR : IsBlk wr w.heap.size aj 34 := ⟨by rw [htb.bel.block _ (by omega)]; exact hXr⟩
             haveI hS : Sz131 (aS 131 (ah ⟨PH, gr, CF, DE, RA, BU, s0, s1, s2, s3, s4, FL2, yJ T0 q, sh⟩ vg vd (.slice xa RA.length xc) vb)) := ⟨aE _ _⟩
             have t114 : (aS 131 (ah ⟨PH, gr, CF, DE, RA, BU, s0, s1, s2, s3, s4, FL2, yJ T0 q, sh⟩ vg vd (.slice xa RA.length xc) vb))[114]? = some (.slice xa RA.length xc) := by rw [ab _ _ _ (by omega)]; rfl
             have t129 : (aS 131 (ah ⟨PH, gr, CF, DE, RA, BU, s0, s1, s2, s3, s4, FL2, yJ T0 q, sh⟩ vg vd (.slice xa RA.length xc) vb))[129]? = some (.int .i64 (yJ T0 q)) := by rw [ab _ _ _ (by omega)]; rfl
             have HW : Hid (∀ w', Below wr.heap.size wr w' → Calls Tryz.prog 26 #[.agg (aS 131 (ah ⟨PH, gr, CF, DE, RA, BU, s0, s1, s2, s3, s4, FL2, yJ T0 q, sh⟩ vg vd (.slice xa RA.length xc) vb)), .int .i64 q] w' fun e w'' => e = .returned (.int .i64 (cm T0 q)) ∧ Below w'.heap.size w' w'') := Lib.hid fun w' h => by
              have h2 := ac5 _ _ (q : Int) w' (hT.below h (Nat.le_refl _))
              rw [ac9 _ _ _ _ _ _ _ _ _ _ _ _ _ _ _ _ hT0] at h2; exact h2
             obtain ⟨C, hC⟩ : ∃ C, aS 131 (ah ⟨PH, gr, CF, DE, RA, BU, s0, s1, s2, s3, s4, FL2, yJ T0 q, sh⟩ vg vd (.slice xa RA.length xc) vb) = C := ⟨_, rfl⟩
             have HC := Lib.hid hC
             rw [hC] at iB hS t114 t129 HW hone
             have HONE := Lib.hid hone
             clear hC hT htb hown hone
             by_cases hlq : q < p ∧ RA.length ≠ 0
             ·obtain ⟨h1, h2⟩ := hlq
              have hra : (0 : Int) < RA.length := by omega
              have HWM : Hid (yJ T0 (q + 1) = max (yJ T0 q) (cm T0 q)) := Lib.hid rfl
              generalize yJ T0 q = w0 at *
              generalize cm T0 q = w1 at *
              go_wp2
              (refine aO 7 (by kernel_rfl) (by kernel_rfl) ?_; simp only [List.take_succ_cons, List.take_zero, List.drop_succ_cons, List.drop_zero]; (repeat (first | (go_big_quiet_want; refine di rfl rfl ?_; simp only [Act.put, List.setIfInBounds_toArray, List.set_cons_succ, List.set_cons_zero]; go_big_quiet_on) | go_big_quiet_step ((first | (go_at_call 26; exact Up.calls (HW.out _ (by exact yd))) | fail)))); refine wpQuiet_nil ?_; rintro _ ⟨u, rfl⟩)
              obtain ⟨mx, hmx⟩ : ∃ x, (if w0 < w1 then w1 else w0) = x := ⟨_, rfl⟩
              have HMX : Hid (max w0 w1 = mx) := Lib.hid (by rw [← hmx]; split <;> omega)
              rw [hmx]
              clear hmx
              go_wp2
              go_roundw
              case rel => exact ⟨q + 1, by omega, fun h => absurd h h2, by go_num, by rw [HWM.out, HMX.out]; exact TB.putWin (HTB.out.below (Up.bel _))⟩
              case measure => simp [intOf]; omega
             ·have HFIN : Hid (⟨PH, gr, CF, DE, RA, BU, s0, s1, s2, s3, s4, FL2, yJ T0 q, sh⟩ = R) := Lib.hid (by
               rw [← HR.out, HE.out, hT0]
               congr 1
               by_cases hz : RA.length = 0
               ·rw [if_pos hz, hq0 hz]; rfl
               ·rw [if_neg hz, show q = p by omega])
              have HQ : Hid (q < p → RA.length = 0) := Lib.hid fun h => by by_cases hz : RA.length = 0; exact hz; exact absurd ⟨h, hz⟩ hlq
              have HSET : Hid ((wr.setCells w.heap.size 0 C.toList).heap[w.heap.size]? = some (.cells C 34)) := Lib.hid (by rw [ap _ iR.out, yp (by rw [hS.out]; rfl)])
              have HTAB : Hid (ag (wr.setCells w.heap.size 0 C.toList) C R) := Lib.hid (by
               have h := (HTB.out.other (k := w.heap.size) (i := 0) (vs := C.toList) (by omega)).isTab
               rw [HC.out, HFIN.out] at h; exact h)
              have HDE : Hid (tS (wr.setCells w.heap.size 0 C.toList) w.heap.size C R.de) := Lib.hid (by
               have h := (HTB.out.other (k := w.heap.size) (i := 0) (vs := C.toList) (by omega)).ownDe
               rw [HC.out, HFIN.out] at h; exact h.less (by omega))
              clear hlq hq0 HE
              by_cases h1 : q < p
              ·have hz := HQ.out h1
               rw [hz] at t114
               have Hz := Lib.hid hz
               clear hz
               go_wp2_with (first | (refine aJ rfl rfl rfl ?_; go_simp) | (refine ac (o := 0) (cs := C) 34 rfl rfl rfl rfl (by rw [hS.out]; exact Nat.le_refl _) (by rw [hS.out]; kernel_rfl) HONE.out ?_; go_simp))
               refine bodyPost_ret (results_cell_row (p := 2) (ty := 34) rfl _ _ w.heap.size 34 C (0, 0) _ rfl HSET.out Tryz.underlying34 rfl (by rw [hS.out]; kernel_rfl)) rfl ?_
               exact ⟨C, rfl, HTAB.out, HDE.out, al _ _ hbw (Nat.le_refl _)⟩
              ·have hpq : (p : Int) ≤ q := by omega
               go_wp2_with (first | (refine aJ rfl rfl rfl ?_; go_simp) | (refine ac (o := 0) (cs := C) 34 rfl rfl rfl rfl (by rw [hS.out]; exact Nat.le_refl _) (by rw [hS.out]; kernel_rfl) HONE.out ?_; go_simp))
               refine bodyPost_ret (results_cell_row (p := 2) (ty := 34) rfl _ _ w.heap.size 34 C (0, 0) _ rfl HSET.out Tryz.underlying34 rfl (by rw [hS.out]; kernel_rfl)) rfl ?_
               exact ⟨C, rfl, HTAB.out, HDE.out, al _ _ hbw (Nat.le_refl _)⟩
theorem ack (a : Option Addr) (cap : Nat) (zs : List Int) (w : World) (hl : zs.length ≤ 9223372036854775807) (hz : bQ w a zs) :
  Calls Tryz.prog 21 #[.slice a zs.length cap] w fun e w' => ∃ T, e = .returned (.agg T) ∧ ag w' T (ye zs) ∧ Below w.heap.size w w' :=
 (acl a cap zs w hl hz).mono fun e w' ⟨T, h1, h2, _, h4⟩ => ⟨T, h1, h2, h4⟩
end
section
open Go.RowKit
theorem adW (zs : List Int) (k : Nat) : ((ye zs).ph k).on = true ∧ PhOk ((ye zs).ph k) ∨ (ye zs).ph k = vz := by
 show (ph1 zs (yf zs).1 k).on = true ∧ PhOk (ph1 zs (yf zs).1 k) ∨ ph1 zs (yf zs).1 k = vz
 unfold ph1
 split
 ·exact .inl ⟨rfl, adK zs _⟩
 ·exact .inr rfl
structure PhIn (p : Phs) : Prop where
 min : 0 ≤ p.min ∧ p.min ≤ 12
 gap : 0 ≤ p.gap ∧ p.gap ≤ 8
 max : 0 ≤ p.max ∧ p.max ≤ 36 ∧ p.min ≤ p.max
 top : p.max ≤ p.top ∧ p.top ≤ 50
 step : 0 ≤ p.step ∧ p.step ≤ 6
 yel : 0 ≤ p.yel ∧ p.yel ≤ 13
 red : 0 ≤ p.red ∧ p.red ≤ 4
 walk : 0 ≤ p.walk ∧ p.walk ≤ 10
 blinks : 0 ≤ p.blinks ∧ p.blinks ≤ 10
theorem aax (zs : List Int) (k : Nat) : PhIn ((ye zs).ph k) := by
 rcases adW zs k with ⟨_, h⟩ | h
 ·obtain ⟨h1, h2, h3, h4, h5, h6, h7, h8, h9, h10⟩ := h
  exact ⟨by omega, by omega, by omega, by omega, by omega, by omega, by omega, by omega, by omega⟩
 ·rw [h]; exact ⟨by decide, by decide, by decide, by decide, by decide, by decide, by decide, by decide, by decide⟩
theorem ag.one {w : World} {T : Array Value} {t : Tab} (h : ag w T t) : T.all (·.oneCell') = true := by
 obtain ⟨g, d, r, b, rfl, hI⟩ := h
 obtain ⟨_, _, _, rfl, _⟩ := hI.gr
 obtain ⟨_, _, rfl, _⟩ := hI.de
 obtain ⟨_, _, rfl, _⟩ := hI.ra
 obtain ⟨_, _, rfl, _⟩ := hI.bu
 exact ve _ _ _ _ _ rfl rfl rfl rfl
theorem acX (v n : Int) (w : World) (hn : 1 ≤ n) (hn2 : n ≤ 4611686018427387904) :
  Calls Tryz.prog 23 #[.int .i64 v, .int .i64 n] w fun e w' => e = .returned (.int .i64 (v % n)) ∧ w = w' := by
 have hb := acH (v := v) hn
 have hne : (n == 0) = false := by simp; omega
 have H := Lib.hid (aa9 (v := v) hn)
 go_enter Tryz.func23, Tryz.ntmps23
 go_wp2
 all_goals
  go_ret
  exact ⟨bU (by rw [H.out]; simp [*]; try omega), rfl⟩
theorem pT {w : World} {Z T : Array Value} {t : TypeId} (hs : T.size = Z.size) : (w.alloc (.cells Z t)).setCells w.heap.size 0 T.toList = w.alloc (.cells T t) := by
 have key : ∀ (vs : List Value) (C : Array Value) (o : Nat), (w.alloc (.cells C t)).setCells w.heap.size o vs = w.alloc (.cells (kk C o vs) t) := by
  intro vs
  induction vs with
  | nil => intro C o; rfl
  | cons v vs ih =>
   intro C o
   rw [World.setCells, kk, ← ih]
   congr 1
   exact World.setCell_alloc_at _ _ _ _ _ rfl
 rw [key, yp hs]
theorem cT {ops : Array Oper} {rest : List Oper} {op : Oper} {a : Act} {w : World} {Q : Exit → Act → World → Prop} (ty : TypeId) {x y : Operand} {Z T : Array Value} {t : TypeId} {b : Nat} (hgd : op.guard = none) (ho : op.op = .store ty x y) (hx : a.eval x = .pointer (some ⟨b, 0, none⟩)) (hy : a.eval y = .agg T)
  (hb : SizeIs b w) (hs : T.size = Z.size) (hi : (Tryz.prog.info? ty).map (·.size) = some T.size) (h1 : T.all (·.oneCell') = true)
  (h : wpList Tryz.prog ops Q rest (a.put op.dst undef) (w.alloc (.cells T t))) : wpList Tryz.prog ops Q (op :: rest) a (w.alloc (.cells Z t)) := by
 have hb := hb.out
 subst hb
 refine ac (o := 0) (C := Z) (t := t) ty hgd ho hx hy (by omega) hi h1 ?_
 rw [pT hs]
 exact h
theorem sg {ops : Array Oper} {rest : List Oper} {op : Oper} {a : Act} {w w0 : World} {Q : Exit → Act → World → Prop} {x y : Operand} {Z T : Array Value} {t : TypeId} {b : Nat} {tb : Tab} (hgd : op.guard = none) (ho : op.op = .store 34 x y) (hx : a.eval x = .pointer (some ⟨b, 0, none⟩)) (hy : a.eval y = .agg T)
  (hb : SizeIs b w) (hT : ag w0 T tb) (hs : 131 = Z.size)
  (h : wpList Tryz.prog ops Q rest (a.put op.dst undef) (w.alloc (.cells T t))) : wpList Tryz.prog ops Q (op :: rest) a (w.alloc (.cells Z t)) :=
 cT 34 hgd ho hx hy hb (by rw [hT.size]; exact hs) (by rw [hT.size]; exact du) hT.one h
def gS (p : Phs) : Array Value := #[.bool p.on, .int .i64 p.min, .int .i64 p.gap, .int .i64 p.max, .int .i64 p.top, .int .i64 p.step, .int .i64 p.yel, .int .i64 p.red, .int .i64 p.walk, .int .i64 p.blinks, .int .i64 p.recl, .bool p.lock, .bool p.rest]
class IsPq (C : Array Value) (p : outParam Phs) : Prop where
 out : C = gS p
instance (p : Phs) : IsPq (gS p) p := ⟨rfl⟩
instance (p : Phs) : IsPq #[.bool p.on, .int .i64 p.min, .int .i64 p.gap, .int .i64 p.max, .int .i64 p.top, .int .i64 p.step, .int .i64 p.yel, .int .i64 p.red, .int .i64 p.walk, .int .i64 p.blinks, .int .i64 p.recl, .bool p.lock, .bool p.rest] p := ⟨rfl⟩
end
section
open Go.RowKit
attribute [local go_sem] IsBlk.cell IsBlk.frozen
theorem iH (T : Array Value) (t : Tab) (p q : Int) (w : World) (hT : ag w T t) :
  Calls Tryz.prog 147 #[.agg T, .int .i64 p, .int .i64 q] w fun e w' => e = .returned (.bool (gk t.gr p q)) ∧ Below w.heap.size w w' := by
 haveI : Sz131 T := ⟨hT.size⟩
 have HT : Hid (∀ w', Below w.heap.size w w' → ag w' T t) := Lib.hid fun w' hb => hT.below hb (Nat.le_refl _)
 clear hT
 have HQ : ∀ w', ag w' T t → ∀ p, Calls Tryz.prog 108 #[.agg T, .int .i64 p] w' fun e w'' => e = .returned (.tuple #[.int .i64 (wo (bh t.gr p)), .int .i64 (wZ (bh t.gr p)), .int .i64 (wY (bh t.gr p)), .bool (bh t.gr p).isSome]) ∧ Below w'.heap.size w' w'' := fun w' h p => jK T t p w' h
 unfold gk
 generalize bh t.gr = F at *
 have HP := Lib.hid (fun w' h => HQ w' h p)
 have HQ := Lib.hid (fun w' h => HQ w' h q)
 generalize F p = a at *
 generalize F q = b at *
 cases a <;> cases b
 all_goals
  have HP1 := HP.out
  have HQ1 := HQ.out
  simp only [wo, wZ, wY, Option.isSome] at HP1 HQ1
  replace HP := Lib.hid HP1
  replace HQ := Lib.hid HQ1
  clear HP1 HQ1
  go_enter Tryz.func147, Tryz.ntmps147
  go_wp2_with (first | (refine aJ rfl rfl rfl ?_; go_simp) | (go_at_call 108; refine (Up.run (HP.out _ (HT.out _ (by exact yd)))).mono ?_; clear HP; rintro e w' ⟨rfl, uw, rfl⟩) | (go_at_call 108; refine (Up.run (HQ.out _ (HT.out _ (by exact yd)))).mono ?_; rintro e w' ⟨rfl, uw2, rfl⟩))
 all_goals
  go_ret
  first
   | exact ⟨rfl, by exact yd⟩
   | (refine ⟨aK ?_, by exact yd⟩; simp [*])
end
section
open Go.RowKit
attribute [local go_sem] IsBlk.cell IsBlk.frozen
theorem uT (l : List Int) (x : Int) : tB (l ++ [x]) = iI (tB l) x := fG fun i hi => by
 unfold tB
 rw [yH _ hi, Bool.eq_iff_iff]
 simp only [List.contains_iff_mem, List.mem_append, List.mem_singleton, Bool.or_eq_true, kq, decide_eq_true_eq]
 exact or_congr Iff.rfl ⟨Eq.symm, Eq.symm⟩
theorem qu {w : World} {b : Nat} {C : Array Value} {t : TypeId} [h : IsBlk w b C t] [hz : Sz131 C] : Sem.run Tryz.prog (Instr.loadAt 27 (.pointer (some ⟨b, 0, none⟩))) w = .ok (.agg (C.extract 0 104)) w := by
 have e : ((C.extract 0 (0 + 104)).toList).length = 104 := by have := hz.out; simp; omega
 have := run_loadAt_mid (P := Tryz.prog) w b 0 27 (C.extract 0 (0 + 104)).toList _ (World.rangeAt_of_block h.out 0 104) Tryz.underlying27 rfl (by rw [e]; kernel_rfl)
 rwa [Array.toArray_toList, show C.extract 0 (0 + 104) = C.extract 0 104 by rw [Nat.zero_add]] at this
theorem mb {ops : Array Oper} {rest : List Oper} {op : Oper} {a : Act} {w : World} {Q : Exit → Act → World → Prop} {x : Operand} {b : Nat} {C : Array Value} {t : TypeId} [hz : Sz131 C] (hgd : op.guard = none) (ho : op.op = .load 27 x) (hx : a.eval x = .pointer (some ⟨b, 0, none⟩)) [h : IsBlk w b C t]
  (hk : wpList Tryz.prog ops Q rest (a.put op.dst (.agg (C.extract 0 104))) w) : wpList Tryz.prog ops Q (op :: rest) a w := cR hgd ho hx qu hk
theorem om : (Tryz.prog.info? 26).map (·.size) = some 13 := by kernel_rfl
theorem gM {C : Array Value} {p : Phs} {k : Nat} (hk : k < 8) (hs : C.size = 131) (h : ∀ j, j < 13 → C[k * 13 + j]? = some ((cy p).getD j undef)) (w : World) : Sem.run Tryz.prog (Instr.index 27 (.agg (C.extract 0 104)) (.int .i64 k)) w = .ok (.agg (gS p)) w := by
 have hk8 : (k : Int) < 8 := by omega
 have e : C.extract (k * 13) (min (k * 13 + 13) 104) = gS p := by
  rw [Nat.min_eq_left (by omega)]
  apply Array.ext_getElem?
  intro j
  by_cases hj : j < 13
  ·have h1 : (C.extract (k * 13) (k * 13 + 13))[j]? = C[k * 13 + j]? := by
    rw [Array.getElem?_extract, if_pos (by omega)]
   rw [h1, h j hj]
   rcases (show j = 0 ∨ j = 1 ∨ j = 2 ∨ j = 3 ∨ j = 4 ∨ j = 5 ∨ j = 6 ∨ j = 7 ∨ j = 8 ∨ j = 9 ∨ j = 10 ∨ j = 11 ∨ j = 12 by omega) with rfl | rfl | rfl | rfl | rfl | rfl | rfl | rfl | rfl | rfl | rfl | rfl | rfl <;> rfl
  ·rw [Array.getElem?_eq_none (by simp; omega), Array.getElem?_eq_none (by simp [gS]; omega)]
 obtain ⟨i13, hi13, hs13⟩ : ∃ i, Tryz.prog.info? 26 = some i ∧ i.size = 13 := by
  have := om
  cases hq : Tryz.prog.info? 26 with
  | none => simp [hq] at this
  | some i => exact ⟨i, rfl, by simpa [hq] using this⟩
 simp [Instr.index, asIntOf, Sem.run_bind, run_underlying Tryz.underlying27, part, isAgg, run_underlying Tryz.underlying26, Result.andThen, hk, sizeOf, typeInfo, hi13, hs13, go_sem, e]
theorem lD {ops : Array Oper} {rest : List Oper} {op : Oper} {a : Act} {w : World} {Q : Exit → Act → World → Prop} {x y : Operand} {Z : Array Value} {t : TypeId} {b : Nat} {p : Phs} (hgd : op.guard = none) (ho : op.op = .store 26 x y) (hx : a.eval x = .pointer (some ⟨b, 0, none⟩)) (hy : a.eval y = .agg (gS p)) (hb : SizeIs b w) (hs : 13 = Z.size)
  (h : wpList Tryz.prog ops Q rest (a.put op.dst undef) (w.alloc (.cells (gS p) t))) : wpList Tryz.prog ops Q (op :: rest) a (w.alloc (.cells Z t)) :=
 cT (T := gS p) 26 hgd ho hx hy hb hs (by kernel_rfl) (by simp [gS, Value.oneCell']) h
theorem eE (T : Array Value) (t : Tab) (w : World) (hT : ag w T t) :
  Calls Tryz.prog 56 #[.agg T] w fun e w' => e = .returned (.int .i64 (eB t)) ∧ Below w.heap.size w w' := by
 haveI : Sz131 T := ⟨hT.size⟩
 have HX : Hid (∀ k, k < 8 → ∀ w, Sem.run Tryz.prog (Instr.index 27 (.agg (T.extract 0 104)) (.int .i64 (k : Nat))) w = .ok (.agg (gS (t.ph k))) w) := Lib.hid fun k hk w' => gM hk hT.size (hT.isPh k hk).out w'
 have f0 : ∀ p, (gS p)[0]? = some (.bool p.on) := fun p => rfl
 clear hT
 go_enter Tryz.func56, Tryz.ntmps56
 go_wp2_with (refine mb rfl rfl rfl ?_; go_simp)
 go_loopw [3, 8] (fun s i wr => ∃ k : Nat, k ≤ 8 ∧ i = .int .i64 k ∧ s = .int .i64 (tB (onL t k)) ∧ Below (w.heap.size + 1) (w.alloc (.cells T 34)) wr) (fun _ i _ => 8 - (intOf i).toNat)
 case atStart => exact ⟨0, Nat.zero_le _, rfl, rfl, by exact yd⟩
 case round =>
  obtain ⟨k, hk, rfl, rfl, hb⟩ := hrel
  by_cases hlt : k < 8
  ·have hix := HX.out k hlt
   have HS := Lib.hid (rS t k)
   have HL : LeSize (w.heap.size + 1) wr := ⟨by have := hb.size; simpa using this⟩
   have hbw : Below w.heap.size w wr := ((Below.refl w.heap.size w).alloc (Nat.le_refl _) (.cells T 34)).trans (hb.mono (by omega))
   cases hon : (t.ph k).on
   ·have HS2 : Hid (onL t (k + 1) = onL t k) := Lib.hid (by rw [HS.out, hon]; simp)
    clear HS
    go_wp2_with (refine lD rfl rfl rfl rfl inferInstance rfl ?_; go_simp)
    go_roundw
    case rel => exact ⟨k + 1, by omega, by go_num, by rw [HS2.out], by exact yd⟩
    case measure => simp [intOf]; omega
   ·have HS2 : Hid (tB (onL t (k + 1)) = iI (tB (onL t k)) k) := Lib.hid (by rw [HS.out, hon]; exact uT _ _)
    clear HS
    go_wp2_with (first | (refine lD rfl rfl rfl rfl inferInstance rfl ?_; go_simp) | (go_at_call 144; refine (lm _ _ _).mono ?_; rintro e w' ⟨rfl, rfl⟩))
    go_roundw
    case rel => exact ⟨k + 1, by omega, by go_num, by rw [HS2.out], by exact yd⟩
    case measure => simp [intOf]; omega
  ·obtain rfl : k = 8 := by omega
   have hbw : Below w.heap.size w wr := ((Below.refl w.heap.size w).alloc (Nat.le_refl _) (.cells T 34)).trans (hb.mono (by omega))
   go_wp2
   go_ret
   exact ⟨rfl, by exact yd⟩
end
end Go.Proofs.YtodgfjgljcinlaaGreat
