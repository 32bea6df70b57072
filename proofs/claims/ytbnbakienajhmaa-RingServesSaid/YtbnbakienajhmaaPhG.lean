/- The contracts of package ped and of its reference. The contracts of package gap and of its reference. The contract of gap.Grow, and 'awake'. The contracts of May at a table that has one phase alone, and of Fits. The contract of Fits. The contract of the reference's Grow. The contracts of package phase: as, red, yellow, clears. The contract of package phase's red. The contract of package phase's goes. The contract of package phase's green. The contracts of package phase: Step, Held, Begin. -/
import Derived.Test.YtbnbakienajhmaaCnt
import Derived.Test.YtbnbakienajhmaaPlace
import Derived.Test.YtbnbakienajhmaaOdd
import Derived.Test.YtbnbakienajhmaaBlk
import Derived.Test.YtbnbakienajhmaaApp
import Derived.Test.YtbnbakienajhmaaTel
import Derived.Test.YtbnbakienajhmaaQld
import Derived.Test.YtbnbakienajhmaaFree
import Derived.Deep.DeepCutAuto
namespace Go.Proofs.Ytbnbakienajhmaa
section
open Go.RowKit
set_option linter.unusedVariables false

def ftM (wa bl st tm : Int) (b : Bool) : Int × Int :=
  if st = 1 then (if wa ≤ tm then (2, 1) else (1, moreM tm))
  else if st = 2 then (if bl ≤ tm then (0, 0) else (2, moreM tm))
  else if b = true ∧ 0 < wa then (1, 1) else (0, 0)
def fcM (st tm : Int) : Int × Int := if st = 1 then (2, 1) else (st, tm)
def foM (st tm least : Int) : Bool := !(st == 1) && (!(st == 2) || decide (least ≤ tm))
theorem ret_ft {a a' b b' : Int} (h : (a, b) = (a', b')) : Ending.returned (.agg #[.int .i64 a, .int .i64 b]) = .returned (.agg #[.int .i64 a', .int .i64 b']) := by cases h; rfl
set_option maxHeartbeats 2000000 in
theorem rfstep_any (pon : Bool) (pmin pgap pmax ptop pstep pyel pred pwalk pblinks prec : Int) (plock prest : Bool) (st tm : Int) (b : Bool) (w : World) :
    Calls Try.prog 69 #[.agg #[.bool pon, .int .i64 pmin, .int .i64 pgap, .int .i64 pmax, .int .i64 ptop, .int .i64 pstep, .int .i64 pyel, .int .i64 pred, .int .i64 pwalk, .int .i64 pblinks, .int .i64 prec, .bool plock, .bool prest], .agg #[.int .i64 st, .int .i64 tm], .bool b] w
      fun e w' => e = .returned (.agg #[.int .i64 (ftM pwalk pblinks st tm b).1, .int .i64 (ftM pwalk pblinks st tm b).2]) ∧ Below w.heap.size w w' := by
  by_cases h1 : st = 1
  · subst h1
    by_cases h2 : pwalk ≤ tm
    all_goals
      go_enter Try.func69, Try.ntmps69
      go_wp2_with (go_at_call 68; refine (rmore_any _ _).mono ?_; rintro e w' ⟨rfl, rfl⟩)
      go_returns
      exact ⟨ret_ft (by unfold ftM; (repeat' split) <;> (first | rfl | omega | (simp_all; done))), by (repeat' (first | (with_reducible exact Below.refl _ _) | (with_reducible assumption) | (with_reducible refine Below.setCell ?_ ?_ _) | (with_reducible refine Below.alloc ?_ ?_ _) | (with_reducible refine Below.drew ?_) | (with_reducible refine Up.base _ ?_ ?_) | (with_reducible exact LeSize.out) | exact LeSize.out | exact Nat.le_add_right_of_le LeSize.out | exact Nat.le_add_right_of_le (Nat.le_add_right_of_le LeSize.out) | (with_reducible exact Nat.le_refl _) | (simp; done) | (simp; omega)))⟩
  by_cases h3 : st = 2
  · subst h3
    by_cases h2 : pblinks ≤ tm
    all_goals
      go_enter Try.func69, Try.ntmps69
      go_wp2_with (go_at_call 68; refine (rmore_any _ _).mono ?_; rintro e w' ⟨rfl, rfl⟩)
      go_returns
      exact ⟨ret_ft (by unfold ftM; (repeat' split) <;> (first | rfl | omega | (simp_all; done))), by (repeat' (first | (with_reducible exact Below.refl _ _) | (with_reducible assumption) | (with_reducible refine Below.setCell ?_ ?_ _) | (with_reducible refine Below.alloc ?_ ?_ _) | (with_reducible refine Below.drew ?_) | (with_reducible refine Up.base _ ?_ ?_) | (with_reducible exact LeSize.out) | exact LeSize.out | exact Nat.le_add_right_of_le LeSize.out | exact Nat.le_add_right_of_le (Nat.le_add_right_of_le LeSize.out) | (with_reducible exact Nat.le_refl _) | (simp; done) | (simp; omega)))⟩
  have n1 : (st == 1) = false := by simp [h1]
  have n2 : (st == 2) = false := by simp [h3]
  by_cases h4 : 0 < pwalk
  all_goals cases b
  all_goals
    go_enter Try.func69, Try.ntmps69
    go_wp2_with (go_at_call 68; refine (rmore_any _ _).mono ?_; rintro e w' ⟨rfl, rfl⟩)
    go_returns
    exact ⟨ret_ft (by unfold ftM; (repeat' split) <;> (first | rfl | omega | (simp_all; done))), by (repeat' (first | (with_reducible exact Below.refl _ _) | (with_reducible assumption) | (with_reducible refine Below.setCell ?_ ?_ _) | (with_reducible refine Below.alloc ?_ ?_ _) | (with_reducible refine Below.drew ?_) | (with_reducible refine Up.base _ ?_ ?_) | (with_reducible exact LeSize.out) | exact LeSize.out | exact Nat.le_add_right_of_le LeSize.out | exact Nat.le_add_right_of_le (Nat.le_add_right_of_le LeSize.out) | (with_reducible exact Nat.le_refl _) | (simp; done) | (simp; omega)))⟩
set_option maxHeartbeats 400000 in
theorem rfcut_any (st tm : Int) (w : World) :
    Calls Try.prog 79 #[.agg #[.int .i64 st, .int .i64 tm]] w fun e w' => e = .returned (.agg #[.int .i64 (fcM st tm).1, .int .i64 (fcM st tm).2]) ∧ Below w.heap.size w w' := by
  by_cases h1 : st = 1
  · subst h1
    go_enter Try.func79, Try.ntmps79
    go_wp2
    go_returns
    exact ⟨ret_ft (by simp [fcM]), by (repeat' (first | (with_reducible exact Below.refl _ _) | (with_reducible assumption) | (with_reducible refine Below.setCell ?_ ?_ _) | (with_reducible refine Below.alloc ?_ ?_ _) | (with_reducible refine Below.drew ?_) | (with_reducible refine Up.base _ ?_ ?_) | (with_reducible exact LeSize.out) | exact LeSize.out | exact Nat.le_add_right_of_le LeSize.out | exact Nat.le_add_right_of_le (Nat.le_add_right_of_le LeSize.out) | (with_reducible exact Nat.le_refl _) | (simp; done) | (simp; omega)))⟩
  · have n1 : (st == 1) = false := by simp [h1]
    go_enter Try.func79, Try.ntmps79
    go_wp2
    go_returns
    exact ⟨ret_ft (by simp [fcM, h1]), by (repeat' (first | (with_reducible exact Below.refl _ _) | (with_reducible assumption) | (with_reducible refine Below.setCell ?_ ?_ _) | (with_reducible refine Below.alloc ?_ ?_ _) | (with_reducible refine Below.drew ?_) | (with_reducible refine Up.base _ ?_ ?_) | (with_reducible exact LeSize.out) | exact LeSize.out | exact Nat.le_add_right_of_le LeSize.out | exact Nat.le_add_right_of_le (Nat.le_add_right_of_le LeSize.out) | (with_reducible exact Nat.le_refl _) | (simp; done) | (simp; omega)))⟩
set_option maxHeartbeats 1000000 in
theorem ridle_any (st tm : Int) (w : World) :
    Calls Try.prog 80 #[.agg #[.int .i64 st, .int .i64 tm]] w fun e w' => e = .returned (.bool (!(st == 1) && !(st == 2))) ∧ Below w.heap.size w w' := by
  by_cases h1 : st = 1
  all_goals by_cases h2 : st = 2
  all_goals (try (exfalso; omega))
  all_goals
    (try have q1 : (st != 1) = true := by simp [h1])
    (try have q2 : (st != 2) = true := by simp [h2])
    (try subst h1)
    (try subst h2)
    go_enter Try.func80, Try.ntmps80
    go_wp2
    go_ret
    exact ⟨ret_bool (by simp [*]), by (repeat' (first | (with_reducible exact Below.refl _ _) | (with_reducible assumption) | (with_reducible refine Below.setCell ?_ ?_ _) | (with_reducible refine Below.alloc ?_ ?_ _) | (with_reducible refine Below.drew ?_) | (with_reducible refine Up.base _ ?_ ?_) | (with_reducible exact LeSize.out) | exact LeSize.out | exact Nat.le_add_right_of_le LeSize.out | exact Nat.le_add_right_of_le (Nat.le_add_right_of_le LeSize.out) | (with_reducible exact Nat.le_refl _) | (simp; done) | (simp; omega)))⟩
end
section
open Go.RowKit
set_option linter.unusedVariables false

def cutT (n : Int) : Int := min (max n 0) 9999
theorem cutT_bd (n : Int) : 0 ≤ cutT n ∧ cutT n ≤ 9999 := by unfold cutT; omega
theorem cutM_T (n : Int) : cutM n 0 9999 = cutT n := by unfold cutM cutT; split <;> (try split) <;> omega
def lessM (n : Int) : Int := if cutT n = 0 then 0 else cutT n - 1
def leftM (gap left : Int) (here : Bool) : Int := if here then gap else lessM left
def limM (mx tp lim : Int) : Int := max (min lim tp) mx
theorem rcut_any (a : Int) (w : World) :
    Calls Try.prog 78 #[.int .i64 a, .int .i64 0, .int .i64 9999] w fun e w' => e = .returned (.int .i64 (cutT a)) ∧ w = w' := by
  have := cut_any a 0 9999 w
  rwa [cutM_T] at this
set_option maxHeartbeats 400000 in
theorem rless_any (a : Int) (w : World) :
    Calls Try.prog 84 #[.int .i64 a] w fun e w' => e = .returned (.int .i64 (lessM a)) ∧ w = w' := by
  have h := cutT_bd a
  go_enter Try.func84, Try.ntmps84
  go_wp2_with (go_at_call 78; refine (rcut_any _ _).mono ?_; rintro e w' ⟨rfl, rfl⟩)
  all_goals
    go_ret
    exact ⟨ret_int (by unfold lessM; split <;> simp_all), rfl⟩
set_option maxHeartbeats 1000000 in
theorem rleft_any (pon : Bool) (pmin pgap pmax ptop pstep pyel pred pwalk pblinks prec : Int) (plock prest : Bool) (n : Int) (b : Bool) (w : World) :
    Calls Try.prog 81 #[.agg #[.bool pon, .int .i64 pmin, .int .i64 pgap, .int .i64 pmax, .int .i64 ptop, .int .i64 pstep, .int .i64 pyel, .int .i64 pred, .int .i64 pwalk, .int .i64 pblinks, .int .i64 prec, .bool plock, .bool prest], .int .i64 n, .bool b] w fun e w' => e = .returned (.int .i64 (leftM pgap n b)) ∧ Below w.heap.size w w' := by
  cases b
  all_goals
    go_enter Try.func81, Try.ntmps81
    go_wp2_with (go_at_call 84; refine (rless_any _ _).mono ?_; rintro e w' ⟨rfl, rfl⟩)
    go_ret
    exact ⟨ret_int (by simp [leftM]), by (repeat' (first | (with_reducible exact Below.refl _ _) | (with_reducible assumption) | (with_reducible refine Below.setCell ?_ ?_ _) | (with_reducible refine Below.alloc ?_ ?_ _) | (with_reducible refine Below.drew ?_) | (with_reducible refine Up.base _ ?_ ?_) | (with_reducible exact LeSize.out) | exact LeSize.out | exact Nat.le_add_right_of_le LeSize.out | exact Nat.le_add_right_of_le (Nat.le_add_right_of_le LeSize.out) | (with_reducible exact Nat.le_refl _) | (simp; done) | (simp; omega)))⟩
set_option maxHeartbeats 1000000 in
theorem rlimit_any (pon : Bool) (pmin pgap pmax ptop pstep pyel pred pwalk pblinks prec : Int) (plock prest : Bool) (lim up dn : Int) (w : World) :
    Calls Try.prog 77 #[.agg #[.bool pon, .int .i64 pmin, .int .i64 pgap, .int .i64 pmax, .int .i64 ptop, .int .i64 pstep, .int .i64 pyel, .int .i64 pred, .int .i64 pwalk, .int .i64 pblinks, .int .i64 prec, .bool plock, .bool prest], .agg #[.int .i64 lim, .int .i64 up, .int .i64 dn]] w fun e w' => e = .returned (.int .i64 (limM pmax ptop lim)) ∧ Below w.heap.size w w' := by
  go_enter Try.func77, Try.ntmps77
  go_wp2
  all_goals
    go_ret
    exact ⟨ret_int (by unfold limM; omega), by (repeat' (first | (with_reducible exact Below.refl _ _) | (with_reducible assumption) | (with_reducible refine Below.setCell ?_ ?_ _) | (with_reducible refine Below.alloc ?_ ?_ _) | (with_reducible refine Below.drew ?_) | (with_reducible refine Up.base _ ?_ ?_) | (with_reducible exact LeSize.out) | exact LeSize.out | exact Nat.le_add_right_of_le LeSize.out | exact Nat.le_add_right_of_le (Nat.le_add_right_of_le LeSize.out) | (with_reducible exact Nat.le_refl _) | (simp; done) | (simp; omega)))⟩

def plusM (a b : Int) : Int := if 0 < b ∧ 9223372036854775807 - b < a then 9223372036854775807 else if b < 0 ∧ a < -9223372036854775808 - b then -9223372036854775808 else a + b
def minusM (a b : Int) : Int := if 0 < b ∧ a < -9223372036854775808 + b then -9223372036854775808 else if b < 0 ∧ 9223372036854775807 + b < a then 9223372036854775807 else a - b
end
section
open Go.RowKit
set_option linter.unusedVariables false

def bit01 (n : Int) : Int := min (max n 0) 1
theorem bit01_or (n : Int) : bit01 n = 0 ∨ bit01 n = 1 := by unfold bit01; omega
def grLim (mx tp st lim up dn : Int) (m : Bool) : Int :=
  limM mx tp (if m then (if bit01 up = 1 then plusM (limM mx tp lim) st else limM mx tp lim) else (if bit01 dn = 1 then minusM (limM mx tp lim) st else limM mx tp lim))
def grUp (up : Int) (m : Bool) : Int := if m then (if bit01 up = 1 then 0 else 1) else 0
def grDn (dn : Int) (m : Bool) : Int := if m then 0 else (if bit01 dn = 1 then 0 else 1)
theorem limM_in {mx tp lim : Int} (h1 : InKind .i64 mx) (h2 : InKind .i64 tp) (h3 : InKind .i64 lim) : -9223372036854775808 ≤ limM mx tp lim ∧ limM mx tp lim ≤ 9223372036854775807 := by
  have g1 : -9223372036854775808 ≤ mx ∧ mx ≤ 9223372036854775807 := h1
  have g2 : -9223372036854775808 ≤ tp ∧ tp ≤ 9223372036854775807 := h2
  have g3 : -9223372036854775808 ≤ lim ∧ lim ≤ 9223372036854775807 := h3
  unfold limM; omega
theorem ret_tr {a a' b b' c c' : Int} (h1 : a = a') (h2 : b = b') (h3 : c = c') : Ending.returned (.agg #[.int .i64 a, .int .i64 b, .int .i64 c]) = .returned (.agg #[.int .i64 a', .int .i64 b', .int .i64 c']) := by rw [h1, h2, h3]
end
section
open Go.RowKit
set_option linter.unusedVariables false

def uptoM (m : Int) (zs : List Int) : Bool := zs.all fun x => decide (0 ≤ x ∧ x ≤ m)
theorem uptoM_cons (m x : Int) (zs : List Int) : uptoM m (x :: zs) = (decide (0 ≤ x ∧ x ≤ m) && uptoM m zs) := rfl
theorem uptoM_iff {m : Int} {zs : List Int} : uptoM m zs = true ↔ ∀ i, i < zs.length → 0 ≤ zs.getD i 0 ∧ zs.getD i 0 ≤ m := by
  unfold uptoM
  rw [List.all_eq_true]
  constructor
  · intro h i hi
    have := h _ (List.getElem_mem hi)
    simpa [List.getD, hi] using this
  · intro h x hx
    obtain ⟨i, hi, rfl⟩ := List.getElem_of_mem hx
    have := h i hi
    simpa [List.getD, hi] using this
theorem uptoM_no {m : Int} {zs : List Int} (i : Nat) (hi : i < zs.length) (h : zs.getD i 0 < 0 ∨ m < zs.getD i 0) : uptoM m zs = false := by
  cases hc : uptoM m zs with
  | false => rfl
  | true => have := uptoM_iff.1 hc i hi; omega
def phaseM (pmin pgap pmax ptop pstep pyel pred pwalk pblinks prec : Int) : Bool := uptoM 9999 [pmin, pgap, pmax, ptop, pstep, pyel, pred, pwalk, pblinks] && uptoM 3 [prec]
theorem zeros_of {w : World} {b o : Nat} (c0 : w.cell? ⟨b, o, none⟩ = some (.int .i64 0)) (c1 : w.cell? ⟨b, o + 1, none⟩ = some (.int .i64 0)) (c2 : w.cell? ⟨b, o + 2, none⟩ = some (.int .i64 0)) (c3 : w.cell? ⟨b, o + 3, none⟩ = some (.int .i64 0))
    (c4 : w.cell? ⟨b, o + 4, none⟩ = some (.int .i64 0)) (c5 : w.cell? ⟨b, o + 5, none⟩ = some (.int .i64 0)) (c6 : w.cell? ⟨b, o + 6, none⟩ = some (.int .i64 0)) (c7 : w.cell? ⟨b, o + 7, none⟩ = some (.int .i64 0)) : ∀ i, i < 8 → w.cell? ⟨b, o + i, none⟩ = some (.int .i64 0) := fun i hi =>
  match i, hi with
  | 0, _ => c0
  | 1, _ => c1
  | 2, _ => c2
  | 3, _ => c3
  | 4, _ => c4
  | 5, _ => c5
  | 6, _ => c6
  | 7, _ => c7
theorem zero_cells {w : World} {b o : Nat} {cs : Array Value} {t : TypeId} (h : w.heap[b]? = some (.cells cs t)) (hz : (List.range 8).all (fun i => match cs[o + i]? with | some (.int .i64 0) => true | _ => false) = true) : ∀ i, i < 8 → w.cell? ⟨b, o + i, none⟩ = some (.int .i64 0) := by
  intro i hi
  have := List.all_eq_true.1 hz i (List.mem_range.2 hi)
  refine laid_cell h _ ?_
  generalize cs[o + i]? = x at *
  split at this <;> first | rfl | cases this
end
section
open Go.RowKit
set_option linter.unusedVariables false

end
section
open Go.RowKit
set_option linter.unusedVariables false

theorem phaseM_bd {pmin pgap pmax ptop pstep pyel pred pwalk pblinks prec : Int} (h : phaseM pmin pgap pmax ptop pstep pyel pred pwalk pblinks prec = true) :
    (0 ≤ pmin ∧ pmin ≤ 9999) ∧ (0 ≤ pgap ∧ pgap ≤ 9999) ∧ (0 ≤ pmax ∧ pmax ≤ 9999) ∧ (0 ≤ ptop ∧ ptop ≤ 9999) ∧ (0 ≤ pstep ∧ pstep ≤ 9999) ∧ (0 ≤ pyel ∧ pyel ≤ 9999) ∧ (0 ≤ pred ∧ pred ≤ 9999) ∧ (0 ≤ pwalk ∧ pwalk ≤ 9999) ∧ (0 ≤ pblinks ∧ pblinks ≤ 9999) ∧ (0 ≤ prec ∧ prec ≤ 3) := by
  simpa [phaseM, uptoM, and_assoc] using h
theorem cut01 (n : Int) : cutM n 0 1 = bit01 n := by unfold cutM bit01; split <;> (try split) <;> omega
theorem rcut01_any (a : Int) (w : World) :
    Calls Try.prog 78 #[.int .i64 a, .int .i64 0, .int .i64 1] w fun e w' => e = .returned (.int .i64 (bit01 a)) ∧ w = w' := by
  have := cut_any a 0 1 w
  rwa [cut01] at this
theorem limM_limM (mx tp lim : Int) : limM mx tp (limM mx tp lim) = limM mx tp lim := by unfold limM; omega
theorem limM_le {mx tp lim : Int} (hmx : 0 ≤ mx ∧ mx ≤ 9999) (htp : 0 ≤ tp ∧ tp ≤ 9999) : 0 ≤ limM mx tp lim ∧ limM mx tp lim ≤ 9999 := by unfold limM; omega
set_option maxHeartbeats 4000000 in
theorem rgrow_any (pon : Bool) (pmin pgap pmax ptop pstep pyel pred pwalk pblinks prec : Int) (plock prest : Bool) (lim up dn : Int) (m : Bool) (w : World) (hmx : 0 ≤ pmax ∧ pmax ≤ 9999) (htp : 0 ≤ ptop ∧ ptop ≤ 9999) (hst : 0 ≤ pstep ∧ pstep ≤ 9999) :
    Calls Try.prog 66 #[.agg #[.bool pon, .int .i64 pmin, .int .i64 pgap, .int .i64 pmax, .int .i64 ptop, .int .i64 pstep, .int .i64 pyel, .int .i64 pred, .int .i64 pwalk, .int .i64 pblinks, .int .i64 prec, .bool plock, .bool prest], .agg #[.int .i64 lim, .int .i64 up, .int .i64 dn], .bool m] w
      fun e w' => e = .returned (.agg #[.int .i64 (grLim pmax ptop pstep lim up dn m), .int .i64 (grUp up m), .int .i64 (grDn dn m)]) ∧ Below w.heap.size w w' := by
  have hl := limM_le (lim := lim) hmx htp
  have HP : Hid (plusM (limM pmax ptop lim) pstep = limM pmax ptop lim + pstep) := Lib.hid (by unfold plusM; (repeat' split) <;> omega)
  have HM : Hid (minusM (limM pmax ptop lim) pstep = limM pmax ptop lim - pstep) := Lib.hid (by unfold minusM; (repeat' split) <;> omega)
  rcases bit01_or up with u1 | u1
  all_goals rcases bit01_or dn with d1 | d1
  all_goals
    have U1 := Lib.hid u1
    have D1 := Lib.hid d1
    cases m
  all_goals
    go_enter Try.func66, Try.ntmps66
    go_wp2_with (first
    | (go_at_call 77; refine (Up.run (rlimit_any _ _ _ _ _ _ _ _ _ _ _ _ _ _ _ _ _)).mono ?_; rintro e w' ⟨rfl, u, rfl⟩)
    | (go_at_call 78; refine (rcut01_any _ _).mono ?_; rintro e w' ⟨rfl, rfl⟩))
    go_returns
    exact ⟨ret_tr (by simp [grLim, U1.out, D1.out, HP.out, HM.out, limM_limM]) (by simp [grUp, U1.out]) (by simp [grDn, D1.out]), by (repeat' (first | (with_reducible exact Below.refl _ _) | (with_reducible assumption) | (with_reducible refine Below.setCell ?_ ?_ _) | (with_reducible refine Below.alloc ?_ ?_ _) | (with_reducible refine Below.drew ?_) | (with_reducible refine Up.base _ ?_ ?_) | (with_reducible exact LeSize.out) | exact LeSize.out | exact Nat.le_add_right_of_le LeSize.out | exact Nat.le_add_right_of_le (Nat.le_add_right_of_le LeSize.out) | (with_reducible exact Nat.le_refl _) | (simp; done) | (simp; omega)))⟩
end
section
open Go.RowKit
set_option linter.unusedVariables false

/-- A tick's cells, and what is read of them. -/
def TickA (p : Phs) (r : Rn) (k : Cu) : Array Value := #[.bool p.on, .int .i64 p.min, .int .i64 p.gap, .int .i64 p.max, .int .i64 p.top, .int .i64 p.step, .int .i64 p.yel, .int .i64 p.red, .int .i64 p.walk, .int .i64 p.blinks, .int .i64 p.recl, .bool p.lock, .bool p.rest, .int .i64 r.c, .int .i64 r.t, .int .i64 r.fs, .int .i64 r.ft, .int .i64 r.l, .int .i64 r.p, .int .i64 r.e, .bool r.d, .bool r.m, .int .i64 r.tl, .int .i64 r.tu, .int .i64 r.td, .bool k.st, .bool k.en, .bool k.he, .bool k.pu, .bool k.pr, .bool k.ho, .bool k.ea, .bool k.cu]
class IsTick (T : Array Value) (p : outParam Phs) (r : outParam Rn) (k : outParam Cu) : Prop where
  out : T = TickA p r k
def part (C : Array Value) (o n : Nat) : Array Value := C.extract o (o + n)
theorem load_trend {w : World} {b o : Nat} {C : Array Value} {t : TypeId} [h : IsBlk w b C t] (ho : o + 3 ≤ C.size) : Sem.run Try.prog (Instr.loadAt 43 (.pointer (some ⟨b, o, none⟩))) w = .ok (.agg (part C o 3)) w := by
  have e : ((C.extract o (o + 3)).toList).length = 3 := by simp; omega
  have := run_loadAt_mid (P := Try.prog) w b o 43 (C.extract o (o + 3)).toList _ (World.rangeAt_of_block h.out o 3) Try.underlying43 rfl (by rw [e]; kernel_rfl)
  rwa [Array.toArray_toList] at this
theorem load_one {w : World} {b i : Nat} {C : Array Value} {t : TypeId} [h : IsBlk w b C t] : w.cell? ⟨b, i, none⟩ = C[i]? := IsBlk.cell i
theorem get_of {α : Type} {C : Array α} {i : Nat} {v : α} {hi : i < C.size} (h : C[i]? = some v) : C[i] = v := by
  rw [Array.getElem?_eq_getElem hi] at h; exact Option.some.inj h
theorem load_phs {w : World} {b : Nat} {C : Array Value} {t : TypeId} {p : Phs} {r : Rn} {k : Cu} [h : IsBlk w b C t] [hT : IsTick C p r k] : Sem.run Try.prog (Instr.loadAt 24 (.pointer (some ⟨b, 0, none⟩))) w = .ok (.agg #[.bool p.on, .int .i64 p.min, .int .i64 p.gap, .int .i64 p.max, .int .i64 p.top, .int .i64 p.step, .int .i64 p.yel, .int .i64 p.red, .int .i64 p.walk, .int .i64 p.blinks, .int .i64 p.recl, .bool p.lock, .bool p.rest]) w := by
  have e : C.extract 0 (0 + 13) = #[.bool p.on, .int .i64 p.min, .int .i64 p.gap, .int .i64 p.max, .int .i64 p.top, .int .i64 p.step, .int .i64 p.yel, .int .i64 p.red, .int .i64 p.walk, .int .i64 p.blinks, .int .i64 p.recl, .bool p.lock, .bool p.rest] := by rw [hT.out]; rfl
  have := run_loadAt_mid (P := Try.prog) w b 0 24 (C.extract 0 (0 + 13)).toList _ (World.rangeAt_of_block h.out 0 13) Try.underlying24 rfl (by rw [e]; kernel_rfl)
  rwa [Array.toArray_toList, e] at this
theorem load_run {w : World} {b : Nat} {C : Array Value} {t : TypeId} {p : Phs} {r : Rn} {k : Cu} [h : IsBlk w b C t] [hT : IsTick C p r k] : Sem.run Try.prog (Instr.loadAt 45 (.pointer (some ⟨b, 13, none⟩))) w = .ok (.agg #[.int .i64 r.c, .int .i64 r.t, .int .i64 r.fs, .int .i64 r.ft, .int .i64 r.l, .int .i64 r.p, .int .i64 r.e, .bool r.d, .bool r.m, .int .i64 r.tl, .int .i64 r.tu, .int .i64 r.td]) w := by
  have e : C.extract 13 (13 + 12) = #[.int .i64 r.c, .int .i64 r.t, .int .i64 r.fs, .int .i64 r.ft, .int .i64 r.l, .int .i64 r.p, .int .i64 r.e, .bool r.d, .bool r.m, .int .i64 r.tl, .int .i64 r.tu, .int .i64 r.td] := by rw [hT.out]; rfl
  have := run_loadAt_mid (P := Try.prog) w b 13 45 (C.extract 13 (13 + 12)).toList _ (World.rangeAt_of_block h.out 13 12) Try.underlying45 rfl (by rw [e]; kernel_rfl)
  rwa [Array.toArray_toList, e] at this
theorem load_foot {w : World} {b : Nat} {C : Array Value} {t : TypeId} {p : Phs} {r : Rn} {k : Cu} [h : IsBlk w b C t] [hT : IsTick C p r k] : Sem.run Try.prog (Instr.loadAt 41 (.pointer (some ⟨b, 15, none⟩))) w = .ok (.agg #[.int .i64 r.fs, .int .i64 r.ft]) w := by
  have e : C.extract 15 (15 + 2) = #[.int .i64 r.fs, .int .i64 r.ft] := by rw [hT.out]; rfl
  have := run_loadAt_mid (P := Try.prog) w b 15 41 (C.extract 15 (15 + 2)).toList _ (World.rangeAt_of_block h.out 15 2) Try.underlying41 rfl (by rw [e]; kernel_rfl)
  rwa [Array.toArray_toList, e] at this
attribute [local go_sem] load_one
def asM (r : Rn) (c t : Int) : Rn := ⟨c, t, 0, 0, 0, 0, 0, false, false, r.tl, r.tu, r.td⟩
def yelM (p : Phs) (r : Rn) : Rn := if r.t < p.yel then asM r 2 (moreM r.t) else if 0 < p.red then asM r 3 1 else asM r 0 1
def clrM (p : Phs) (r : Rn) : Rn := if r.t < p.red then asM r 3 (moreM r.t) else asM r 0 1
end
section
open Go.RowKit
instance instApart0 (b : Nat) (w : World) [h : LeSize (b + 1) w] : Apart b w.heap.size := ⟨by have := h.out; omega⟩
instance instApart1 (b : Nat) (w : World) [h : LeSize b w] : Apart b (w.heap.size + 1) := ⟨by have := h.out; omega⟩
instance instApart2 (b : Nat) (w : World) [h : LeSize b w] : Apart b (w.heap.size + 1 + 1) := ⟨by have := h.out; omega⟩
instance instApart3 (n : Nat) : Apart n (n + 1) := ⟨by omega⟩
instance instApart4 (n : Nat) : Apart n (n + 1 + 1) := ⟨by omega⟩
instance instApart5 (n : Nat) : Apart (n + 1) n := ⟨by omega⟩
instance instApart6 (n : Nat) : Apart (n + 1 + 1) n := ⟨by omega⟩
instance instApart7 (n : Nat) : Apart n (n + 1 + 1 + 1) := ⟨by omega⟩
instance instApart8 (n : Nat) : Apart (n + 1 + 1 + 1) n := ⟨by omega⟩
def redgM (p : Phs) (r : Rn) (k : Cu) : Rn :=
  if k.st = true then ⟨1, 1, (ftM p.walk p.blinks 0 0 k.pu).1, (ftM p.walk p.blinks 0 0 k.pu).2, p.gap, 0, 0, false, false, r.tl, r.tu, r.td⟩ else asM r 0 (moreM r.t)
attribute [local go_sem] load_one
end
section
open Go.RowKit
set_option linter.unusedVariables false

def shM (s : Int) : Bool := (s == 1) || (s == 2)
def gFoot (p : Phs) (r : Rn) (k : Cu) : Int × Int := if k.cu = true ∧ r.fs = 1 then fcM r.fs r.ft else ftM p.walk p.blinks r.fs r.ft (k.pu && !k.pr)
def gNew (p : Phs) (r : Rn) (k : Cu) : Bool := !shM r.fs && ((gFoot p r k).1 == 1)
/-- A green that goes on. -/
def goR (p : Phs) (r : Rn) (k : Cu) : Rn :=
  ⟨1, moreM r.t, (gFoot p r k).1, (gFoot p r k).2, leftM p.gap r.l k.he, if k.pr = true then moreM r.p else r.p, r.e, r.d && !gNew p r k, r.m && !gNew p r k, r.tl, r.tu, r.td⟩
def longM (p : Phs) (o : Rn) : Bool := decide (limM p.max p.top o.tl ≤ o.p)
def dueM (p : Phs) (o : Rn) (k : Cu) : Bool := k.pr && !o.d && decide (p.min ≤ o.t) && !shM o.fs && (o.l == 0 || longM p o || k.ea)
def RnA (o : Rn) : Array Value := #[.int .i64 o.c, .int .i64 o.t, .int .i64 o.fs, .int .i64 o.ft, .int .i64 o.l, .int .i64 o.p, .int .i64 o.e, .bool o.d, .bool o.m, .int .i64 o.tl, .int .i64 o.tu, .int .i64 o.td]
theorem frz_one {w : World} {b i : Nat} {C : Array Value} {t : TypeId} [h : IsBlk w b C t] : w.frozen? ⟨b, i, none⟩ = false := IsBlk.frozen i
attribute [local go_sem] load_one frz_one
end
section
open Go.RowKit
set_option linter.unusedVariables false

def endR (p : Phs) (r : Rn) : Rn :=
  if r.d = true then ⟨2, 1, 0, 0, 0, 0, 0, false, false, grLim p.max p.top p.step r.tl r.tu r.td r.m, grUp r.tu r.m, grDn r.td r.m⟩ else asM r 2 1
def dueR (p : Phs) (o : Rn) (k : Cu) (due : Bool) : Rn :=
  if due = true then (if k.ho = true then ⟨o.c, o.t, o.fs, o.ft, o.l, o.p, moreM o.e, o.d, o.m, o.tl, o.tu, o.td⟩
    else ⟨o.c, o.t, o.fs, o.ft, o.l, o.p, o.e, true, decide (0 < o.l) && longM p o, o.tl, o.tu, o.td⟩) else o
def grnR (p : Phs) (r : Rn) (k : Cu) : Rn := if k.en = true then endR p r else dueR p (goR p r k) k (dueM p (goR p r k) k)
attribute [local go_sem] load_one frz_one
end
section
open Go.RowKit
set_option linter.unusedVariables false

instance instIsTick (p : Phs) (r : Rn) (k : Cu) : IsTick (TickA p r k) p r k := ⟨rfl⟩
def PhA (p : Phs) : Value := .agg #[.bool p.on, .int .i64 p.min, .int .i64 p.gap, .int .i64 p.max, .int .i64 p.top, .int .i64 p.step, .int .i64 p.yel, .int .i64 p.red, .int .i64 p.walk, .int .i64 p.blinks, .int .i64 p.recl, .bool p.lock, .bool p.rest]
def CuA (k : Cu) : Value := .agg #[.bool k.st, .bool k.en, .bool k.he, .bool k.pu, .bool k.pr, .bool k.ho, .bool k.ea, .bool k.cu]
theorem sets_new {w : World} {Z T : Array Value} {t : TypeId} (hs : T.size = Z.size) : (w.alloc (.cells Z t)).setCells w.heap.size 0 T.toList = w.alloc (.cells T t) := by
  have key : ∀ (vs : List Value) (C : Array Value) (o : Nat), (w.alloc (.cells C t)).setCells w.heap.size o vs = w.alloc (.cells (spl C o vs) t) := by
    intro vs
    induction vs with
    | nil => intro C o; rfl
    | cons v vs ih =>
      intro C o
      rw [World.setCells, spl, ← ih]
      congr 1
      exact World.setCell_alloc_at _ _ _ _ _ rfl
  rw [key]
  congr 2
  apply Array.ext_getElem?
  intro i
  rw [spl_get]
  by_cases hi : i < Z.size
  · rw [if_pos ⟨Nat.zero_le _, by simp; omega, hi⟩]; simp
  · rw [if_neg (by omega), Array.getElem?_eq_none (by omega), Array.getElem?_eq_none (by omega)]
theorem wpList_store_new {ops : Array Oper} {rest : List Oper} {op : Oper} {a : Act} {w : World} {Q : Exit → Act → World → Prop} (ty : TypeId) {x y : Operand} {Z T : Array Value} {t : TypeId} {b : Nat} (hgd : op.guard = none) (ho : op.op = .store ty x y) (hx : a.eval x = .pointer (some ⟨b, 0, none⟩)) (hy : a.eval y = .agg T)
    (hb : SizeIs b w) (hs : T.size = Z.size) (hi : (Try.prog.info? ty).map (·.size) = some T.size) (h1 : T.all (·.oneCell') = true)
    (h : wpList Try.prog ops Q rest (a.put op.dst undef) (w.alloc (.cells T t))) : wpList Try.prog ops Q (op :: rest) a (w.alloc (.cells Z t)) := by
  have hb := hb.out
  subst hb
  refine wpList_store_part (o := 0) (C := Z) (t := t) ty hgd ho hx hy (by omega) hi h1 ?_
  rw [sets_new hs]
  exact h
def stepM (p : Phs) (r : Rn) (k : Cu) : Rn := if r.c = 1 then grnR p r k else if r.c = 2 then yelM p r else if r.c = 3 then clrM p r else redgM p r k
def heldM (p : Phs) (r : Rn) (k : Cu) : Bool := (r.c == 1) && !k.en && k.ho && dueM p (goR p r k) k
def beginM (p : Phs) : Rn := ⟨0, 9999, 0, 0, 0, 0, 0, false, false, p.max, 0, 0⟩
theorem tick_size (p : Phs) (r : Rn) (k : Cu) : (TickA p r k).size = 33 := rfl
theorem tick_cells (p : Phs) (r : Rn) (k : Cu) : (TickA p r k).all (·.oneCell') = true := by kernel_rfl
end
end Go.Proofs.Ytbnbakienajhmaa
