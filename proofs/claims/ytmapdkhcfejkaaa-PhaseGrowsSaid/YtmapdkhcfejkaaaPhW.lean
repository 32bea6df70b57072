/- The contract of package phase's green. -/
import Derived.Test.YtmapdkhcfejkaaaPhV
import Derived.Test.YtmapdkhcfejkaaaGapR
namespace Go.Proofs.Ytmapdkhcfejkaaa
open Go.RowKit
set_option linter.unusedVariables false

def endR (p : Phs) (r : Rn) : Rn :=
  if r.d = true then ⟨2, 1, 0, 0, 0, 0, 0, false, false, grLim p.max p.top p.step r.tl r.tu r.td r.m, grUp r.tu r.m, grDn r.td r.m⟩ else asM r 2 1
def dueR (p : Phs) (o : Rn) (k : Cu) (due : Bool) : Rn :=
  if due = true then (if k.ho = true then ⟨o.c, o.t, o.fs, o.ft, o.l, o.p, moreM o.e, o.d, o.m, o.tl, o.tu, o.td⟩
    else ⟨o.c, o.t, o.fs, o.ft, o.l, o.p, o.e, true, decide (0 < o.l) && longM p o, o.tl, o.tu, o.td⟩) else o
def grnR (p : Phs) (r : Rn) (k : Cu) : Rn := if k.en = true then endR p r else dueR p (goR p r k) k (dueM p (goR p r k) k)
attribute [local go_sem] load_one frz_one
set_option maxHeartbeats 8000000 in
set_option maxRecDepth 100000 in
theorem tgreen_any (T : Array Value) (p : Phs) (r : Rn) (k : Cu) [hT : IsTick T p r k] (w : World) (h1 : InKind .i64 p.max) (h2 : InKind .i64 p.top) (h3 : InKind .i64 r.tl) (h4 : InKind .i64 p.step) :
    Calls Try.prog 34 #[.agg T] w
      fun e w' => e = .returned (.agg #[.int .i64 (grnR p r k).c, .int .i64 (grnR p r k).t, .int .i64 (grnR p r k).fs, .int .i64 (grnR p r k).ft, .int .i64 (grnR p r k).l, .int .i64 (grnR p r k).p, .int .i64 (grnR p r k).e, .bool (grnR p r k).d, .bool (grnR p r k).m, .int .i64 (grnR p r k).tl, .int .i64 (grnR p r k).tu, .int .i64 (grnR p r k).td]) ∧ Below w.heap.size w w' := by
  have hs : T.size = 33 := by rw [hT.out]; rfl
  have t20 : T[20]'(by omega) = .bool r.d := get_of (by rw [hT.out]; rfl)
  have t21 : T[21]'(by omega) = .bool r.m := get_of (by rw [hT.out]; rfl)
  have t22 : T[22]'(by omega) = .int .i64 r.tl := get_of (by rw [hT.out]; rfl)
  have t23 : T[23]'(by omega) = .int .i64 r.tu := get_of (by rw [hT.out]; rfl)
  have t24 : T[24]'(by omega) = .int .i64 r.td := get_of (by rw [hT.out]; rfl)
  have t26 : T[26]'(by omega) = .bool k.en := get_of (by rw [hT.out]; rfl)
  have t30 : T[30]'(by omega) = .bool k.ho := get_of (by rw [hT.out]; rfl)
  cases hen : k.en
  · rw [hen] at t26
    rw [show grnR p r k = dueR p (goR p r k) k (dueM p (goR p r k) k) by simp [grnR, hen]]
    clear hen
    obtain ⟨o, ho⟩ : ∃ o, goR p r k = o := ⟨_, rfl⟩
    have HG : ∀ w, Calls Try.prog 31 #[.agg T] w fun e w' => e = .returned (.tuple #[.agg #[.int .i64 (o).c, .int .i64 (o).t, .int .i64 (o).fs, .int .i64 (o).ft, .int .i64 (o).l, .int .i64 (o).p, .int .i64 (o).e, .bool (o).d, .bool (o).m, .int .i64 (o).tl, .int .i64 (o).tu, .int .i64 (o).td], .bool (dueM p o k)]) ∧ Below w.heap.size w w' := fun w => by rw [← ho]; exact goes_any T p r k w
    rw [ho]
    clear ho
    generalize dueM p o k = due at *
    have HG := Lib.hid HG
    cases due
    · rw [show dueR p o k false = o by simp [dueR]]
      go_enter Try.func34, Try.ntmps34
      go_wp2_with (first | (refine l_ltick rfl rfl rfl ?_; go_simp) | (go_at_call 31; refine (Up.run (HG.out _)).mono ?_; rintro e w' ⟨rfl, ug, rfl⟩))
      go_returns
      exact ⟨rfl, by (repeat' (first | (with_reducible exact Below.refl _ _) | (with_reducible assumption) | (with_reducible refine Below.setCell ?_ ?_ _) | (with_reducible refine Below.alloc ?_ ?_ _) | (with_reducible refine Below.drew ?_) | (with_reducible refine Up.base _ ?_ ?_) | (with_reducible exact LeSize.out) | exact LeSize.out | exact Nat.le_add_right_of_le LeSize.out | exact Nat.le_add_right_of_le (Nat.le_add_right_of_le LeSize.out) | (with_reducible exact Nat.le_refl _) | (simp; done) | (simp; omega)))⟩
    · cases hho : k.ho
      · rw [hho] at t30
        rw [show dueR p o k true = ⟨o.c, o.t, o.fs, o.ft, o.l, o.p, o.e, true, decide (0 < o.l) && longM p o, o.tl, o.tu, o.td⟩ by simp [dueR, hho]]
        clear hho
        cases hol : decide (0 < o.l)
        all_goals
          have HO := Lib.hid hol
          go_enter Try.func34, Try.ntmps34
          go_wp2_with (first | (refine l_ltick rfl rfl rfl ?_; go_simp) | (go_at_call 31; refine (Up.run (HG.out _)).mono ?_; rintro e w' ⟨rfl, ug, rfl⟩))
          (refine wp_region_noPanic ?_; refine wp_region_up_held2 (fun w' => IsBlk w' w.heap.size T 74 ∧ w'.cell? ⟨ug.w.heap.size, 4, none⟩ = some (.int .i64 o.l) ∧ w'.cell? ⟨ug.w.heap.size, 5, none⟩ = some (.int .i64 o.p) ∧ w'.cell? ⟨ug.w.heap.size, 9, none⟩ = some (.int .i64 o.tl) ∧ w'.cell? ⟨ug.w.heap.size, 10, none⟩ = some (.int .i64 o.tu) ∧ w'.cell? ⟨ug.w.heap.size, 11, none⟩ = some (.int .i64 o.td)) [0, 1, 2, 3, 4, 5, 8, 9, 13] [6, 7, 10] [11, 12] [14, 15, 16] (by kernel_rfl) (by kernel_rfl) (fun _ _ _ _ _ h => (h : False).elim) (fun u => ⟨inferInstance, (by simp [go_sem]), (by simp [go_sem]), (by simp [go_sem]), (by simp [go_sem]), (by simp [go_sem])⟩) ?_; simp only [pickO, List.filterMap_cons, List.filterMap_nil, List.getElem?_cons_succ, List.getElem?_cons_zero]; show wpReads _ _ _ _ [_, _, _, _, _, _, _, _, _] _; (iterate 9 (first | (refine ⟨_, y_lphs rfl rfl rfl (fun _ h => h.1), ?_⟩; simp only [Act.put, List.setIfInBounds_toArray, List.set_cons_succ, List.set_cons_zero]) | (apply Exists.intro; refine ⟨Or.inl ⟨rfl, fun w hS => ?_⟩, ?_⟩; (focus (obtain ⟨hS0, hS1, hS2, hS3, hS4, hS5⟩ := hS; first | (simp [go_sem, *]; rfl) | (simp [go_sem]; rfl))); simp only [Act.put, List.setIfInBounds_toArray, List.set_cons_succ, List.set_cons_zero]) | (apply Exists.intro; refine ⟨Or.inr ⟨rfl, rfl⟩, ?_⟩; simp only [Act.put, List.setIfInBounds_toArray, List.set_cons_succ, List.set_cons_zero]))); refine wpReads_nil ?_; show wpQuiet _ _ _ _ [_, _, _] _; (repeat (first | (go_big_quiet_want; refine q_lphs rfl rfl ?_; simp only [Act.put, List.setIfInBounds_toArray, List.set_cons_succ, List.set_cons_zero]; go_big_quiet_on) | go_big_quiet_step ((first | (go_at_call 55; exact Up.calls (limit_any _ _ _ _ _ _ _ _ _ _ _ _ _ _ _ _ _)) | fail)))); refine wpQuiet_nil ?_; show wpReads _ _ _ _ [_, _] _; (iterate 2 (first | (refine ⟨_, y_lphs rfl rfl rfl (fun _ h => h.1), ?_⟩; simp only [Act.put, List.setIfInBounds_toArray, List.set_cons_succ, List.set_cons_zero]) | (apply Exists.intro; refine ⟨Or.inl ⟨rfl, fun w hS => ?_⟩, ?_⟩; (focus (obtain ⟨hS0, hS1, hS2, hS3, hS4, hS5⟩ := hS; first | (simp [go_sem, *]; rfl) | (simp [go_sem]; rfl))); simp only [Act.put, List.setIfInBounds_toArray, List.set_cons_succ, List.set_cons_zero]) | (apply Exists.intro; refine ⟨Or.inr ⟨rfl, rfl⟩, ?_⟩; simp only [Act.put, List.setIfInBounds_toArray, List.set_cons_succ, List.set_cons_zero]))); refine wpReads_nil ?_; intro u; show wpListH _ _ _ _ [_, _, _] _ _; (repeat (refine wpListH_step rfl (fun K hK => ?_); go_simp; refine hK _ _ ?_ ?_; (focus exact ⟨inferInstance, (by simp [go_sem]), (by simp [go_sem]), (by simp [go_sem]), (by simp [go_sem]), (by simp [go_sem])⟩); clear hK K)); refine NoPanic.normal ?_)
          go_wp2
          go_returns
          exact ⟨by simp [longM], by (repeat' (first | (with_reducible exact Below.refl _ _) | (with_reducible assumption) | (with_reducible refine Below.setCell ?_ ?_ _) | (with_reducible refine Below.alloc ?_ ?_ _) | (with_reducible refine Below.drew ?_) | (with_reducible refine Up.base _ ?_ ?_) | (with_reducible exact LeSize.out) | exact LeSize.out | exact Nat.le_add_right_of_le LeSize.out | exact Nat.le_add_right_of_le (Nat.le_add_right_of_le LeSize.out) | (with_reducible exact Nat.le_refl _) | (simp; done) | (simp; omega)))⟩
      · rw [hho] at t30
        rw [show dueR p o k true = ⟨o.c, o.t, o.fs, o.ft, o.l, o.p, moreM o.e, o.d, o.m, o.tl, o.tu, o.td⟩ by simp [dueR, hho]]
        clear hho
        go_enter Try.func34, Try.ntmps34
        go_wp2_with (first | (refine l_ltick rfl rfl rfl ?_; go_simp) | (go_at_call 50; refine (pmore_any _ _).mono ?_; rintro e w' ⟨rfl, rfl⟩) | (go_at_call 31; refine (Up.run (HG.out _)).mono ?_; rintro e w' ⟨rfl, ug, rfl⟩))
        go_returns
        exact ⟨rfl, by (repeat' (first | (with_reducible exact Below.refl _ _) | (with_reducible assumption) | (with_reducible refine Below.setCell ?_ ?_ _) | (with_reducible refine Below.alloc ?_ ?_ _) | (with_reducible refine Below.drew ?_) | (with_reducible refine Up.base _ ?_ ?_) | (with_reducible exact LeSize.out) | exact LeSize.out | exact Nat.le_add_right_of_le LeSize.out | exact Nat.le_add_right_of_le (Nat.le_add_right_of_le LeSize.out) | (with_reducible exact Nat.le_refl _) | (simp; done) | (simp; omega)))⟩
  · rw [hen] at t26
    rw [show grnR p r k = endR p r by simp [grnR, hen]]
    clear hen
    cases hd : r.d
    all_goals
      rw [hd] at t20
    · rw [show endR p r = asM r 2 1 by simp [endR, hd]]
      clear hd
      go_enter Try.func34, Try.ntmps34
      go_wp2_with (first | (refine l_ltick rfl rfl rfl ?_; go_simp) | (go_at_call 59; refine (Up.run (tas_any _ _ _ _ _ _ _)).mono ?_; rintro e w' ⟨rfl, u, rfl⟩))
      go_returns
      exact ⟨rfl, by (repeat' (first | (with_reducible exact Below.refl _ _) | (with_reducible assumption) | (with_reducible refine Below.setCell ?_ ?_ _) | (with_reducible refine Below.alloc ?_ ?_ _) | (with_reducible refine Below.drew ?_) | (with_reducible refine Up.base _ ?_ ?_) | (with_reducible exact LeSize.out) | exact LeSize.out | exact Nat.le_add_right_of_le LeSize.out | exact Nat.le_add_right_of_le (Nat.le_add_right_of_le LeSize.out) | (with_reducible exact Nat.le_refl _) | (simp; done) | (simp; omega)))⟩
    · rw [show endR p r = ⟨2, 1, 0, 0, 0, 0, 0, false, false, grLim p.max p.top p.step r.tl r.tu r.td r.m, grUp r.tu r.m, grDn r.td r.m⟩ by simp [endR, hd]]
      clear hd
      go_enter Try.func34, Try.ntmps34
      go_wp2_with (first | (refine l_ltick rfl rfl rfl ?_; go_simp) | (refine l_lphs rfl rfl rfl ?_; go_simp) | (go_at_call 59; refine (Up.run (tas_any _ _ _ _ _ _ _)).mono ?_; rintro e w' ⟨rfl, u, rfl⟩) | (go_at_call 60; refine (Up.run (grow_any _ _ _ _ _ _ _ _ _ _ _ _ _ _ _ _ _ _ (by assumption) (by assumption) (by assumption) (by assumption))).mono ?_; rintro e w' ⟨rfl, u, rfl⟩))
      go_returns
      exact ⟨rfl, by (repeat' (first | (with_reducible exact Below.refl _ _) | (with_reducible assumption) | (with_reducible refine Below.setCell ?_ ?_ _) | (with_reducible refine Below.alloc ?_ ?_ _) | (with_reducible refine Below.drew ?_) | (with_reducible refine Up.base _ ?_ ?_) | (with_reducible exact LeSize.out) | exact LeSize.out | exact Nat.le_add_right_of_le LeSize.out | exact Nat.le_add_right_of_le (Nat.le_add_right_of_le LeSize.out) | (with_reducible exact Nat.le_refl _) | (simp; done) | (simp; omega)))⟩
end Go.Proofs.Ytmapdkhcfejkaaa
