/- The contract of package phase's goes. -/
import Derived.Test.YtmapdkhcfejkaaaPhU
import Derived.Deep.DeepCutAuto
namespace Go.Proofs.Ytmapdkhcfejkaaa
open Go.RowKit
set_option linter.unusedVariables false

def shM (s : Int) : Bool := (s == 1) || (s == 2)
set_option maxHeartbeats 1000000 in
theorem shown_any (st tm : Int) (w : World) :
    Calls Try.prog 53 #[.agg #[.int .i64 st, .int .i64 tm]] w fun e w' => e = .returned (.bool (shM st)) ∧ Below w.heap.size w w' := by
  cases n1 : (st == 1)
  all_goals cases n2 : (st == 2)
  all_goals (try (exfalso; simp at n1 n2; omega))
  all_goals
    go_enter Try.func53, Try.ntmps53
    go_wp2
    go_ret
    exact ⟨ret_bool (by simp [shM, n1, n2]), by (repeat' (first | (with_reducible exact Below.refl _ _) | (with_reducible assumption) | (with_reducible refine Below.setCell ?_ ?_ _) | (with_reducible refine Below.alloc ?_ ?_ _) | (with_reducible refine Below.drew ?_) | (with_reducible refine Up.base _ ?_ ?_) | (with_reducible exact LeSize.out) | exact LeSize.out | exact Nat.le_add_right_of_le LeSize.out | exact Nat.le_add_right_of_le (Nat.le_add_right_of_le LeSize.out) | (with_reducible exact Nat.le_refl _) | (simp; done) | (simp; omega)))⟩
def gFoot (p : Phs) (r : Rn) (k : Cu) : Int × Int := if k.cu = true ∧ r.fs = 1 then fcM r.fs r.ft else ftM p.walk p.blinks r.fs r.ft (k.pu && !k.pr)
def gNew (p : Phs) (r : Rn) (k : Cu) : Bool := !shM r.fs && ((gFoot p r k).1 == 1)
/-- A green that goes on. -/
def goR (p : Phs) (r : Rn) (k : Cu) : Rn :=
  ⟨1, moreM r.t, (gFoot p r k).1, (gFoot p r k).2, leftM p.gap r.l k.he, if k.pr = true then moreM r.p else r.p, r.e, r.d && !gNew p r k, r.m && !gNew p r k, r.tl, r.tu, r.td⟩
def longM (p : Phs) (o : Rn) : Bool := decide (limM p.max p.top o.tl ≤ o.p)
def dueM (p : Phs) (o : Rn) (k : Cu) : Bool := k.pr && !o.d && decide (p.min ≤ o.t) && !shM o.fs && (o.l == 0 || longM p o || k.ea)
def RnA (o : Rn) : Array Value := #[.int .i64 o.c, .int .i64 o.t, .int .i64 o.fs, .int .i64 o.ft, .int .i64 o.l, .int .i64 o.p, .int .i64 o.e, .bool o.d, .bool o.m, .int .i64 o.tl, .int .i64 o.tu, .int .i64 o.td]
/-- The tick, the result's variable, and the run that is made. -/
def GoSt (w wx : World) (T : Array Value) (o : Rn) : Prop :=
  IsBlk wx w.heap.size T 74 ∧ IsBlk wx (w.heap.size + 1) (RnA ⟨0, 0, 0, 0, 0, 0, 0, false, false, 0, 0, 0⟩) 41 ∧ IsBlk wx (w.heap.size + 1 + 1) (RnA o) 41 ∧ LeSize (w.heap.size + 1 + 1 + 1) wx ∧ LeSize w.heap.size wx ∧ Below w.heap.size w wx
theorem frz_one {w : World} {b i : Nat} {C : Array Value} {t : TypeId} [h : IsBlk w b C t] : w.frozen? ⟨b, i, none⟩ = false := IsBlk.frozen i
attribute [local go_sem] load_one frz_one
set_option maxHeartbeats 8000000 in
set_option maxRecDepth 100000 in
theorem goes_any (T : Array Value) (p : Phs) (r : Rn) (k : Cu) [hT : IsTick T p r k] (w : World) :
    Calls Try.prog 31 #[.agg T] w
      fun e w' => e = .returned (.tuple #[.agg #[.int .i64 (goR p r k).c, .int .i64 (goR p r k).t, .int .i64 (goR p r k).fs, .int .i64 (goR p r k).ft, .int .i64 (goR p r k).l, .int .i64 (goR p r k).p, .int .i64 (goR p r k).e, .bool (goR p r k).d, .bool (goR p r k).m, .int .i64 (goR p r k).tl, .int .i64 (goR p r k).tu, .int .i64 (goR p r k).td], .bool (dueM p (goR p r k) k)]) ∧ Below w.heap.size w w' := by
  have hs : T.size = 33 := by rw [hT.out]; rfl
  have t1 : T[1]'(by omega) = .int .i64 p.min := get_of (by rw [hT.out]; rfl)
  have t2 : T[2]'(by omega) = .int .i64 p.gap := get_of (by rw [hT.out]; rfl)
  have t14 : T[14]'(by omega) = .int .i64 r.t := get_of (by rw [hT.out]; rfl)
  have t15 : T[15]'(by omega) = .int .i64 r.fs := get_of (by rw [hT.out]; rfl)
  have t16 : T[16]'(by omega) = .int .i64 r.ft := get_of (by rw [hT.out]; rfl)
  have t17 : T[17]'(by omega) = .int .i64 r.l := get_of (by rw [hT.out]; rfl)
  have t18 : T[18]'(by omega) = .int .i64 r.p := get_of (by rw [hT.out]; rfl)
  have t27 : T[27]'(by omega) = .bool k.he := get_of (by rw [hT.out]; rfl)
  have t28 : T[28]'(by omega) = .bool k.pu := get_of (by rw [hT.out]; rfl)
  have t29 : T[29]'(by omega) = .bool k.pr := get_of (by rw [hT.out]; rfl)
  have t31 : T[31]'(by omega) = .bool k.ea := get_of (by rw [hT.out]; rfl)
  have t32 : T[32]'(by omega) = .bool k.cu := get_of (by rw [hT.out]; rfl)
  go_enter Try.func31, Try.ntmps31
  go_upto_region 3 with (first | (refine l_lrun rfl rfl rfl ?_; go_simp) | (go_at_call 50; refine (pmore_any _ _).mono ?_; rintro e w' ⟨rfl, rfl⟩))
  go_cut [23] (fun s23 wx => s23 = .bool (k.cu && (r.fs == 1)) ∧ GoSt w wx T ⟨1, moreM r.t, r.fs, r.ft, r.l, r.p, r.e, r.d, r.m, r.tl, r.tu, r.td⟩)
  case first =>
    cases hcu : k.cu
    all_goals
      rw [hcu] at t32
      have HC := Lib.hid hcu
      clear hcu
      go_wp2
      go_meet
      refine ⟨by rw [HC.out]; simp, ?_⟩
      unfold GoSt; simp only [RnA]
      exact ⟨inferInstance, inferInstance, inferInstance, inferInstance, inferInstance, by (repeat' (first | (with_reducible exact Below.refl _ _) | (with_reducible assumption) | (with_reducible refine Below.setCell ?_ ?_ _) | (with_reducible refine Below.alloc ?_ ?_ _) | (with_reducible refine Below.drew ?_) | (with_reducible refine Up.base _ ?_ ?_) | (with_reducible exact LeSize.out) | exact LeSize.out | exact Nat.le_add_right_of_le LeSize.out | exact Nat.le_add_right_of_le (Nat.le_add_right_of_le LeSize.out) | (with_reducible exact Nat.le_refl _) | (simp; done) | (simp; omega)))⟩
  case rest =>
    obtain ⟨rfl, i0, i1, i2, i3, i4, hbel⟩ := hcut
    simp only [RnA] at i1 i2
    go_upto_if 23 with fail
    go_cut [] (fun wx => GoSt w wx T ⟨1, moreM r.t, (gFoot p r k).1, (gFoot p r k).2, r.l, r.p, r.e, r.d, r.m, r.tl, r.tu, r.td⟩)
    case first =>
      cases hcc : (k.cu && (r.fs == 1))
      · have HF := Lib.hid (show gFoot p r k = ftM p.walk p.blinks r.fs r.ft (k.pu && !k.pr) from if_neg (by simp at hcc; simpa using hcc))
        cases hpu : k.pu
        all_goals
          rw [hpu] at t28
          have HC := Lib.hid hpu
          clear hpu
          go_wp2_with (first | (refine l_lrun rfl rfl rfl ?_; go_simp) | (refine l_lphs rfl rfl rfl ?_; go_simp) | (refine l_lfoot rfl rfl rfl ?_; go_simp) | (go_at_call 50; refine (pmore_any _ _).mono ?_; rintro e w' ⟨rfl, rfl⟩) | (go_at_call 52; refine (Up.run (fstep_any _ _ _ _ _ _ _ _ _ _ _ _ _ _ _ _ _)).mono ?_; rintro e w' ⟨rfl, u, rfl⟩) | (go_at_call 51; refine (Up.run (fcut_any _ _ _)).mono ?_; rintro e w' ⟨rfl, u, rfl⟩) | (go_at_call 53; refine (Up.run (shown_any _ _ _)).mono ?_; rintro e w' ⟨rfl, u, rfl⟩) | (go_at_call 54; refine (Up.run (left_any _ _ _ _ _ _ _ _ _ _ _ _ _ _ _ _)).mono ?_; rintro e w' ⟨rfl, u, rfl⟩))
          go_meet
          rw [HF.out, HC.out]
          unfold GoSt; simp only [RnA]
          exact ⟨inferInstance, inferInstance, inferInstance, inferInstance, inferInstance, by (repeat' (first | (with_reducible exact Below.refl _ _) | (with_reducible assumption) | (with_reducible refine Below.setCell ?_ ?_ _) | (with_reducible refine Below.alloc ?_ ?_ _) | (with_reducible refine Below.drew ?_) | (with_reducible refine Up.base _ ?_ ?_) | (with_reducible exact LeSize.out) | exact LeSize.out | exact Nat.le_add_right_of_le LeSize.out | exact Nat.le_add_right_of_le (Nat.le_add_right_of_le LeSize.out) | (with_reducible exact Nat.le_refl _) | (simp; done) | (simp; omega)))⟩
      · have HF := Lib.hid (show gFoot p r k = fcM r.fs r.ft from if_pos (by simp at hcc; simpa using hcc))
        go_wp2_with (first | (refine l_lrun rfl rfl rfl ?_; go_simp) | (refine l_lphs rfl rfl rfl ?_; go_simp) | (refine l_lfoot rfl rfl rfl ?_; go_simp) | (go_at_call 50; refine (pmore_any _ _).mono ?_; rintro e w' ⟨rfl, rfl⟩) | (go_at_call 52; refine (Up.run (fstep_any _ _ _ _ _ _ _ _ _ _ _ _ _ _ _ _ _)).mono ?_; rintro e w' ⟨rfl, u, rfl⟩) | (go_at_call 51; refine (Up.run (fcut_any _ _ _)).mono ?_; rintro e w' ⟨rfl, u, rfl⟩) | (go_at_call 53; refine (Up.run (shown_any _ _ _)).mono ?_; rintro e w' ⟨rfl, u, rfl⟩) | (go_at_call 54; refine (Up.run (left_any _ _ _ _ _ _ _ _ _ _ _ _ _ _ _ _)).mono ?_; rintro e w' ⟨rfl, u, rfl⟩))
        go_meet
        rw [HF.out]
        unfold GoSt; simp only [RnA]
        exact ⟨inferInstance, inferInstance, inferInstance, inferInstance, inferInstance, by (repeat' (first | (with_reducible exact Below.refl _ _) | (with_reducible assumption) | (with_reducible refine Below.setCell ?_ ?_ _) | (with_reducible refine Below.alloc ?_ ?_ _) | (with_reducible refine Below.drew ?_) | (with_reducible refine Up.base _ ?_ ?_) | (with_reducible exact LeSize.out) | exact LeSize.out | exact Nat.le_add_right_of_le LeSize.out | exact Nat.le_add_right_of_le (Nat.le_add_right_of_le LeSize.out) | (with_reducible exact Nat.le_refl _) | (simp; done) | (simp; omega)))⟩
    case rest =>
      obtain ⟨i0, i1, i2, i3, i4, hbel⟩ := hcut
      simp only [RnA] at i1 i2
      go_upto_region 6 with fail
      go_cut [55] (fun s55 wx => s55 = .bool (gNew p r k) ∧ GoSt w wx T ⟨1, moreM r.t, (gFoot p r k).1, (gFoot p r k).2, r.l, r.p, r.e, r.d, r.m, r.tl, r.tu, r.td⟩)
      case first =>
        cases hsh : shM r.fs
        all_goals
          go_wp2_with (first | (refine l_lrun rfl rfl rfl ?_; go_simp) | (refine l_lphs rfl rfl rfl ?_; go_simp) | (refine l_lfoot rfl rfl rfl ?_; go_simp) | (go_at_call 50; refine (pmore_any _ _).mono ?_; rintro e w' ⟨rfl, rfl⟩) | (go_at_call 52; refine (Up.run (fstep_any _ _ _ _ _ _ _ _ _ _ _ _ _ _ _ _ _)).mono ?_; rintro e w' ⟨rfl, u, rfl⟩) | (go_at_call 51; refine (Up.run (fcut_any _ _ _)).mono ?_; rintro e w' ⟨rfl, u, rfl⟩) | (go_at_call 53; refine (Up.run (shown_any _ _ _)).mono ?_; rintro e w' ⟨rfl, u, rfl⟩) | (go_at_call 54; refine (Up.run (left_any _ _ _ _ _ _ _ _ _ _ _ _ _ _ _ _)).mono ?_; rintro e w' ⟨rfl, u, rfl⟩))
          go_meet
          refine ⟨by rw [gNew, hsh]; simp, ?_⟩
          unfold GoSt; simp only [RnA]
          exact ⟨inferInstance, inferInstance, inferInstance, inferInstance, inferInstance, by (repeat' (first | (with_reducible exact Below.refl _ _) | (with_reducible assumption) | (with_reducible refine Below.setCell ?_ ?_ _) | (with_reducible refine Below.alloc ?_ ?_ _) | (with_reducible refine Below.drew ?_) | (with_reducible refine Up.base _ ?_ ?_) | (with_reducible exact LeSize.out) | exact LeSize.out | exact Nat.le_add_right_of_le LeSize.out | exact Nat.le_add_right_of_le (Nat.le_add_right_of_le LeSize.out) | (with_reducible exact Nat.le_refl _) | (simp; done) | (simp; omega)))⟩
      case rest =>
        obtain ⟨rfl, i0, i1, i2, i3, i4, hbel⟩ := hcut
        simp only [RnA] at i1 i2
        go_upto_if 55 with fail
        go_cut [] (fun wx => GoSt w wx T ⟨1, moreM r.t, (gFoot p r k).1, (gFoot p r k).2, r.l, r.p, r.e, r.d && !gNew p r k, r.m && !gNew p r k, r.tl, r.tu, r.td⟩)
        case first =>
          cases hn : gNew p r k
          all_goals
            have HN := Lib.hid hn
            clear hn
            go_wp2
            go_meet
            simp only [HN.out, Bool.not_true, Bool.not_false, Bool.and_true, Bool.and_false]
            unfold GoSt; simp only [RnA]
            exact ⟨inferInstance, inferInstance, inferInstance, inferInstance, inferInstance, by (repeat' (first | (with_reducible exact Below.refl _ _) | (with_reducible assumption) | (with_reducible refine Below.setCell ?_ ?_ _) | (with_reducible refine Below.alloc ?_ ?_ _) | (with_reducible refine Below.drew ?_) | (with_reducible refine Up.base _ ?_ ?_) | (with_reducible exact LeSize.out) | exact LeSize.out | exact Nat.le_add_right_of_le LeSize.out | exact Nat.le_add_right_of_le (Nat.le_add_right_of_le LeSize.out) | (with_reducible exact Nat.le_refl _) | (simp; done) | (simp; omega)))⟩
        case rest =>
          obtain ⟨i0, i1, i2, i3, i4, hbel⟩ := hcut
          simp only [RnA] at i1 i2
          go_upto_if 70 with (first | (refine l_lrun rfl rfl rfl ?_; go_simp) | (refine l_lphs rfl rfl rfl ?_; go_simp) | (refine l_lfoot rfl rfl rfl ?_; go_simp) | (go_at_call 50; refine (pmore_any _ _).mono ?_; rintro e w' ⟨rfl, rfl⟩) | (go_at_call 52; refine (Up.run (fstep_any _ _ _ _ _ _ _ _ _ _ _ _ _ _ _ _ _)).mono ?_; rintro e w' ⟨rfl, u, rfl⟩) | (go_at_call 51; refine (Up.run (fcut_any _ _ _)).mono ?_; rintro e w' ⟨rfl, u, rfl⟩) | (go_at_call 53; refine (Up.run (shown_any _ _ _)).mono ?_; rintro e w' ⟨rfl, u, rfl⟩) | (go_at_call 54; refine (Up.run (left_any _ _ _ _ _ _ _ _ _ _ _ _ _ _ _ _)).mono ?_; rintro e w' ⟨rfl, u, rfl⟩))
          go_cut [] (fun wx => GoSt w wx T (goR p r k))
          case first =>
            cases hpr : k.pr
            all_goals
              rw [hpr] at t29
              have HP := Lib.hid hpr
              clear hpr
              go_wp2_with (first | (refine l_lrun rfl rfl rfl ?_; go_simp) | (refine l_lphs rfl rfl rfl ?_; go_simp) | (refine l_lfoot rfl rfl rfl ?_; go_simp) | (go_at_call 50; refine (pmore_any _ _).mono ?_; rintro e w' ⟨rfl, rfl⟩) | (go_at_call 52; refine (Up.run (fstep_any _ _ _ _ _ _ _ _ _ _ _ _ _ _ _ _ _)).mono ?_; rintro e w' ⟨rfl, u, rfl⟩) | (go_at_call 51; refine (Up.run (fcut_any _ _ _)).mono ?_; rintro e w' ⟨rfl, u, rfl⟩) | (go_at_call 53; refine (Up.run (shown_any _ _ _)).mono ?_; rintro e w' ⟨rfl, u, rfl⟩) | (go_at_call 54; refine (Up.run (left_any _ _ _ _ _ _ _ _ _ _ _ _ _ _ _ _)).mono ?_; rintro e w' ⟨rfl, u, rfl⟩))
              go_meet
              unfold goR
              simp only [HP.out, if_true, if_false, Bool.false_eq_true]
              unfold GoSt; simp only [RnA]
              exact ⟨inferInstance, inferInstance, inferInstance, inferInstance, inferInstance, by (repeat' (first | (with_reducible exact Below.refl _ _) | (with_reducible assumption) | (with_reducible refine Below.setCell ?_ ?_ _) | (with_reducible refine Below.alloc ?_ ?_ _) | (with_reducible refine Below.drew ?_) | (with_reducible refine Up.base _ ?_ ?_) | (with_reducible exact LeSize.out) | exact LeSize.out | exact Nat.le_add_right_of_le LeSize.out | exact Nat.le_add_right_of_le (Nat.le_add_right_of_le LeSize.out) | (with_reducible exact Nat.le_refl _) | (simp; done) | (simp; omega)))⟩
          case rest =>
            obtain ⟨i0, i1, i2, i3, i4, hbel⟩ := hcut
            simp only [RnA] at i1 i2
            obtain ⟨o, ho⟩ : ∃ o, goR p r k = o := ⟨_, rfl⟩
            have HO := Lib.hid ho
            rw [ho] at i2
            clear ho
            go_wp2
            (refine wp_region_up (by kernel_rfl) (by kernel_rfl) ?_; (repeat (first | (go_big_quiet_want; refine q_lphs rfl rfl ?_; simp only [Act.put, List.setIfInBounds_toArray, List.set_cons_succ, List.set_cons_zero]; go_big_quiet_on) | go_big_quiet_step ((first | (go_at_call 55; exact Up.calls (limit_any _ _ _ _ _ _ _ _ _ _ _ _ _ _ _ _ _)) | fail)))); refine wpQuiet_nil ?_; rintro _ ⟨u, rfl⟩)
            go_wp2
            (refine wp_region_noPanic ?_; refine wp_region_up_held2 (fun w' => IsBlk w' w.heap.size T 74 ∧ IsBlk w' (w.heap.size + 1 + 1) #[.int .i64 o.c, .int .i64 o.t, .int .i64 o.fs, .int .i64 o.ft, .int .i64 o.l, .int .i64 o.p, .int .i64 o.e, .bool o.d, .bool o.m, .int .i64 o.tl, .int .i64 o.tu, .int .i64 o.td] 41) [0] [1, 2, 3, 4, 5, 6, 7, 8, 9, 10, 11, 12, 13, 14, 15, 16, 17, 18, 19, 20, 21, 22, 23, 24, 25, 26, 27, 28, 29, 30] [31, 32, 33, 34, 35] [36, 37] (by kernel_rfl) (by kernel_rfl) (fun _ _ _ _ _ h => (h : False).elim) (fun u => ⟨inferInstance, inferInstance⟩) ?_; simp only [pickO, List.filterMap_cons, List.filterMap_nil, List.getElem?_cons_succ, List.getElem?_cons_zero])
            cases e1 : k.pr
            · have HD : Hid (dueM p o k = false) := Lib.hid (by simp [dueM, longM, e1])
              rw [e1] at t29
              clear e1
              (show wpReads _ _ _ _ [_] _; (iterate 1 (first | (refine ⟨_, y_lphs rfl rfl rfl (fun _ h => h.1), ?_⟩; simp only [Act.put, List.setIfInBounds_toArray, List.set_cons_succ, List.set_cons_zero]) | (refine ⟨_, y_lphs rfl rfl rfl (fun _ h => h.2), ?_⟩; simp only [Act.put, List.setIfInBounds_toArray, List.set_cons_succ, List.set_cons_zero]) | (apply Exists.intro; refine ⟨Or.inl ⟨rfl, fun w hS => ?_⟩, ?_⟩; (focus (obtain ⟨hS0, hS1⟩ := hS; first | (simp [go_sem, *]; rfl) | (simp [go_sem]; rfl))); simp only [Act.put, List.setIfInBounds_toArray, List.set_cons_succ, List.set_cons_zero]) | (apply Exists.intro; refine ⟨Or.inr ⟨rfl, rfl⟩, ?_⟩; simp only [Act.put, List.setIfInBounds_toArray, List.set_cons_succ, List.set_cons_zero]))); refine wpReads_nil ?_; show wpQuiet _ _ _ _ [_, _, _, _, _, _, _, _, _, _, _, _, _, _, _, _, _, _, _, _, _, _, _, _, _, _, _, _, _, _] _; (repeat (first | (go_big_quiet_want; refine q_lphs rfl rfl ?_; simp only [Act.put, List.setIfInBounds_toArray, List.set_cons_succ, List.set_cons_zero]; go_big_quiet_on) | go_big_quiet_step ((first | (go_at_call 53; exact Up.calls (shown_any _ _ _)) | fail)))); refine wpQuiet_nil ?_; show wpReads _ _ _ _ [_, _, _, _, _] _; (iterate 5 (first | (refine ⟨_, y_lphs rfl rfl rfl (fun _ h => h.1), ?_⟩; simp only [Act.put, List.setIfInBounds_toArray, List.set_cons_succ, List.set_cons_zero]) | (refine ⟨_, y_lphs rfl rfl rfl (fun _ h => h.2), ?_⟩; simp only [Act.put, List.setIfInBounds_toArray, List.set_cons_succ, List.set_cons_zero]) | (apply Exists.intro; refine ⟨Or.inl ⟨rfl, fun w hS => ?_⟩, ?_⟩; (focus (obtain ⟨hS0, hS1⟩ := hS; first | (simp [go_sem, *]; rfl) | (simp [go_sem]; rfl))); simp only [Act.put, List.setIfInBounds_toArray, List.set_cons_succ, List.set_cons_zero]) | (apply Exists.intro; refine ⟨Or.inr ⟨rfl, rfl⟩, ?_⟩; simp only [Act.put, List.setIfInBounds_toArray, List.set_cons_succ, List.set_cons_zero]))); refine wpReads_nil ?_; intro u; show wpListH _ _ _ _ [_, _] _ _; (repeat (refine wpListH_step rfl (fun K hK => ?_); go_simp; refine hK _ _ ?_ ?_; (focus exact ⟨inferInstance, inferInstance⟩); clear hK K)); refine NoPanic.normal ?_)
              go_wp2
              go_returns
              exact ⟨by rw [HO.out, HD.out], by (repeat' (first | (with_reducible exact Below.refl _ _) | (with_reducible assumption) | (with_reducible refine Below.setCell ?_ ?_ _) | (with_reducible refine Below.alloc ?_ ?_ _) | (with_reducible refine Below.drew ?_) | (with_reducible refine Up.base _ ?_ ?_) | (with_reducible exact LeSize.out) | exact LeSize.out | exact Nat.le_add_right_of_le LeSize.out | exact Nat.le_add_right_of_le (Nat.le_add_right_of_le LeSize.out) | (with_reducible exact Nat.le_refl _) | (simp; done) | (simp; omega)))⟩
            cases e2 : o.d
            rotate_left
            · have HD : Hid (dueM p o k = false) := Lib.hid (by simp [dueM, longM, e1, e2])
              rw [e1] at t29
              rw [e2] at i2
              clear e1
              (show wpReads _ _ _ _ [_] _; (iterate 1 (first | (refine ⟨_, y_lphs rfl rfl rfl (fun _ h => h.1), ?_⟩; simp only [Act.put, List.setIfInBounds_toArray, List.set_cons_succ, List.set_cons_zero]) | (refine ⟨_, y_lphs rfl rfl rfl (fun _ h => h.2), ?_⟩; simp only [Act.put, List.setIfInBounds_toArray, List.set_cons_succ, List.set_cons_zero]) | (apply Exists.intro; refine ⟨Or.inl ⟨rfl, fun w hS => ?_⟩, ?_⟩; (focus (obtain ⟨hS0, hS1⟩ := hS; first | (simp [go_sem, *]; rfl) | (simp [go_sem]; rfl))); simp only [Act.put, List.setIfInBounds_toArray, List.set_cons_succ, List.set_cons_zero]) | (apply Exists.intro; refine ⟨Or.inr ⟨rfl, rfl⟩, ?_⟩; simp only [Act.put, List.setIfInBounds_toArray, List.set_cons_succ, List.set_cons_zero]))); refine wpReads_nil ?_; show wpQuiet _ _ _ _ [_, _, _, _, _, _, _, _, _, _, _, _, _, _, _, _, _, _, _, _, _, _, _, _, _, _, _, _, _, _] _; (repeat (first | (go_big_quiet_want; refine q_lphs rfl rfl ?_; simp only [Act.put, List.setIfInBounds_toArray, List.set_cons_succ, List.set_cons_zero]; go_big_quiet_on) | go_big_quiet_step ((first | (go_at_call 53; exact Up.calls (shown_any _ _ _)) | fail)))); refine wpQuiet_nil ?_; show wpReads _ _ _ _ [_, _, _, _, _] _; (iterate 5 (first | (refine ⟨_, y_lphs rfl rfl rfl (fun _ h => h.1), ?_⟩; simp only [Act.put, List.setIfInBounds_toArray, List.set_cons_succ, List.set_cons_zero]) | (refine ⟨_, y_lphs rfl rfl rfl (fun _ h => h.2), ?_⟩; simp only [Act.put, List.setIfInBounds_toArray, List.set_cons_succ, List.set_cons_zero]) | (apply Exists.intro; refine ⟨Or.inl ⟨rfl, fun w hS => ?_⟩, ?_⟩; (focus (obtain ⟨hS0, hS1⟩ := hS; first | (simp [go_sem, *]; rfl) | (simp [go_sem]; rfl))); simp only [Act.put, List.setIfInBounds_toArray, List.set_cons_succ, List.set_cons_zero]) | (apply Exists.intro; refine ⟨Or.inr ⟨rfl, rfl⟩, ?_⟩; simp only [Act.put, List.setIfInBounds_toArray, List.set_cons_succ, List.set_cons_zero]))); refine wpReads_nil ?_; intro u; show wpListH _ _ _ _ [_, _] _ _; (repeat (refine wpListH_step rfl (fun K hK => ?_); go_simp; refine hK _ _ ?_ ?_; (focus exact ⟨inferInstance, inferInstance⟩); clear hK K)); refine NoPanic.normal ?_)
              go_wp2
              go_returns
              exact ⟨by rw [HO.out, HD.out]; try rw [e2], by (repeat' (first | (with_reducible exact Below.refl _ _) | (with_reducible assumption) | (with_reducible refine Below.setCell ?_ ?_ _) | (with_reducible refine Below.alloc ?_ ?_ _) | (with_reducible refine Below.drew ?_) | (with_reducible refine Up.base _ ?_ ?_) | (with_reducible exact LeSize.out) | exact LeSize.out | exact Nat.le_add_right_of_le LeSize.out | exact Nat.le_add_right_of_le (Nat.le_add_right_of_le LeSize.out) | (with_reducible exact Nat.le_refl _) | (simp; done) | (simp; omega)))⟩
            cases e3 : decide (p.min ≤ o.t)
            · have HD : Hid (dueM p o k = false) := Lib.hid (by simp [dueM, longM, e1, e2, e3])
              rw [e1] at t29
              rw [e2] at i2
              clear e1
              (show wpReads _ _ _ _ [_] _; (iterate 1 (first | (refine ⟨_, y_lphs rfl rfl rfl (fun _ h => h.1), ?_⟩; simp only [Act.put, List.setIfInBounds_toArray, List.set_cons_succ, List.set_cons_zero]) | (refine ⟨_, y_lphs rfl rfl rfl (fun _ h => h.2), ?_⟩; simp only [Act.put, List.setIfInBounds_toArray, List.set_cons_succ, List.set_cons_zero]) | (apply Exists.intro; refine ⟨Or.inl ⟨rfl, fun w hS => ?_⟩, ?_⟩; (focus (obtain ⟨hS0, hS1⟩ := hS; first | (simp [go_sem, *]; rfl) | (simp [go_sem]; rfl))); simp only [Act.put, List.setIfInBounds_toArray, List.set_cons_succ, List.set_cons_zero]) | (apply Exists.intro; refine ⟨Or.inr ⟨rfl, rfl⟩, ?_⟩; simp only [Act.put, List.setIfInBounds_toArray, List.set_cons_succ, List.set_cons_zero]))); refine wpReads_nil ?_; show wpQuiet _ _ _ _ [_, _, _, _, _, _, _, _, _, _, _, _, _, _, _, _, _, _, _, _, _, _, _, _, _, _, _, _, _, _] _; (repeat (first | (go_big_quiet_want; refine q_lphs rfl rfl ?_; simp only [Act.put, List.setIfInBounds_toArray, List.set_cons_succ, List.set_cons_zero]; go_big_quiet_on) | go_big_quiet_step ((first | (go_at_call 53; exact Up.calls (shown_any _ _ _)) | fail)))); refine wpQuiet_nil ?_; show wpReads _ _ _ _ [_, _, _, _, _] _; (iterate 5 (first | (refine ⟨_, y_lphs rfl rfl rfl (fun _ h => h.1), ?_⟩; simp only [Act.put, List.setIfInBounds_toArray, List.set_cons_succ, List.set_cons_zero]) | (refine ⟨_, y_lphs rfl rfl rfl (fun _ h => h.2), ?_⟩; simp only [Act.put, List.setIfInBounds_toArray, List.set_cons_succ, List.set_cons_zero]) | (apply Exists.intro; refine ⟨Or.inl ⟨rfl, fun w hS => ?_⟩, ?_⟩; (focus (obtain ⟨hS0, hS1⟩ := hS; first | (simp [go_sem, *]; rfl) | (simp [go_sem]; rfl))); simp only [Act.put, List.setIfInBounds_toArray, List.set_cons_succ, List.set_cons_zero]) | (apply Exists.intro; refine ⟨Or.inr ⟨rfl, rfl⟩, ?_⟩; simp only [Act.put, List.setIfInBounds_toArray, List.set_cons_succ, List.set_cons_zero]))); refine wpReads_nil ?_; intro u; show wpListH _ _ _ _ [_, _] _ _; (repeat (refine wpListH_step rfl (fun K hK => ?_); go_simp; refine hK _ _ ?_ ?_; (focus exact ⟨inferInstance, inferInstance⟩); clear hK K)); refine NoPanic.normal ?_)
              go_wp2
              go_returns
              exact ⟨by rw [HO.out, HD.out]; try rw [e2], by (repeat' (first | (with_reducible exact Below.refl _ _) | (with_reducible assumption) | (with_reducible refine Below.setCell ?_ ?_ _) | (with_reducible refine Below.alloc ?_ ?_ _) | (with_reducible refine Below.drew ?_) | (with_reducible refine Up.base _ ?_ ?_) | (with_reducible exact LeSize.out) | exact LeSize.out | exact Nat.le_add_right_of_le LeSize.out | exact Nat.le_add_right_of_le (Nat.le_add_right_of_le LeSize.out) | (with_reducible exact Nat.le_refl _) | (simp; done) | (simp; omega)))⟩
            cases e4 : shM o.fs
            rotate_left
            · have HD : Hid (dueM p o k = false) := Lib.hid (by simp [dueM, longM, e1, e2, e3, e4])
              rw [e1] at t29
              rw [e2] at i2
              clear e1
              (show wpReads _ _ _ _ [_] _; (iterate 1 (first | (refine ⟨_, y_lphs rfl rfl rfl (fun _ h => h.1), ?_⟩; simp only [Act.put, List.setIfInBounds_toArray, List.set_cons_succ, List.set_cons_zero]) | (refine ⟨_, y_lphs rfl rfl rfl (fun _ h => h.2), ?_⟩; simp only [Act.put, List.setIfInBounds_toArray, List.set_cons_succ, List.set_cons_zero]) | (apply Exists.intro; refine ⟨Or.inl ⟨rfl, fun w hS => ?_⟩, ?_⟩; (focus (obtain ⟨hS0, hS1⟩ := hS; first | (simp [go_sem, *]; rfl) | (simp [go_sem]; rfl))); simp only [Act.put, List.setIfInBounds_toArray, List.set_cons_succ, List.set_cons_zero]) | (apply Exists.intro; refine ⟨Or.inr ⟨rfl, rfl⟩, ?_⟩; simp only [Act.put, List.setIfInBounds_toArray, List.set_cons_succ, List.set_cons_zero]))); refine wpReads_nil ?_; show wpQuiet _ _ _ _ [_, _, _, _, _, _, _, _, _, _, _, _, _, _, _, _, _, _, _, _, _, _, _, _, _, _, _, _, _, _] _; (repeat (first | (go_big_quiet_want; refine q_lphs rfl rfl ?_; simp only [Act.put, List.setIfInBounds_toArray, List.set_cons_succ, List.set_cons_zero]; go_big_quiet_on) | go_big_quiet_step ((first | (go_at_call 53; exact Up.calls (shown_any _ _ _)) | fail)))); refine wpQuiet_nil ?_; show wpReads _ _ _ _ [_, _, _, _, _] _; (iterate 5 (first | (refine ⟨_, y_lphs rfl rfl rfl (fun _ h => h.1), ?_⟩; simp only [Act.put, List.setIfInBounds_toArray, List.set_cons_succ, List.set_cons_zero]) | (refine ⟨_, y_lphs rfl rfl rfl (fun _ h => h.2), ?_⟩; simp only [Act.put, List.setIfInBounds_toArray, List.set_cons_succ, List.set_cons_zero]) | (apply Exists.intro; refine ⟨Or.inl ⟨rfl, fun w hS => ?_⟩, ?_⟩; (focus (obtain ⟨hS0, hS1⟩ := hS; first | (simp [go_sem, *]; rfl) | (simp [go_sem]; rfl))); simp only [Act.put, List.setIfInBounds_toArray, List.set_cons_succ, List.set_cons_zero]) | (apply Exists.intro; refine ⟨Or.inr ⟨rfl, rfl⟩, ?_⟩; simp only [Act.put, List.setIfInBounds_toArray, List.set_cons_succ, List.set_cons_zero]))); refine wpReads_nil ?_; intro u; show wpListH _ _ _ _ [_, _] _ _; (repeat (refine wpListH_step rfl (fun K hK => ?_); go_simp; refine hK _ _ ?_ ?_; (focus exact ⟨inferInstance, inferInstance⟩); clear hK K)); refine NoPanic.normal ?_)
              go_wp2
              go_returns
              exact ⟨by rw [HO.out, HD.out]; try rw [e2], by (repeat' (first | (with_reducible exact Below.refl _ _) | (with_reducible assumption) | (with_reducible refine Below.setCell ?_ ?_ _) | (with_reducible refine Below.alloc ?_ ?_ _) | (with_reducible refine Below.drew ?_) | (with_reducible refine Up.base _ ?_ ?_) | (with_reducible exact LeSize.out) | exact LeSize.out | exact Nat.le_add_right_of_le LeSize.out | exact Nat.le_add_right_of_le (Nat.le_add_right_of_le LeSize.out) | (with_reducible exact Nat.le_refl _) | (simp; done) | (simp; omega)))⟩
            cases e5 : (o.l == 0)
            rotate_left
            · have HD : Hid (dueM p o k = true) := Lib.hid (by simp [dueM, longM, e1, e2, e3, e4, e5])
              rw [e1] at t29
              rw [e2] at i2
              clear e1
              (show wpReads _ _ _ _ [_] _; (iterate 1 (first | (refine ⟨_, y_lphs rfl rfl rfl (fun _ h => h.1), ?_⟩; simp only [Act.put, List.setIfInBounds_toArray, List.set_cons_succ, List.set_cons_zero]) | (refine ⟨_, y_lphs rfl rfl rfl (fun _ h => h.2), ?_⟩; simp only [Act.put, List.setIfInBounds_toArray, List.set_cons_succ, List.set_cons_zero]) | (apply Exists.intro; refine ⟨Or.inl ⟨rfl, fun w hS => ?_⟩, ?_⟩; (focus (obtain ⟨hS0, hS1⟩ := hS; first | (simp [go_sem, *]; rfl) | (simp [go_sem]; rfl))); simp only [Act.put, List.setIfInBounds_toArray, List.set_cons_succ, List.set_cons_zero]) | (apply Exists.intro; refine ⟨Or.inr ⟨rfl, rfl⟩, ?_⟩; simp only [Act.put, List.setIfInBounds_toArray, List.set_cons_succ, List.set_cons_zero]))); refine wpReads_nil ?_; show wpQuiet _ _ _ _ [_, _, _, _, _, _, _, _, _, _, _, _, _, _, _, _, _, _, _, _, _, _, _, _, _, _, _, _, _, _] _; (repeat (first | (go_big_quiet_want; refine q_lphs rfl rfl ?_; simp only [Act.put, List.setIfInBounds_toArray, List.set_cons_succ, List.set_cons_zero]; go_big_quiet_on) | go_big_quiet_step ((first | (go_at_call 53; exact Up.calls (shown_any _ _ _)) | fail)))); refine wpQuiet_nil ?_; show wpReads _ _ _ _ [_, _, _, _, _] _; (iterate 5 (first | (refine ⟨_, y_lphs rfl rfl rfl (fun _ h => h.1), ?_⟩; simp only [Act.put, List.setIfInBounds_toArray, List.set_cons_succ, List.set_cons_zero]) | (refine ⟨_, y_lphs rfl rfl rfl (fun _ h => h.2), ?_⟩; simp only [Act.put, List.setIfInBounds_toArray, List.set_cons_succ, List.set_cons_zero]) | (apply Exists.intro; refine ⟨Or.inl ⟨rfl, fun w hS => ?_⟩, ?_⟩; (focus (obtain ⟨hS0, hS1⟩ := hS; first | (simp [go_sem, *]; rfl) | (simp [go_sem]; rfl))); simp only [Act.put, List.setIfInBounds_toArray, List.set_cons_succ, List.set_cons_zero]) | (apply Exists.intro; refine ⟨Or.inr ⟨rfl, rfl⟩, ?_⟩; simp only [Act.put, List.setIfInBounds_toArray, List.set_cons_succ, List.set_cons_zero]))); refine wpReads_nil ?_; intro u; show wpListH _ _ _ _ [_, _] _ _; (repeat (refine wpListH_step rfl (fun K hK => ?_); go_simp; refine hK _ _ ?_ ?_; (focus exact ⟨inferInstance, inferInstance⟩); clear hK K)); refine NoPanic.normal ?_)
              go_wp2
              go_returns
              exact ⟨by rw [HO.out, HD.out]; try rw [e2], by (repeat' (first | (with_reducible exact Below.refl _ _) | (with_reducible assumption) | (with_reducible refine Below.setCell ?_ ?_ _) | (with_reducible refine Below.alloc ?_ ?_ _) | (with_reducible refine Below.drew ?_) | (with_reducible refine Up.base _ ?_ ?_) | (with_reducible exact LeSize.out) | exact LeSize.out | exact Nat.le_add_right_of_le LeSize.out | exact Nat.le_add_right_of_le (Nat.le_add_right_of_le LeSize.out) | (with_reducible exact Nat.le_refl _) | (simp; done) | (simp; omega)))⟩
            cases e6 : decide (limM p.max p.top o.tl ≤ o.p)
            · have HD : Hid (dueM p o k = k.ea) := Lib.hid (by simp [dueM, longM, e1, e2, e3, e4, e5, e6])
              rw [e1] at t29
              rw [e2] at i2
              clear e1 e6
              (show wpReads _ _ _ _ [_] _; (iterate 1 (first | (refine ⟨_, y_lphs rfl rfl rfl (fun _ h => h.1), ?_⟩; simp only [Act.put, List.setIfInBounds_toArray, List.set_cons_succ, List.set_cons_zero]) | (refine ⟨_, y_lphs rfl rfl rfl (fun _ h => h.2), ?_⟩; simp only [Act.put, List.setIfInBounds_toArray, List.set_cons_succ, List.set_cons_zero]) | (apply Exists.intro; refine ⟨Or.inl ⟨rfl, fun w hS => ?_⟩, ?_⟩; (focus (obtain ⟨hS0, hS1⟩ := hS; first | (simp [go_sem, *]; rfl) | (simp [go_sem]; rfl))); simp only [Act.put, List.setIfInBounds_toArray, List.set_cons_succ, List.set_cons_zero]) | (apply Exists.intro; refine ⟨Or.inr ⟨rfl, rfl⟩, ?_⟩; simp only [Act.put, List.setIfInBounds_toArray, List.set_cons_succ, List.set_cons_zero]))); refine wpReads_nil ?_; show wpQuiet _ _ _ _ [_, _, _, _, _, _, _, _, _, _, _, _, _, _, _, _, _, _, _, _, _, _, _, _, _, _, _, _, _, _] _; (repeat (first | (go_big_quiet_want; refine q_lphs rfl rfl ?_; simp only [Act.put, List.setIfInBounds_toArray, List.set_cons_succ, List.set_cons_zero]; go_big_quiet_on) | go_big_quiet_step ((first | (go_at_call 53; exact Up.calls (shown_any _ _ _)) | fail)))); refine wpQuiet_nil ?_; show wpReads _ _ _ _ [_, _, _, _, _] _; (iterate 5 (first | (refine ⟨_, y_lphs rfl rfl rfl (fun _ h => h.1), ?_⟩; simp only [Act.put, List.setIfInBounds_toArray, List.set_cons_succ, List.set_cons_zero]) | (refine ⟨_, y_lphs rfl rfl rfl (fun _ h => h.2), ?_⟩; simp only [Act.put, List.setIfInBounds_toArray, List.set_cons_succ, List.set_cons_zero]) | (apply Exists.intro; refine ⟨Or.inl ⟨rfl, fun w hS => ?_⟩, ?_⟩; (focus (obtain ⟨hS0, hS1⟩ := hS; first | (simp [go_sem, *]; rfl) | (simp [go_sem]; rfl))); simp only [Act.put, List.setIfInBounds_toArray, List.set_cons_succ, List.set_cons_zero]) | (apply Exists.intro; refine ⟨Or.inr ⟨rfl, rfl⟩, ?_⟩; simp only [Act.put, List.setIfInBounds_toArray, List.set_cons_succ, List.set_cons_zero]))); refine wpReads_nil ?_; intro u; show wpListH _ _ _ _ [_, _] _ _; (repeat (refine wpListH_step rfl (fun K hK => ?_); go_simp; refine hK _ _ ?_ ?_; (focus exact ⟨inferInstance, inferInstance⟩); clear hK K)); refine NoPanic.normal ?_)
              go_wp2
              go_returns
              exact ⟨by rw [HO.out, HD.out]; try rw [e2], by (repeat' (first | (with_reducible exact Below.refl _ _) | (with_reducible assumption) | (with_reducible refine Below.setCell ?_ ?_ _) | (with_reducible refine Below.alloc ?_ ?_ _) | (with_reducible refine Below.drew ?_) | (with_reducible refine Up.base _ ?_ ?_) | (with_reducible exact LeSize.out) | exact LeSize.out | exact Nat.le_add_right_of_le LeSize.out | exact Nat.le_add_right_of_le (Nat.le_add_right_of_le LeSize.out) | (with_reducible exact Nat.le_refl _) | (simp; done) | (simp; omega)))⟩
            · have HD : Hid (dueM p o k = true) := Lib.hid (by simp [dueM, longM, e1, e2, e3, e4, e5, e6])
              rw [e1] at t29
              rw [e2] at i2
              clear e1 e6
              (show wpReads _ _ _ _ [_] _; (iterate 1 (first | (refine ⟨_, y_lphs rfl rfl rfl (fun _ h => h.1), ?_⟩; simp only [Act.put, List.setIfInBounds_toArray, List.set_cons_succ, List.set_cons_zero]) | (refine ⟨_, y_lphs rfl rfl rfl (fun _ h => h.2), ?_⟩; simp only [Act.put, List.setIfInBounds_toArray, List.set_cons_succ, List.set_cons_zero]) | (apply Exists.intro; refine ⟨Or.inl ⟨rfl, fun w hS => ?_⟩, ?_⟩; (focus (obtain ⟨hS0, hS1⟩ := hS; first | (simp [go_sem, *]; rfl) | (simp [go_sem]; rfl))); simp only [Act.put, List.setIfInBounds_toArray, List.set_cons_succ, List.set_cons_zero]) | (apply Exists.intro; refine ⟨Or.inr ⟨rfl, rfl⟩, ?_⟩; simp only [Act.put, List.setIfInBounds_toArray, List.set_cons_succ, List.set_cons_zero]))); refine wpReads_nil ?_; show wpQuiet _ _ _ _ [_, _, _, _, _, _, _, _, _, _, _, _, _, _, _, _, _, _, _, _, _, _, _, _, _, _, _, _, _, _] _; (repeat (first | (go_big_quiet_want; refine q_lphs rfl rfl ?_; simp only [Act.put, List.setIfInBounds_toArray, List.set_cons_succ, List.set_cons_zero]; go_big_quiet_on) | go_big_quiet_step ((first | (go_at_call 53; exact Up.calls (shown_any _ _ _)) | fail)))); refine wpQuiet_nil ?_; show wpReads _ _ _ _ [_, _, _, _, _] _; (iterate 5 (first | (refine ⟨_, y_lphs rfl rfl rfl (fun _ h => h.1), ?_⟩; simp only [Act.put, List.setIfInBounds_toArray, List.set_cons_succ, List.set_cons_zero]) | (refine ⟨_, y_lphs rfl rfl rfl (fun _ h => h.2), ?_⟩; simp only [Act.put, List.setIfInBounds_toArray, List.set_cons_succ, List.set_cons_zero]) | (apply Exists.intro; refine ⟨Or.inl ⟨rfl, fun w hS => ?_⟩, ?_⟩; (focus (obtain ⟨hS0, hS1⟩ := hS; first | (simp [go_sem, *]; rfl) | (simp [go_sem]; rfl))); simp only [Act.put, List.setIfInBounds_toArray, List.set_cons_succ, List.set_cons_zero]) | (apply Exists.intro; refine ⟨Or.inr ⟨rfl, rfl⟩, ?_⟩; simp only [Act.put, List.setIfInBounds_toArray, List.set_cons_succ, List.set_cons_zero]))); refine wpReads_nil ?_; intro u; show wpListH _ _ _ _ [_, _] _ _; (repeat (refine wpListH_step rfl (fun K hK => ?_); go_simp; refine hK _ _ ?_ ?_; (focus exact ⟨inferInstance, inferInstance⟩); clear hK K)); refine NoPanic.normal ?_)
              go_wp2
              go_returns
              exact ⟨by rw [HO.out, HD.out]; try rw [e2], by (repeat' (first | (with_reducible exact Below.refl _ _) | (with_reducible assumption) | (with_reducible refine Below.setCell ?_ ?_ _) | (with_reducible refine Below.alloc ?_ ?_ _) | (with_reducible refine Below.drew ?_) | (with_reducible refine Up.base _ ?_ ?_) | (with_reducible exact LeSize.out) | exact LeSize.out | exact Nat.le_add_right_of_le LeSize.out | exact Nat.le_add_right_of_le (Nat.le_add_right_of_le LeSize.out) | (with_reducible exact Nat.le_refl _) | (simp; done) | (simp; omega)))⟩
end Go.Proofs.Ytmapdkhcfejkaaa
