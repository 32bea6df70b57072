/- The contract of the reference's green. The contracts of the reference's Step, Kept and Begin. -/
import Derived.Test.YtbnbakienajhmaaPhG
namespace Go.Proofs.Ytbnbakienajhmaa
section
open Go.RowKit
set_option linter.unusedVariables false

instance instApartS (n m : Nat) [h : Apart n m] : Apart (n + 1) (m + 1) := ⟨by have := h.out; omega⟩
instance instApart9 (n : Nat) : Apart n (n + 1 + 1 + 1 + 1) := ⟨by omega⟩
def GrSt (w wx : World) (p : Phs) (r : Rn) (k : Cu) (o : Rn) : Prop :=
  IsBlk wx w.heap.size #[.bool p.on, .int .i64 p.min, .int .i64 p.gap, .int .i64 p.max, .int .i64 p.top, .int .i64 p.step, .int .i64 p.yel, .int .i64 p.red, .int .i64 p.walk, .int .i64 p.blinks, .int .i64 p.recl, .bool p.lock, .bool p.rest] 24 ∧ IsBlk wx (w.heap.size + 1) (RnA r) 45 ∧ IsBlk wx (w.heap.size + 1 + 1) #[.bool k.st, .bool k.en, .bool k.he, .bool k.pu, .bool k.pr, .bool k.ho, .bool k.ea, .bool k.cu] 107 ∧
  IsBlk wx (w.heap.size + 1 + 1 + 1) (RnA ⟨0, 0, 0, 0, 0, 0, 0, false, false, 0, 0, 0⟩) 45 ∧ IsBlk wx (w.heap.size + 1 + 1 + 1 + 1) (RnA o) 45 ∧ LeSize (w.heap.size + 1 + 1 + 1 + 1 + 1) wx ∧ LeSize w.heap.size wx ∧ Below w.heap.size w wx
theorem idle_sh (s : Int) : (!(s == 1) && !(s == 2)) = !shM s := by unfold shM; cases s == 1 <;> simp
/-- What the reference's green has made, but for the colour. -/
def gorR (p : Phs) (r : Rn) (k : Cu) : Rn :=
  ⟨r.c, moreM r.t, (gFoot p r k).1, (gFoot p r k).2, leftM p.gap r.l k.he, if k.pr = true then moreM r.p else r.p, r.e, r.d && !gNew p r k, r.m && !gNew p r k, r.tl, r.tu, r.td⟩
def rdueR (p : Phs) (o : Rn) (k : Cu) (e : Int) (due : Bool) : Rn :=
  ⟨o.c, o.t, o.fs, o.ft, o.l, o.p, if due = true ∧ k.ho = true then moreM e else o.e, if due = true ∧ k.ho = false then true else o.d, if due = true ∧ k.ho = false then decide (0 < o.l) && longM p o else o.m, o.tl, o.tu, o.td⟩
def rgrR (p : Phs) (r : Rn) (k : Cu) : Rn := rdueR p (gorR p r k) k r.e (dueM p (gorR p r k) k)
theorem ridle2_any (st tm : Int) (w : World) :
    Calls Try.prog 80 #[.agg #[.int .i64 st, .int .i64 tm]] w fun e w' => e = .returned (.bool (!shM st)) ∧ Below w.heap.size w w' := by
  rw [← idle_sh]; exact ridle_any st tm w
attribute [local go_sem] load_one frz_one
set_option maxHeartbeats 8000000 in
set_option maxRecDepth 100000 in
theorem rgreen_any (p : Phs) (r : Rn) (k : Cu) (w : World) :
    Calls Try.prog 67 #[PhA p, .agg (RnA r), CuA k] w
      fun e w' => e = .returned (.tuple #[.agg #[.int .i64 (rgrR p r k).c, .int .i64 (rgrR p r k).t, .int .i64 (rgrR p r k).fs, .int .i64 (rgrR p r k).ft, .int .i64 (rgrR p r k).l, .int .i64 (rgrR p r k).p, .int .i64 (rgrR p r k).e, .bool (rgrR p r k).d, .bool (rgrR p r k).m, .int .i64 (rgrR p r k).tl, .int .i64 (rgrR p r k).tu, .int .i64 (rgrR p r k).td], .bool (dueM p (goR p r k) k)]) ∧ Below w.heap.size w w' := by
  unfold PhA RnA CuA
  go_enter Try.func67, Try.ntmps67
  go_upto_region 3 with (first | (go_at_call 68; refine (rmore_any _ _).mono ?_; rintro e w' ⟨rfl, rfl⟩) | (go_at_call 69; refine (Up.run (rfstep_any _ _ _ _ _ _ _ _ _ _ _ _ _ _ _ _ _)).mono ?_; rintro e w' ⟨rfl, u, rfl⟩) | (go_at_call 79; refine (Up.run (rfcut_any _ _ _)).mono ?_; rintro e w' ⟨rfl, u, rfl⟩) | (go_at_call 80; refine (Up.run (ridle_any _ _ _)).mono ?_; rintro e w' ⟨rfl, u, rfl⟩) | (go_at_call 81; refine (Up.run (rleft_any _ _ _ _ _ _ _ _ _ _ _ _ _ _ _ _)).mono ?_; rintro e w' ⟨rfl, u, rfl⟩))
  generalize Value.agg #[.bool k.st, .bool k.en, .bool k.he, .bool k.pu, .bool k.pr, .bool k.ho, .bool k.ea, .bool k.cu] = X2
  go_cut [23] (fun s23 wx => s23 = .bool (k.cu && (r.fs == 1)) ∧ GrSt w wx p r k ⟨r.c, moreM r.t, r.fs, r.ft, r.l, r.p, r.e, r.d, r.m, r.tl, r.tu, r.td⟩)
  case first =>
    rcases Bool.eq_false_or_eq_true k.cu with hcu | hcu
    all_goals
      go_wp2
      go_meet
      refine ⟨by simp [hcu], ?_⟩
      unfold GrSt; simp only [RnA, hcu]
      exact ⟨inferInstance, inferInstance, inferInstance, inferInstance, inferInstance, inferInstance, inferInstance, by (repeat' (first | (with_reducible exact Below.refl _ _) | (with_reducible assumption) | (with_reducible refine Below.setCell ?_ ?_ _) | (with_reducible refine Below.alloc ?_ ?_ _) | (with_reducible refine Below.drew ?_) | (with_reducible refine Up.base _ ?_ ?_) | (with_reducible exact LeSize.out) | exact LeSize.out | exact Nat.le_add_right_of_le LeSize.out | exact Nat.le_add_right_of_le (Nat.le_add_right_of_le LeSize.out) | (with_reducible exact Nat.le_refl _) | (simp; done) | (simp; omega)))⟩
  case rest =>
    obtain ⟨rfl, i0, i1, i2, i3, i4, i5, i6, hbel⟩ := hcut
    simp only [RnA] at i1 i3 i4
    go_upto_if 23 with fail
    go_cut [] (fun wx => GrSt w wx p r k ⟨r.c, moreM r.t, (gFoot p r k).1, (gFoot p r k).2, r.l, r.p, r.e, r.d, r.m, r.tl, r.tu, r.td⟩)
    case first =>
      cases hcc : (k.cu && (r.fs == 1))
      · have HF := Lib.hid (show gFoot p r k = ftM p.walk p.blinks r.fs r.ft (k.pu && !k.pr) from if_neg (by simp at hcc; simpa using hcc))
        rcases Bool.eq_false_or_eq_true k.pu with hpu | hpu
        all_goals
          rw [hpu] at i2
          have HC := Lib.hid hpu
          clear hpu
          go_wp2_with (first | (go_at_call 68; refine (rmore_any _ _).mono ?_; rintro e w' ⟨rfl, rfl⟩) | (go_at_call 69; refine (Up.run (rfstep_any _ _ _ _ _ _ _ _ _ _ _ _ _ _ _ _ _)).mono ?_; rintro e w' ⟨rfl, u, rfl⟩) | (go_at_call 79; refine (Up.run (rfcut_any _ _ _)).mono ?_; rintro e w' ⟨rfl, u, rfl⟩) | (go_at_call 80; refine (Up.run (ridle_any _ _ _)).mono ?_; rintro e w' ⟨rfl, u, rfl⟩) | (go_at_call 81; refine (Up.run (rleft_any _ _ _ _ _ _ _ _ _ _ _ _ _ _ _ _)).mono ?_; rintro e w' ⟨rfl, u, rfl⟩))
          go_meet
          rw [HF.out, HC.out]
          unfold GrSt; simp only [RnA, HC.out]
          exact ⟨inferInstance, inferInstance, inferInstance, inferInstance, inferInstance, inferInstance, inferInstance, by (repeat' (first | (with_reducible exact Below.refl _ _) | (with_reducible assumption) | (with_reducible refine Below.setCell ?_ ?_ _) | (with_reducible refine Below.alloc ?_ ?_ _) | (with_reducible refine Below.drew ?_) | (with_reducible refine Up.base _ ?_ ?_) | (with_reducible exact LeSize.out) | exact LeSize.out | exact Nat.le_add_right_of_le LeSize.out | exact Nat.le_add_right_of_le (Nat.le_add_right_of_le LeSize.out) | (with_reducible exact Nat.le_refl _) | (simp; done) | (simp; omega)))⟩
      · have HF := Lib.hid (show gFoot p r k = fcM r.fs r.ft from if_pos (by simp at hcc; simpa using hcc))
        go_wp2_with (first | (go_at_call 68; refine (rmore_any _ _).mono ?_; rintro e w' ⟨rfl, rfl⟩) | (go_at_call 69; refine (Up.run (rfstep_any _ _ _ _ _ _ _ _ _ _ _ _ _ _ _ _ _)).mono ?_; rintro e w' ⟨rfl, u, rfl⟩) | (go_at_call 79; refine (Up.run (rfcut_any _ _ _)).mono ?_; rintro e w' ⟨rfl, u, rfl⟩) | (go_at_call 80; refine (Up.run (ridle_any _ _ _)).mono ?_; rintro e w' ⟨rfl, u, rfl⟩) | (go_at_call 81; refine (Up.run (rleft_any _ _ _ _ _ _ _ _ _ _ _ _ _ _ _ _)).mono ?_; rintro e w' ⟨rfl, u, rfl⟩))
        go_meet
        rw [HF.out]
        unfold GrSt; simp only [RnA]
        exact ⟨inferInstance, inferInstance, inferInstance, inferInstance, inferInstance, inferInstance, inferInstance, by (repeat' (first | (with_reducible exact Below.refl _ _) | (with_reducible assumption) | (with_reducible refine Below.setCell ?_ ?_ _) | (with_reducible refine Below.alloc ?_ ?_ _) | (with_reducible refine Below.drew ?_) | (with_reducible refine Up.base _ ?_ ?_) | (with_reducible exact LeSize.out) | exact LeSize.out | exact Nat.le_add_right_of_le LeSize.out | exact Nat.le_add_right_of_le (Nat.le_add_right_of_le LeSize.out) | (with_reducible exact Nat.le_refl _) | (simp; done) | (simp; omega)))⟩
    case rest =>
      obtain ⟨i0, i1, i2, i3, i4, i5, i6, hbel⟩ := hcut
      simp only [RnA] at i1 i3 i4
      go_upto_region 6 with fail
      go_cut [48] (fun s48 wx => s48 = .bool (gNew p r k) ∧ GrSt w wx p r k ⟨r.c, moreM r.t, (gFoot p r k).1, (gFoot p r k).2, r.l, r.p, r.e, r.d, r.m, r.tl, r.tu, r.td⟩)
      case first =>
        cases hsh : shM r.fs
        all_goals
          go_wp2_with (go_at_call 80; refine (Up.run (ridle2_any _ _ _)).mono ?_; rintro e w' ⟨rfl, u, rfl⟩)
          go_meet
          refine ⟨by rw [gNew, hsh]; simp, ?_⟩
          unfold GrSt; simp only [RnA]
          exact ⟨inferInstance, inferInstance, inferInstance, inferInstance, inferInstance, inferInstance, inferInstance, by (repeat' (first | (with_reducible exact Below.refl _ _) | (with_reducible assumption) | (with_reducible refine Below.setCell ?_ ?_ _) | (with_reducible refine Below.alloc ?_ ?_ _) | (with_reducible refine Below.drew ?_) | (with_reducible refine Up.base _ ?_ ?_) | (with_reducible exact LeSize.out) | exact LeSize.out | exact Nat.le_add_right_of_le LeSize.out | exact Nat.le_add_right_of_le (Nat.le_add_right_of_le LeSize.out) | (with_reducible exact Nat.le_refl _) | (simp; done) | (simp; omega)))⟩
      case rest =>
        obtain ⟨rfl, i0, i1, i2, i3, i4, i5, i6, hbel⟩ := hcut
        simp only [RnA] at i1 i3 i4
        go_upto_if 48 with fail
        go_cut [] (fun wx => GrSt w wx p r k ⟨r.c, moreM r.t, (gFoot p r k).1, (gFoot p r k).2, r.l, r.p, r.e, r.d && !gNew p r k, r.m && !gNew p r k, r.tl, r.tu, r.td⟩)
        case first =>
          cases hn : gNew p r k
          all_goals
            have HN := Lib.hid hn
            clear hn
            go_wp2
            go_meet
            simp only [HN.out, Bool.not_true, Bool.not_false, Bool.and_true, Bool.and_false]
            unfold GrSt; simp only [RnA]
            exact ⟨inferInstance, inferInstance, inferInstance, inferInstance, inferInstance, inferInstance, inferInstance, by (repeat' (first | (with_reducible exact Below.refl _ _) | (with_reducible assumption) | (with_reducible refine Below.setCell ?_ ?_ _) | (with_reducible refine Below.alloc ?_ ?_ _) | (with_reducible refine Below.drew ?_) | (with_reducible refine Up.base _ ?_ ?_) | (with_reducible exact LeSize.out) | exact LeSize.out | exact Nat.le_add_right_of_le LeSize.out | exact Nat.le_add_right_of_le (Nat.le_add_right_of_le LeSize.out) | (with_reducible exact Nat.le_refl _) | (simp; done) | (simp; omega)))⟩
        case rest =>
          obtain ⟨i0, i1, i2, i3, i4, i5, i6, hbel⟩ := hcut
          simp only [RnA] at i1 i3 i4
          go_upto_if 59 with (first | (go_at_call 68; refine (rmore_any _ _).mono ?_; rintro e w' ⟨rfl, rfl⟩) | (go_at_call 69; refine (Up.run (rfstep_any _ _ _ _ _ _ _ _ _ _ _ _ _ _ _ _ _)).mono ?_; rintro e w' ⟨rfl, u, rfl⟩) | (go_at_call 79; refine (Up.run (rfcut_any _ _ _)).mono ?_; rintro e w' ⟨rfl, u, rfl⟩) | (go_at_call 80; refine (Up.run (ridle_any _ _ _)).mono ?_; rintro e w' ⟨rfl, u, rfl⟩) | (go_at_call 81; refine (Up.run (rleft_any _ _ _ _ _ _ _ _ _ _ _ _ _ _ _ _)).mono ?_; rintro e w' ⟨rfl, u, rfl⟩))
          go_cut [] (fun wx => GrSt w wx p r k (gorR p r k))
          case first =>
            cases hpr : k.pr
            all_goals
              rw [hpr] at i2
              go_wp2_with (first | (go_at_call 68; refine (rmore_any _ _).mono ?_; rintro e w' ⟨rfl, rfl⟩) | (go_at_call 69; refine (Up.run (rfstep_any _ _ _ _ _ _ _ _ _ _ _ _ _ _ _ _ _)).mono ?_; rintro e w' ⟨rfl, u, rfl⟩) | (go_at_call 79; refine (Up.run (rfcut_any _ _ _)).mono ?_; rintro e w' ⟨rfl, u, rfl⟩) | (go_at_call 80; refine (Up.run (ridle_any _ _ _)).mono ?_; rintro e w' ⟨rfl, u, rfl⟩) | (go_at_call 81; refine (Up.run (rleft_any _ _ _ _ _ _ _ _ _ _ _ _ _ _ _ _)).mono ?_; rintro e w' ⟨rfl, u, rfl⟩))
              go_meet
              unfold gorR
              simp only [hpr, if_true, if_false, Bool.false_eq_true]
              unfold GrSt; simp only [RnA, hpr]
              exact ⟨inferInstance, inferInstance, inferInstance, inferInstance, inferInstance, inferInstance, inferInstance, by (repeat' (first | (with_reducible exact Below.refl _ _) | (with_reducible assumption) | (with_reducible refine Below.setCell ?_ ?_ _) | (with_reducible refine Below.alloc ?_ ?_ _) | (with_reducible refine Below.drew ?_) | (with_reducible refine Up.base _ ?_ ?_) | (with_reducible exact LeSize.out) | exact LeSize.out | exact Nat.le_add_right_of_le LeSize.out | exact Nat.le_add_right_of_le (Nat.le_add_right_of_le LeSize.out) | (with_reducible exact Nat.le_refl _) | (simp; done) | (simp; omega)))⟩
          case rest =>
            obtain ⟨i0, i1, i2, i3, i4, i5, i6, hbel⟩ := hcut
            simp only [RnA] at i1 i3 i4
            obtain ⟨o, ho⟩ : ∃ o, gorR p r k = o := ⟨_, rfl⟩
            have HO := Lib.hid (show rgrR p r k = rdueR p o k r.e (dueM p o k) by unfold rgrR; rw [ho])
            have HD := Lib.hid (show dueM p (goR p r k) k = dueM p o k by rw [← ho]; rfl)
            have HT := Lib.hid (show r.tl = o.tl by rw [← ho]; rfl)
            rw [ho] at i4
            clear ho
            go_wp2
            (refine wp_region_up (by kernel_rfl) (by kernel_rfl) ?_; (repeat (first | go_big_quiet_step ((first | (go_at_call 77; exact Up.calls (rlimit_any _ _ _ _ _ _ _ _ _ _ _ _ _ _ _ _ _)) | fail)))); refine wpQuiet_nil ?_; rintro _ ⟨u, rfl⟩)
            go_upto_region 13 with fail
            go_cut [9, 10] (fun s9 s10 wx => s9 = .bool (decide (limM p.max p.top r.tl ≤ o.p)) ∧ s10 = .bool (dueM p o k) ∧ GrSt w wx p r k o)
            case first =>
              rcases Bool.eq_false_or_eq_true k.pr with e1 | e1
              rotate_left
              · have HD : Hid (dueM p o k = false) := Lib.hid (by simp [dueM, longM, e1])
                go_wp2_with (go_at_call 80; refine (Up.run (ridle2_any _ _ _)).mono ?_; rintro e w' ⟨rfl, u, rfl⟩)
                go_meet
                refine ⟨by first | rfl | rw [e6], by rw [HD.out], ?_⟩
                unfold GrSt; simp only [RnA]
                exact ⟨inferInstance, inferInstance, inferInstance, inferInstance, inferInstance, inferInstance, inferInstance, by (repeat' (first | (with_reducible exact Below.refl _ _) | (with_reducible assumption) | (with_reducible refine Below.setCell ?_ ?_ _) | (with_reducible refine Below.alloc ?_ ?_ _) | (with_reducible refine Below.drew ?_) | (with_reducible refine Up.base _ ?_ ?_) | (with_reducible exact LeSize.out) | exact LeSize.out | exact Nat.le_add_right_of_le LeSize.out | exact Nat.le_add_right_of_le (Nat.le_add_right_of_le LeSize.out) | (with_reducible exact Nat.le_refl _) | (simp; done) | (simp; omega)))⟩
              rcases Bool.eq_false_or_eq_true o.d with e2 | e2
              · have HD : Hid (dueM p o k = false) := Lib.hid (by simp [dueM, longM, e1, e2])
                go_wp2_with (go_at_call 80; refine (Up.run (ridle2_any _ _ _)).mono ?_; rintro e w' ⟨rfl, u, rfl⟩)
                go_meet
                refine ⟨by first | rfl | rw [e6], by rw [HD.out], ?_⟩
                unfold GrSt; simp only [RnA]
                exact ⟨inferInstance, inferInstance, inferInstance, inferInstance, inferInstance, inferInstance, inferInstance, by (repeat' (first | (with_reducible exact Below.refl _ _) | (with_reducible assumption) | (with_reducible refine Below.setCell ?_ ?_ _) | (with_reducible refine Below.alloc ?_ ?_ _) | (with_reducible refine Below.drew ?_) | (with_reducible refine Up.base _ ?_ ?_) | (with_reducible exact LeSize.out) | exact LeSize.out | exact Nat.le_add_right_of_le LeSize.out | exact Nat.le_add_right_of_le (Nat.le_add_right_of_le LeSize.out) | (with_reducible exact Nat.le_refl _) | (simp; done) | (simp; omega)))⟩
              rcases Bool.eq_false_or_eq_true (decide (p.min ≤ o.t)) with e3 | e3
              rotate_left
              · have HD : Hid (dueM p o k = false) := Lib.hid (by simp [dueM, longM, e1, e2, e3])
                go_wp2_with (go_at_call 80; refine (Up.run (ridle2_any _ _ _)).mono ?_; rintro e w' ⟨rfl, u, rfl⟩)
                go_meet
                refine ⟨by first | rfl | rw [e6], by rw [HD.out], ?_⟩
                unfold GrSt; simp only [RnA]
                exact ⟨inferInstance, inferInstance, inferInstance, inferInstance, inferInstance, inferInstance, inferInstance, by (repeat' (first | (with_reducible exact Below.refl _ _) | (with_reducible assumption) | (with_reducible refine Below.setCell ?_ ?_ _) | (with_reducible refine Below.alloc ?_ ?_ _) | (with_reducible refine Below.drew ?_) | (with_reducible refine Up.base _ ?_ ?_) | (with_reducible exact LeSize.out) | exact LeSize.out | exact Nat.le_add_right_of_le LeSize.out | exact Nat.le_add_right_of_le (Nat.le_add_right_of_le LeSize.out) | (with_reducible exact Nat.le_refl _) | (simp; done) | (simp; omega)))⟩
              rcases Bool.eq_false_or_eq_true (shM o.fs) with e4 | e4
              · have HD : Hid (dueM p o k = false) := Lib.hid (by simp [dueM, longM, e1, e2, e3, e4])
                go_wp2_with (go_at_call 80; refine (Up.run (ridle2_any _ _ _)).mono ?_; rintro e w' ⟨rfl, u, rfl⟩)
                go_meet
                refine ⟨by first | rfl | rw [e6], by rw [HD.out], ?_⟩
                unfold GrSt; simp only [RnA]
                exact ⟨inferInstance, inferInstance, inferInstance, inferInstance, inferInstance, inferInstance, inferInstance, by (repeat' (first | (with_reducible exact Below.refl _ _) | (with_reducible assumption) | (with_reducible refine Below.setCell ?_ ?_ _) | (with_reducible refine Below.alloc ?_ ?_ _) | (with_reducible refine Below.drew ?_) | (with_reducible refine Up.base _ ?_ ?_) | (with_reducible exact LeSize.out) | exact LeSize.out | exact Nat.le_add_right_of_le LeSize.out | exact Nat.le_add_right_of_le (Nat.le_add_right_of_le LeSize.out) | (with_reducible exact Nat.le_refl _) | (simp; done) | (simp; omega)))⟩
              rcases Bool.eq_false_or_eq_true (o.l == 0) with e5 | e5
              · have HD : Hid (dueM p o k = true) := Lib.hid (by simp [dueM, longM, e1, e2, e3, e4, e5])
                go_wp2_with (go_at_call 80; refine (Up.run (ridle2_any _ _ _)).mono ?_; rintro e w' ⟨rfl, u, rfl⟩)
                go_meet
                refine ⟨by first | rfl | rw [e6], by rw [HD.out], ?_⟩
                unfold GrSt; simp only [RnA]
                exact ⟨inferInstance, inferInstance, inferInstance, inferInstance, inferInstance, inferInstance, inferInstance, by (repeat' (first | (with_reducible exact Below.refl _ _) | (with_reducible assumption) | (with_reducible refine Below.setCell ?_ ?_ _) | (with_reducible refine Below.alloc ?_ ?_ _) | (with_reducible refine Below.drew ?_) | (with_reducible refine Up.base _ ?_ ?_) | (with_reducible exact LeSize.out) | exact LeSize.out | exact Nat.le_add_right_of_le LeSize.out | exact Nat.le_add_right_of_le (Nat.le_add_right_of_le LeSize.out) | (with_reducible exact Nat.le_refl _) | (simp; done) | (simp; omega)))⟩
              rcases Bool.eq_false_or_eq_true (decide (limM p.max p.top r.tl ≤ o.p)) with e6 | e6
              · have HD : Hid (dueM p o k = true) := Lib.hid (by simp only [dueM, longM, ← HT.out, e1, e2, e3, e4, e5, e6]; rfl)
                go_wp2_with (go_at_call 80; refine (Up.run (ridle2_any _ _ _)).mono ?_; rintro e w' ⟨rfl, u, rfl⟩)
                go_meet
                refine ⟨by first | rfl | rw [e6], by rw [HD.out], ?_⟩
                unfold GrSt; simp only [RnA]
                exact ⟨inferInstance, inferInstance, inferInstance, inferInstance, inferInstance, inferInstance, inferInstance, by (repeat' (first | (with_reducible exact Below.refl _ _) | (with_reducible assumption) | (with_reducible refine Below.setCell ?_ ?_ _) | (with_reducible refine Below.alloc ?_ ?_ _) | (with_reducible refine Below.drew ?_) | (with_reducible refine Up.base _ ?_ ?_) | (with_reducible exact LeSize.out) | exact LeSize.out | exact Nat.le_add_right_of_le LeSize.out | exact Nat.le_add_right_of_le (Nat.le_add_right_of_le LeSize.out) | (with_reducible exact Nat.le_refl _) | (simp; done) | (simp; omega)))⟩
              · have HD : Hid (dueM p o k = k.ea) := Lib.hid (by simp only [dueM, longM, ← HT.out, e1, e2, e3, e4, e5, e6]; rfl)
                go_wp2_with (go_at_call 80; refine (Up.run (ridle2_any _ _ _)).mono ?_; rintro e w' ⟨rfl, u, rfl⟩)
                go_meet
                refine ⟨by first | rfl | rw [e6], by rw [HD.out], ?_⟩
                unfold GrSt; simp only [RnA]
                exact ⟨inferInstance, inferInstance, inferInstance, inferInstance, inferInstance, inferInstance, inferInstance, by (repeat' (first | (with_reducible exact Below.refl _ _) | (with_reducible assumption) | (with_reducible refine Below.setCell ?_ ?_ _) | (with_reducible refine Below.alloc ?_ ?_ _) | (with_reducible refine Below.drew ?_) | (with_reducible refine Up.base _ ?_ ?_) | (with_reducible exact LeSize.out) | exact LeSize.out | exact Nat.le_add_right_of_le LeSize.out | exact Nat.le_add_right_of_le (Nat.le_add_right_of_le LeSize.out) | (with_reducible exact Nat.le_refl _) | (simp; done) | (simp; omega)))⟩
            case rest =>
              obtain ⟨rfl, rfl, i0, i1, i2, i3, i4, i5, i6, hbel⟩ := hcut
              simp only [RnA] at i1 i3 i4
              obtain ⟨due, hdue⟩ : ∃ due, dueM p o k = due := ⟨_, rfl⟩
              have HDD := Lib.hid hdue
              rw [hdue]
              clear hdue
              cases due
              · have HR := Lib.hid (show rdueR p o k r.e false = o by simp [rdueR])
                go_wp2
                go_returns
                exact ⟨by rw [HO.out, HD.out, HDD.out, HR.out], by (repeat' (first | (with_reducible exact Below.refl _ _) | (with_reducible assumption) | (with_reducible refine Below.setCell ?_ ?_ _) | (with_reducible refine Below.alloc ?_ ?_ _) | (with_reducible refine Below.drew ?_) | (with_reducible refine Up.base _ ?_ ?_) | (with_reducible exact LeSize.out) | exact LeSize.out | exact Nat.le_add_right_of_le LeSize.out | exact Nat.le_add_right_of_le (Nat.le_add_right_of_le LeSize.out) | (with_reducible exact Nat.le_refl _) | (simp; done) | (simp; omega)))⟩
              · rcases Bool.eq_false_or_eq_true k.ho with hho | hho
                · have HR := Lib.hid (show rdueR p o k r.e true = ⟨o.c, o.t, o.fs, o.ft, o.l, o.p, moreM r.e, o.d, o.m, o.tl, o.tu, o.td⟩ by simp [rdueR, hho])
                  rw [hho] at i2
                  clear hho
                  go_wp2_with (go_at_call 68; refine (rmore_any _ _).mono ?_; rintro e w' ⟨rfl, rfl⟩)
                  go_returns
                  exact ⟨by rw [HO.out, HD.out, HDD.out, HR.out], by (repeat' (first | (with_reducible exact Below.refl _ _) | (with_reducible assumption) | (with_reducible refine Below.setCell ?_ ?_ _) | (with_reducible refine Below.alloc ?_ ?_ _) | (with_reducible refine Below.drew ?_) | (with_reducible refine Up.base _ ?_ ?_) | (with_reducible exact LeSize.out) | exact LeSize.out | exact Nat.le_add_right_of_le LeSize.out | exact Nat.le_add_right_of_le (Nat.le_add_right_of_le LeSize.out) | (with_reducible exact Nat.le_refl _) | (simp; done) | (simp; omega)))⟩
                · have HR := Lib.hid (show rdueR p o k r.e true = ⟨o.c, o.t, o.fs, o.ft, o.l, o.p, o.e, true, decide (0 < o.l) && decide (limM p.max p.top r.tl ≤ o.p), o.tl, o.tu, o.td⟩ by rw [HT.out]; simp [rdueR, longM, hho])
                  rw [hho] at i2
                  clear hho
                  rcases Bool.eq_false_or_eq_true (decide (0 < o.l)) with h0 | h0
                  all_goals
                    go_wp2_with (go_at_call 68; refine (rmore_any _ _).mono ?_; rintro e w' ⟨rfl, rfl⟩)
                    go_returns
                    exact ⟨by rw [HO.out, HD.out, HDD.out, HR.out, h0]; simp, by (repeat' (first | (with_reducible exact Below.refl _ _) | (with_reducible assumption) | (with_reducible refine Below.setCell ?_ ?_ _) | (with_reducible refine Below.alloc ?_ ?_ _) | (with_reducible refine Below.drew ?_) | (with_reducible refine Up.base _ ?_ ?_) | (with_reducible exact LeSize.out) | exact LeSize.out | exact Nat.le_add_right_of_le LeSize.out | exact Nat.le_add_right_of_le (Nat.le_add_right_of_le LeSize.out) | (with_reducible exact Nat.le_refl _) | (simp; done) | (simp; omega)))⟩
end
section
open Go.RowKit
set_option linter.unusedVariables false

theorem rgr_eq (p : Phs) (r : Rn) (k : Cu) (h : r.c = 1) : rgrR p r k = dueR p (goR p r k) k (dueM p (goR p r k) k) := by
  have e : gorR p r k = goR p r k := by unfold gorR goR; rw [h]
  unfold rgrR
  rw [e]
  have e2 : (goR p r k).e = r.e := rfl
  generalize dueM p (goR p r k) k = due
  unfold rdueR dueR
  cases due <;> cases k.ho <;> simp [e2] <;> rw [← e2]
set_option maxHeartbeats 4000000 in
set_option maxRecDepth 100000 in
theorem rstep_any (p : Phs) (r : Rn) (k : Cu) (w : World) (h1 : 0 ≤ p.max ∧ p.max ≤ 9999) (h2 : 0 ≤ p.top ∧ p.top ≤ 9999) (h3 : 0 ≤ p.step ∧ p.step ≤ 9999) :
    Calls Try.prog 50 #[PhA p, .agg (RnA r), CuA k] w
      fun e w' => e = .returned (.agg #[.int .i64 (stepM p r k).c, .int .i64 (stepM p r k).t, .int .i64 (stepM p r k).fs, .int .i64 (stepM p r k).ft, .int .i64 (stepM p r k).l, .int .i64 (stepM p r k).p, .int .i64 (stepM p r k).e, .bool (stepM p r k).d, .bool (stepM p r k).m, .int .i64 (stepM p r k).tl, .int .i64 (stepM p r k).tu, .int .i64 (stepM p r k).td]) ∧ Below w.heap.size w w' := by
  by_cases c1 : r.c = 1
  · rw [show stepM p r k = grnR p r k by simp [stepM, c1]]
    cases hen : k.en
    · rw [show grnR p r k = rgrR p r k by rw [rgr_eq p r k c1]; simp [grnR, hen]]
      have HG : ∀ w, Calls Try.prog 67 #[PhA p, .agg (RnA r), CuA k] w fun e w' => e = .returned (.tuple #[.agg #[.int .i64 (rgrR p r k).c, .int .i64 (rgrR p r k).t, .int .i64 (rgrR p r k).fs, .int .i64 (rgrR p r k).ft, .int .i64 (rgrR p r k).l, .int .i64 (rgrR p r k).p, .int .i64 (rgrR p r k).e, .bool (rgrR p r k).d, .bool (rgrR p r k).m, .int .i64 (rgrR p r k).tl, .int .i64 (rgrR p r k).tu, .int .i64 (rgrR p r k).td], .bool (dueM p (goR p r k) k)]) ∧ Below w.heap.size w w' := fun w => rgreen_any p r k w
      generalize rgrR p r k = o at *
      unfold PhA RnA CuA at *
      rw [c1, hen] at HG
      rw [c1]
      have HG := Lib.hid HG
      go_enter Try.func50, Try.ntmps50
      go_wp2_with (go_at_call 67; refine (Up.run (HG.out _)).mono ?_; rintro e w' ⟨rfl, u, rfl⟩)
      go_returns
      exact ⟨rfl, by (repeat' (first | (with_reducible exact Below.refl _ _) | (with_reducible assumption) | (with_reducible refine Below.setCell ?_ ?_ _) | (with_reducible refine Below.alloc ?_ ?_ _) | (with_reducible refine Below.drew ?_) | (with_reducible refine Up.base _ ?_ ?_) | (with_reducible exact LeSize.out) | exact LeSize.out | exact Nat.le_add_right_of_le LeSize.out | exact Nat.le_add_right_of_le (Nat.le_add_right_of_le LeSize.out) | (with_reducible exact Nat.le_refl _) | (simp; done) | (simp; omega)))⟩
    · rw [show grnR p r k = endR p r by simp [grnR, hen]]
      cases hd : r.d
      · rw [show endR p r = asM r 2 1 by simp [endR, hd]]
        unfold PhA RnA CuA
        rw [c1, hen, hd]
        go_enter Try.func50, Try.ntmps50
        go_wp2
        go_returns
        exact ⟨rfl, by (repeat' (first | (with_reducible exact Below.refl _ _) | (with_reducible assumption) | (with_reducible refine Below.setCell ?_ ?_ _) | (with_reducible refine Below.alloc ?_ ?_ _) | (with_reducible refine Below.drew ?_) | (with_reducible refine Up.base _ ?_ ?_) | (with_reducible exact LeSize.out) | exact LeSize.out | exact Nat.le_add_right_of_le LeSize.out | exact Nat.le_add_right_of_le (Nat.le_add_right_of_le LeSize.out) | (with_reducible exact Nat.le_refl _) | (simp; done) | (simp; omega)))⟩
      · rw [show endR p r = ⟨2, 1, 0, 0, 0, 0, 0, false, false, grLim p.max p.top p.step r.tl r.tu r.td r.m, grUp r.tu r.m, grDn r.td r.m⟩ by simp [endR, hd]]
        unfold PhA RnA CuA
        rw [c1, hen, hd]
        go_enter Try.func50, Try.ntmps50
        go_wp2_with (go_at_call 66; refine (Up.run (rgrow_any _ _ _ _ _ _ _ _ _ _ _ _ _ _ _ _ _ _ (by assumption) (by assumption) (by assumption))).mono ?_; rintro e w' ⟨rfl, u, rfl⟩)
        go_returns
        exact ⟨rfl, by (repeat' (first | (with_reducible exact Below.refl _ _) | (with_reducible assumption) | (with_reducible refine Below.setCell ?_ ?_ _) | (with_reducible refine Below.alloc ?_ ?_ _) | (with_reducible refine Below.drew ?_) | (with_reducible refine Up.base _ ?_ ?_) | (with_reducible exact LeSize.out) | exact LeSize.out | exact Nat.le_add_right_of_le LeSize.out | exact Nat.le_add_right_of_le (Nat.le_add_right_of_le LeSize.out) | (with_reducible exact Nat.le_refl _) | (simp; done) | (simp; omega)))⟩
  by_cases c2 : r.c = 2
  · by_cases h : r.t < p.yel
    · rw [show stepM p r k = asM r 2 (moreM r.t) by simp [stepM, c2, yelM, h]]
      unfold PhA RnA CuA
      rw [c2]
      go_enter Try.func50, Try.ntmps50
      go_wp2
      (refine wp_region_up_tail 6 (by kernel_rfl) (by kernel_rfl) ?_; simp only [List.take_succ_cons, List.take_zero, List.drop_succ_cons, List.drop_zero]; (repeat (first | go_big_quiet_step ((first | (go_at_call 68; exact Up.pure (rmore_any _ _)) | fail)))); refine wpQuiet_nil ?_; rintro _ ⟨u, rfl⟩)
      go_wp2
      go_returns
      exact ⟨rfl, by (repeat' (first | (with_reducible exact Below.refl _ _) | (with_reducible assumption) | (with_reducible refine Below.setCell ?_ ?_ _) | (with_reducible refine Below.alloc ?_ ?_ _) | (with_reducible refine Below.drew ?_) | (with_reducible refine Up.base _ ?_ ?_) | (with_reducible exact LeSize.out) | exact LeSize.out | exact Nat.le_add_right_of_le LeSize.out | exact Nat.le_add_right_of_le (Nat.le_add_right_of_le LeSize.out) | (with_reducible exact Nat.le_refl _) | (simp; done) | (simp; omega)))⟩
    · by_cases h0 : 0 < p.red
      · rw [show stepM p r k = asM r 3 1 by simp [stepM, c2, yelM, h, h0]]
        unfold PhA RnA CuA
        rw [c2]
        go_enter Try.func50, Try.ntmps50
        go_wp2
        go_returns
        exact ⟨rfl, by (repeat' (first | (with_reducible exact Below.refl _ _) | (with_reducible assumption) | (with_reducible refine Below.setCell ?_ ?_ _) | (with_reducible refine Below.alloc ?_ ?_ _) | (with_reducible refine Below.drew ?_) | (with_reducible refine Up.base _ ?_ ?_) | (with_reducible exact LeSize.out) | exact LeSize.out | exact Nat.le_add_right_of_le LeSize.out | exact Nat.le_add_right_of_le (Nat.le_add_right_of_le LeSize.out) | (with_reducible exact Nat.le_refl _) | (simp; done) | (simp; omega)))⟩
      · rw [show stepM p r k = asM r 0 1 by simp [stepM, c2, yelM, h, h0]]
        unfold PhA RnA CuA
        rw [c2]
        go_enter Try.func50, Try.ntmps50
        go_wp2
        go_returns
        exact ⟨rfl, by (repeat' (first | (with_reducible exact Below.refl _ _) | (with_reducible assumption) | (with_reducible refine Below.setCell ?_ ?_ _) | (with_reducible refine Below.alloc ?_ ?_ _) | (with_reducible refine Below.drew ?_) | (with_reducible refine Up.base _ ?_ ?_) | (with_reducible exact LeSize.out) | exact LeSize.out | exact Nat.le_add_right_of_le LeSize.out | exact Nat.le_add_right_of_le (Nat.le_add_right_of_le LeSize.out) | (with_reducible exact Nat.le_refl _) | (simp; done) | (simp; omega)))⟩
  by_cases c3 : r.c = 3
  · by_cases h : r.t < p.red
    · rw [show stepM p r k = asM r 3 (moreM r.t) by simp [stepM, c3, clrM, h]]
      unfold PhA RnA CuA
      rw [c3]
      go_enter Try.func50, Try.ntmps50
      go_wp2
      (refine wp_region_up_tail 6 (by kernel_rfl) (by kernel_rfl) ?_; simp only [List.take_succ_cons, List.take_zero, List.drop_succ_cons, List.drop_zero]; (repeat (first | go_big_quiet_step ((first | (go_at_call 68; exact Up.pure (rmore_any _ _)) | fail)))); refine wpQuiet_nil ?_; rintro _ ⟨u, rfl⟩)
      go_wp2
      go_returns
      exact ⟨rfl, by (repeat' (first | (with_reducible exact Below.refl _ _) | (with_reducible assumption) | (with_reducible refine Below.setCell ?_ ?_ _) | (with_reducible refine Below.alloc ?_ ?_ _) | (with_reducible refine Below.drew ?_) | (with_reducible refine Up.base _ ?_ ?_) | (with_reducible exact LeSize.out) | exact LeSize.out | exact Nat.le_add_right_of_le LeSize.out | exact Nat.le_add_right_of_le (Nat.le_add_right_of_le LeSize.out) | (with_reducible exact Nat.le_refl _) | (simp; done) | (simp; omega)))⟩
    · rw [show stepM p r k = asM r 0 1 by simp [stepM, c3, clrM, h]]
      unfold PhA RnA CuA
      rw [c3]
      go_enter Try.func50, Try.ntmps50
      go_wp2
      go_returns
      exact ⟨rfl, by (repeat' (first | (with_reducible exact Below.refl _ _) | (with_reducible assumption) | (with_reducible refine Below.setCell ?_ ?_ _) | (with_reducible refine Below.alloc ?_ ?_ _) | (with_reducible refine Below.drew ?_) | (with_reducible refine Up.base _ ?_ ?_) | (with_reducible exact LeSize.out) | exact LeSize.out | exact Nat.le_add_right_of_le LeSize.out | exact Nat.le_add_right_of_le (Nat.le_add_right_of_le LeSize.out) | (with_reducible exact Nat.le_refl _) | (simp; done) | (simp; omega)))⟩
  have n1 : (r.c == 1) = false := by simp [c1]
  have n2 : (r.c == 2) = false := by simp [c2]
  have n3 : (r.c == 3) = false := by simp [c3]
  cases hst : k.st
  · rw [show stepM p r k = asM r 0 (moreM r.t) by simp [stepM, c1, c2, c3, redgM, hst]]
    unfold PhA RnA CuA
    rw [hst]
    clear c1 c2 c3
    go_enter Try.func50, Try.ntmps50
    go_wp2
    (refine wp_region_up_tail 6 (by kernel_rfl) (by kernel_rfl) ?_; simp only [List.take_succ_cons, List.take_zero, List.drop_succ_cons, List.drop_zero]; (repeat (first | go_big_quiet_step ((first | (go_at_call 68; exact Up.pure (rmore_any _ _)) | fail)))); refine wpQuiet_nil ?_; rintro _ ⟨u, rfl⟩)
    go_wp2
    go_returns
    exact ⟨rfl, by (repeat' (first | (with_reducible exact Below.refl _ _) | (with_reducible assumption) | (with_reducible refine Below.setCell ?_ ?_ _) | (with_reducible refine Below.alloc ?_ ?_ _) | (with_reducible refine Below.drew ?_) | (with_reducible refine Up.base _ ?_ ?_) | (with_reducible exact LeSize.out) | exact LeSize.out | exact Nat.le_add_right_of_le LeSize.out | exact Nat.le_add_right_of_le (Nat.le_add_right_of_le LeSize.out) | (with_reducible exact Nat.le_refl _) | (simp; done) | (simp; omega)))⟩
  · rw [show stepM p r k = ⟨1, 1, (ftM p.walk p.blinks 0 0 k.pu).1, (ftM p.walk p.blinks 0 0 k.pu).2, p.gap, 0, 0, false, false, r.tl, r.tu, r.td⟩ by simp [stepM, c1, c2, c3, redgM, hst]]
    unfold PhA RnA CuA
    rw [hst]
    clear c1 c2 c3
    go_enter Try.func50, Try.ntmps50
    go_wp2
    (refine wp_region_up_tail 10 (by kernel_rfl) (by kernel_rfl) ?_; simp only [List.take_succ_cons, List.take_zero, List.drop_succ_cons, List.drop_zero]; (repeat (first | go_big_quiet_step ((first | (go_at_call 69; exact Up.calls (rfstep_any _ _ _ _ _ _ _ _ _ _ _ _ _ _ _ _ _)) | fail)))); refine wpQuiet_nil ?_; rintro _ ⟨u, rfl⟩)
    go_wp2
    go_returns
    exact ⟨rfl, by (repeat' (first | (with_reducible exact Below.refl _ _) | (with_reducible assumption) | (with_reducible refine Below.setCell ?_ ?_ _) | (with_reducible refine Below.alloc ?_ ?_ _) | (with_reducible refine Below.drew ?_) | (with_reducible refine Up.base _ ?_ ?_) | (with_reducible exact LeSize.out) | exact LeSize.out | exact Nat.le_add_right_of_le LeSize.out | exact Nat.le_add_right_of_le (Nat.le_add_right_of_le LeSize.out) | (with_reducible exact Nat.le_refl _) | (simp; done) | (simp; omega)))⟩
set_option maxHeartbeats 4000000 in
theorem rbegin_any (p : Phs) (w : World) :
    Calls Try.prog 48 #[PhA p] w fun e w' => e = .returned (.agg #[.int .i64 (beginM p).c, .int .i64 (beginM p).t, .int .i64 (beginM p).fs, .int .i64 (beginM p).ft, .int .i64 (beginM p).l, .int .i64 (beginM p).p, .int .i64 (beginM p).e, .bool (beginM p).d, .bool (beginM p).m, .int .i64 (beginM p).tl, .int .i64 (beginM p).tu, .int .i64 (beginM p).td]) ∧ Below w.heap.size w w' := by
  unfold PhA
  go_enter Try.func48, Try.ntmps48
  go_wp2
  go_returns
  exact ⟨rfl, by (repeat' (first | (with_reducible exact Below.refl _ _) | (with_reducible assumption) | (with_reducible refine Below.setCell ?_ ?_ _) | (with_reducible refine Below.alloc ?_ ?_ _) | (with_reducible refine Below.drew ?_) | (with_reducible refine Up.base _ ?_ ?_) | (with_reducible exact LeSize.out) | exact LeSize.out | exact Nat.le_add_right_of_le LeSize.out | exact Nat.le_add_right_of_le (Nat.le_add_right_of_le LeSize.out) | (with_reducible exact Nat.le_refl _) | (simp; done) | (simp; omega)))⟩
end
end Go.Proofs.Ytbnbakienajhmaa
