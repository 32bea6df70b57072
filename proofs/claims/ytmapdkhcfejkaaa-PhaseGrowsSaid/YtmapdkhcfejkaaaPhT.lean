/- The contracts of package phase: as, red, yellow, clears. -/
import Derived.Test.YtmapdkhcfejkaaaPedA
import Derived.Test.YtmapdkhcfejkaaaGapA
import Derived.Test.YtmapdkhcfejkaaaBlk
import Derived.Test.YtmapdkhcfejkaaaTel
namespace Go.Proofs.Ytmapdkhcfejkaaa
open Go.RowKit
set_option linter.unusedVariables false

set_option maxHeartbeats 1000000 in
theorem pmore_any (a : Int) (w : World) :
    Calls Try.prog 50 #[.int .i64 a] w fun e w' => e = .returned (.int .i64 (moreM a)) ∧ w = w' := by
  go_enter Try.func50, Try.ntmps50
  go_wp2
  all_goals
    go_ret
    exact ⟨ret_int (by unfold moreM; omega), rfl⟩
/-- A tick's cells, and what is read of them. -/
def TickA (p : Phs) (r : Rn) (k : Cu) : Array Value := #[.bool p.on, .int .i64 p.min, .int .i64 p.gap, .int .i64 p.max, .int .i64 p.top, .int .i64 p.step, .int .i64 p.yel, .int .i64 p.red, .int .i64 p.walk, .int .i64 p.blinks, .int .i64 p.recl, .bool p.lock, .bool p.rest, .int .i64 r.c, .int .i64 r.t, .int .i64 r.fs, .int .i64 r.ft, .int .i64 r.l, .int .i64 r.p, .int .i64 r.e, .bool r.d, .bool r.m, .int .i64 r.tl, .int .i64 r.tu, .int .i64 r.td, .bool k.st, .bool k.en, .bool k.he, .bool k.pu, .bool k.pr, .bool k.ho, .bool k.ea, .bool k.cu]
class IsTick (T : Array Value) (p : outParam Phs) (r : outParam Rn) (k : outParam Cu) : Prop where
  out : T = TickA p r k
def part (C : Array Value) (o n : Nat) : Array Value := C.extract o (o + n)
theorem load_tick {w : World} {b o : Nat} {C : Array Value} {t : TypeId} [h : IsBlk w b C t] (ho : o + 33 ≤ C.size) : Sem.run Try.prog (Instr.loadAt 74 (.pointer (some ⟨b, o, none⟩))) w = .ok (.agg (part C o 33)) w := by
  have e : ((C.extract o (o + 33)).toList).length = 33 := by simp; omega
  have := run_loadAt_mid (P := Try.prog) w b o 74 (C.extract o (o + 33)).toList _ (World.rangeAt_of_block h.out o 33) Try.underlying74 rfl (by rw [e]; kernel_rfl)
  rwa [Array.toArray_toList] at this
theorem load_trend {w : World} {b o : Nat} {C : Array Value} {t : TypeId} [h : IsBlk w b C t] (ho : o + 3 ≤ C.size) : Sem.run Try.prog (Instr.loadAt 39 (.pointer (some ⟨b, o, none⟩))) w = .ok (.agg (part C o 3)) w := by
  have e : ((C.extract o (o + 3)).toList).length = 3 := by simp; omega
  have := run_loadAt_mid (P := Try.prog) w b o 39 (C.extract o (o + 3)).toList _ (World.rangeAt_of_block h.out o 3) Try.underlying39 rfl (by rw [e]; kernel_rfl)
  rwa [Array.toArray_toList] at this
theorem load_one {w : World} {b i : Nat} {C : Array Value} {t : TypeId} [h : IsBlk w b C t] : w.cell? ⟨b, i, none⟩ = C[i]? := IsBlk.cell i
theorem get_of {α : Type} {C : Array α} {i : Nat} {v : α} {hi : i < C.size} (h : C[i]? = some v) : C[i] = v := by
  rw [Array.getElem?_eq_getElem hi] at h; exact Option.some.inj h
theorem load_all {w : World} {b : Nat} {C : Array Value} {t : TypeId} {p : Phs} {r : Rn} {k : Cu} [h : IsBlk w b C t] [hT : IsTick C p r k] : Sem.run Try.prog (Instr.loadAt 74 (.pointer (some ⟨b, 0, none⟩))) w = .ok (.agg C) w := by
  have hs : C.size = 33 := by rw [hT.out]; rfl
  have := load_tick (w := w) (b := b) (o := 0) (C := C) (t := t) (by omega)
  rwa [show part C 0 33 = C by unfold part; rw [Nat.zero_add, ← hs]; exact Array.extract_size] at this
noncomputable def LaterLoad (b : Nat) := Instr.loadAt 74 (.pointer (some ⟨b, 0, none⟩))
theorem load_later {b : Nat} : Instr.loadAt 74 (.pointer (some ⟨b, 0, none⟩)) = LaterLoad b := rfl
theorem load_now {w : World} {b : Nat} {C : Array Value} {t : TypeId} {p : Phs} {r : Rn} {k : Cu} [h : IsBlk w b C t] [hT : IsTick C p r k] : Sem.run Try.prog (LaterLoad b) w = .ok (.agg C) w := load_all
theorem load_phs {w : World} {b : Nat} {C : Array Value} {t : TypeId} {p : Phs} {r : Rn} {k : Cu} [h : IsBlk w b C t] [hT : IsTick C p r k] : Sem.run Try.prog (Instr.loadAt 24 (.pointer (some ⟨b, 0, none⟩))) w = .ok (.agg #[.bool p.on, .int .i64 p.min, .int .i64 p.gap, .int .i64 p.max, .int .i64 p.top, .int .i64 p.step, .int .i64 p.yel, .int .i64 p.red, .int .i64 p.walk, .int .i64 p.blinks, .int .i64 p.recl, .bool p.lock, .bool p.rest]) w := by
  have e : C.extract 0 (0 + 13) = #[.bool p.on, .int .i64 p.min, .int .i64 p.gap, .int .i64 p.max, .int .i64 p.top, .int .i64 p.step, .int .i64 p.yel, .int .i64 p.red, .int .i64 p.walk, .int .i64 p.blinks, .int .i64 p.recl, .bool p.lock, .bool p.rest] := by rw [hT.out]; rfl
  have := run_loadAt_mid (P := Try.prog) w b 0 24 (C.extract 0 (0 + 13)).toList _ (World.rangeAt_of_block h.out 0 13) Try.underlying24 rfl (by rw [e]; kernel_rfl)
  rwa [Array.toArray_toList, e] at this
theorem load_run {w : World} {b : Nat} {C : Array Value} {t : TypeId} {p : Phs} {r : Rn} {k : Cu} [h : IsBlk w b C t] [hT : IsTick C p r k] : Sem.run Try.prog (Instr.loadAt 41 (.pointer (some ⟨b, 13, none⟩))) w = .ok (.agg #[.int .i64 r.c, .int .i64 r.t, .int .i64 r.fs, .int .i64 r.ft, .int .i64 r.l, .int .i64 r.p, .int .i64 r.e, .bool r.d, .bool r.m, .int .i64 r.tl, .int .i64 r.tu, .int .i64 r.td]) w := by
  have e : C.extract 13 (13 + 12) = #[.int .i64 r.c, .int .i64 r.t, .int .i64 r.fs, .int .i64 r.ft, .int .i64 r.l, .int .i64 r.p, .int .i64 r.e, .bool r.d, .bool r.m, .int .i64 r.tl, .int .i64 r.tu, .int .i64 r.td] := by rw [hT.out]; rfl
  have := run_loadAt_mid (P := Try.prog) w b 13 41 (C.extract 13 (13 + 12)).toList _ (World.rangeAt_of_block h.out 13 12) Try.underlying41 rfl (by rw [e]; kernel_rfl)
  rwa [Array.toArray_toList, e] at this
theorem load_foot {w : World} {b : Nat} {C : Array Value} {t : TypeId} {p : Phs} {r : Rn} {k : Cu} [h : IsBlk w b C t] [hT : IsTick C p r k] : Sem.run Try.prog (Instr.loadAt 37 (.pointer (some ⟨b, 15, none⟩))) w = .ok (.agg #[.int .i64 r.fs, .int .i64 r.ft]) w := by
  have e : C.extract 15 (15 + 2) = #[.int .i64 r.fs, .int .i64 r.ft] := by rw [hT.out]; rfl
  have := run_loadAt_mid (P := Try.prog) w b 15 37 (C.extract 15 (15 + 2)).toList _ (World.rangeAt_of_block h.out 15 2) Try.underlying37 rfl (by rw [e]; kernel_rfl)
  rwa [Array.toArray_toList, e] at this
theorem quiet_load {W : World} {K : Act → Prop} {o : Oper} {a : Act} {x : Operand} {b : Nat} {C : Array Value} {t : TypeId} {p : Phs} {r : Rn} {k : Cu} (ho : o.op = .load 74 x) (hx : a.eval x = .pointer (some ⟨b, 0, none⟩)) [h : IsBlk W b C t] [hT : IsTick C p r k] (hk : K (a.put o.dst (.agg C))) : o.quiet Try.prog a (fun w' => ∃ u : Up W, w' = u.w) K := by
  refine ⟨.agg C, ?_, hk⟩
  rintro w ⟨u, rfl⟩
  have e := load_all (w := u.w) (b := b) (C := C)
  simp only [Oper.quietAt, execOp, ho, hx]
  generalize Instr.loadAt 74 (Value.pointer (some ⟨b, 0, none⟩)) = L at e ⊢
  simp [go_sem, e, Oper.quietUpon]
attribute [local go_sem] load_one
def asM (r : Rn) (c t : Int) : Rn := ⟨c, t, 0, 0, 0, 0, 0, false, false, r.tl, r.tu, r.td⟩
def yelM (p : Phs) (r : Rn) : Rn := if r.t < p.yel then asM r 2 (moreM r.t) else if 0 < p.red then asM r 3 1 else asM r 0 1
def clrM (p : Phs) (r : Rn) : Rn := if r.t < p.red then asM r 3 (moreM r.t) else asM r 0 1
set_option maxHeartbeats 4000000 in
theorem tas_any (T : Array Value) (p : Phs) (r : Rn) (k : Cu) [hT : IsTick T p r k] (c t : Int) (w : World) :
    Calls Try.prog 59 #[.agg T, .int .i64 c, .int .i64 t] w
      fun e w' => e = .returned (.agg #[.int .i64 (asM r c t).c, .int .i64 (asM r c t).t, .int .i64 (asM r c t).fs, .int .i64 (asM r c t).ft, .int .i64 (asM r c t).l, .int .i64 (asM r c t).p, .int .i64 (asM r c t).e, .bool (asM r c t).d, .bool (asM r c t).m, .int .i64 (asM r c t).tl, .int .i64 (asM r c t).tu, .int .i64 (asM r c t).td]) ∧ Below w.heap.size w w' := by
  have hs : T.size = 33 := by rw [hT.out]; rfl
  have t22 : T[22]'(by omega) = .int .i64 r.tl := get_of (by rw [hT.out]; rfl)
  have t23 : T[23]'(by omega) = .int .i64 r.tu := get_of (by rw [hT.out]; rfl)
  have t24 : T[24]'(by omega) = .int .i64 r.td := get_of (by rw [hT.out]; rfl)
  have tx : part T 0 33 = T := by unfold part; rw [Nat.zero_add, ← hs]; exact Array.extract_size
  have ty : part T 22 3 = #[.int .i64 r.tl, .int .i64 r.tu, .int .i64 r.td] := by rw [hT.out]; rfl
  go_enter Try.func59, Try.ntmps59
  go_wp2
  go_returns
  exact ⟨rfl, by (repeat' (first | (with_reducible exact Below.refl _ _) | (with_reducible assumption) | (with_reducible refine Below.setCell ?_ ?_ _) | (with_reducible refine Below.alloc ?_ ?_ _) | (with_reducible refine Below.drew ?_) | (with_reducible refine Up.base _ ?_ ?_) | (with_reducible exact LeSize.out) | exact LeSize.out | exact Nat.le_add_right_of_le LeSize.out | exact Nat.le_add_right_of_le (Nat.le_add_right_of_le LeSize.out) | (with_reducible exact Nat.le_refl _) | (simp; done) | (simp; omega)))⟩
set_option maxHeartbeats 4000000 in
theorem tclr_any (T : Array Value) (p : Phs) (r : Rn) (k : Cu) [hT : IsTick T p r k] (w : World) :
    Calls Try.prog 36 #[.agg T] w
      fun e w' => e = .returned (.agg #[.int .i64 (clrM p r).c, .int .i64 (clrM p r).t, .int .i64 (clrM p r).fs, .int .i64 (clrM p r).ft, .int .i64 (clrM p r).l, .int .i64 (clrM p r).p, .int .i64 (clrM p r).e, .bool (clrM p r).d, .bool (clrM p r).m, .int .i64 (clrM p r).tl, .int .i64 (clrM p r).tu, .int .i64 (clrM p r).td]) ∧ Below w.heap.size w w' := by
  have hs : T.size = 33 := by rw [hT.out]; rfl
  have t7 : T[7]'(by omega) = .int .i64 p.red := get_of (by rw [hT.out]; rfl)
  have t14 : T[14]'(by omega) = .int .i64 r.t := get_of (by rw [hT.out]; rfl)
  by_cases h : r.t < p.red
  · rw [show clrM p r = asM r 3 (moreM r.t) by simp [clrM, h]]
    go_enter Try.func36, Try.ntmps36
    go_wp2
    (refine wp_region_up_tail 6 (by kernel_rfl) (by kernel_rfl) ?_; simp only [List.take_succ_cons, List.take_zero, List.drop_succ_cons, List.drop_zero]; (repeat (first | (go_big_quiet_want; refine quiet_load rfl rfl ?_; simp only [Act.put, List.setIfInBounds_toArray, List.set_cons_succ, List.set_cons_zero]; go_big_quiet_on) | go_big_quiet_step ((first | (go_at_call 50; exact Up.pure (pmore_any _ _)) | (go_at_call 59; exact Up.calls (tas_any _ _ _ _ _ _ _)) | fail)))); refine wpQuiet_nil ?_; rintro _ ⟨u, rfl⟩)
    go_wp2
    go_returns
    exact ⟨rfl, by (repeat' (first | (with_reducible exact Below.refl _ _) | (with_reducible assumption) | (with_reducible refine Below.setCell ?_ ?_ _) | (with_reducible refine Below.alloc ?_ ?_ _) | (with_reducible refine Below.drew ?_) | (with_reducible refine Up.base _ ?_ ?_) | (with_reducible exact LeSize.out) | exact LeSize.out | exact Nat.le_add_right_of_le LeSize.out | exact Nat.le_add_right_of_le (Nat.le_add_right_of_le LeSize.out) | (with_reducible exact Nat.le_refl _) | (simp; done) | (simp; omega)))⟩
  · rw [show clrM p r = asM r 0 1 by simp [clrM, h]]
    go_enter Try.func36, Try.ntmps36
    go_wp2_with (first | (refine wpList_load_whole 74 _ rfl rfl rfl Try.underlying74 rfl (by rw [hs]; kernel_rfl) ?_; go_simp) | (go_at_call 59; refine (Up.run (tas_any _ _ _ _ _ _ _)).mono ?_; rintro e w' ⟨rfl, u, rfl⟩))
    go_returns
    exact ⟨rfl, by (repeat' (first | (with_reducible exact Below.refl _ _) | (with_reducible assumption) | (with_reducible refine Below.setCell ?_ ?_ _) | (with_reducible refine Below.alloc ?_ ?_ _) | (with_reducible refine Below.drew ?_) | (with_reducible refine Up.base _ ?_ ?_) | (with_reducible exact LeSize.out) | exact LeSize.out | exact Nat.le_add_right_of_le LeSize.out | exact Nat.le_add_right_of_le (Nat.le_add_right_of_le LeSize.out) | (with_reducible exact Nat.le_refl _) | (simp; done) | (simp; omega)))⟩
set_option maxHeartbeats 4000000 in
theorem tyel_any (T : Array Value) (p : Phs) (r : Rn) (k : Cu) [hT : IsTick T p r k] (w : World) :
    Calls Try.prog 35 #[.agg T] w
      fun e w' => e = .returned (.agg #[.int .i64 (yelM p r).c, .int .i64 (yelM p r).t, .int .i64 (yelM p r).fs, .int .i64 (yelM p r).ft, .int .i64 (yelM p r).l, .int .i64 (yelM p r).p, .int .i64 (yelM p r).e, .bool (yelM p r).d, .bool (yelM p r).m, .int .i64 (yelM p r).tl, .int .i64 (yelM p r).tu, .int .i64 (yelM p r).td]) ∧ Below w.heap.size w w' := by
  have hs : T.size = 33 := by rw [hT.out]; rfl
  have t6 : T[6]'(by omega) = .int .i64 p.yel := get_of (by rw [hT.out]; rfl)
  have t7 : T[7]'(by omega) = .int .i64 p.red := get_of (by rw [hT.out]; rfl)
  have t14 : T[14]'(by omega) = .int .i64 r.t := get_of (by rw [hT.out]; rfl)
  by_cases h : r.t < p.yel
  · rw [show yelM p r = asM r 2 (moreM r.t) by simp [yelM, h]]
    go_enter Try.func35, Try.ntmps35
    go_wp2
    (refine wp_region_up_tail 6 (by kernel_rfl) (by kernel_rfl) ?_; simp only [List.take_succ_cons, List.take_zero, List.drop_succ_cons, List.drop_zero]; (repeat (first | (go_big_quiet_want; refine quiet_load rfl rfl ?_; simp only [Act.put, List.setIfInBounds_toArray, List.set_cons_succ, List.set_cons_zero]; go_big_quiet_on) | go_big_quiet_step ((first | (go_at_call 50; exact Up.pure (pmore_any _ _)) | (go_at_call 59; exact Up.calls (tas_any _ _ _ _ _ _ _)) | fail)))); refine wpQuiet_nil ?_; rintro _ ⟨u, rfl⟩)
    go_wp2
    go_returns
    exact ⟨rfl, by (repeat' (first | (with_reducible exact Below.refl _ _) | (with_reducible assumption) | (with_reducible refine Below.setCell ?_ ?_ _) | (with_reducible refine Below.alloc ?_ ?_ _) | (with_reducible refine Below.drew ?_) | (with_reducible refine Up.base _ ?_ ?_) | (with_reducible exact LeSize.out) | exact LeSize.out | exact Nat.le_add_right_of_le LeSize.out | exact Nat.le_add_right_of_le (Nat.le_add_right_of_le LeSize.out) | (with_reducible exact Nat.le_refl _) | (simp; done) | (simp; omega)))⟩
  · by_cases h2 : 0 < p.red
    · rw [show yelM p r = asM r 3 1 by simp [yelM, h, h2]]
      go_enter Try.func35, Try.ntmps35
      go_wp2_with (first | (refine wpList_load_whole 74 _ rfl rfl rfl Try.underlying74 rfl (by rw [hs]; kernel_rfl) ?_; go_simp) | (go_at_call 59; refine (Up.run (tas_any _ _ _ _ _ _ _)).mono ?_; rintro e w' ⟨rfl, u, rfl⟩))
      go_returns
      exact ⟨rfl, by (repeat' (first | (with_reducible exact Below.refl _ _) | (with_reducible assumption) | (with_reducible refine Below.setCell ?_ ?_ _) | (with_reducible refine Below.alloc ?_ ?_ _) | (with_reducible refine Below.drew ?_) | (with_reducible refine Up.base _ ?_ ?_) | (with_reducible exact LeSize.out) | exact LeSize.out | exact Nat.le_add_right_of_le LeSize.out | exact Nat.le_add_right_of_le (Nat.le_add_right_of_le LeSize.out) | (with_reducible exact Nat.le_refl _) | (simp; done) | (simp; omega)))⟩
    · rw [show yelM p r = asM r 0 1 by simp [yelM, h, h2]]
      go_enter Try.func35, Try.ntmps35
      go_wp2_with (first | (refine wpList_load_whole 74 _ rfl rfl rfl Try.underlying74 rfl (by rw [hs]; kernel_rfl) ?_; go_simp) | (go_at_call 59; refine (Up.run (tas_any _ _ _ _ _ _ _)).mono ?_; rintro e w' ⟨rfl, u, rfl⟩))
      go_returns
      exact ⟨rfl, by (repeat' (first | (with_reducible exact Below.refl _ _) | (with_reducible assumption) | (with_reducible refine Below.setCell ?_ ?_ _) | (with_reducible refine Below.alloc ?_ ?_ _) | (with_reducible refine Below.drew ?_) | (with_reducible refine Up.base _ ?_ ?_) | (with_reducible exact LeSize.out) | exact LeSize.out | exact Nat.le_add_right_of_le LeSize.out | exact Nat.le_add_right_of_le (Nat.le_add_right_of_le LeSize.out) | (with_reducible exact Nat.le_refl _) | (simp; done) | (simp; omega)))⟩
end Go.Proofs.Ytmapdkhcfejkaaa
