/- The contract of package phase's red. -/
import Derived.Test.YtmapdkhcfejkaaaPhT
import Derived.Test.YtmapdkhcfejkaaaQld
import Derived.Test.YtmapdkhcfejkaaaFree
namespace Go.Proofs.Ytmapdkhcfejkaaa
open Go.RowKit
set_option linter.unusedVariables false

theorem q_ltick {W : World} {K : Act → Prop} {op : Oper} {a : Act} {x : Operand} {b : Nat} {C : Array Value} {t : TypeId} {p : Phs} {r : Rn} {k : Cu} [hT : IsTick C p r k] (ho : op.op = .load 74 x) (hx : a.eval x = .pointer (some ⟨b, 0, none⟩)) [h : IsBlk W b C t]
    (hk : K (a.put op.dst (.agg C))) : op.quiet Try.prog a (fun w' => ∃ u : Up W, w' = u.w) K := quiet_load_at ho hx (fun u => load_all) hk
theorem z_ltick {W : World} {Z : World → Prop} {K : Act → Prop} {op : Oper} {a : Act} {x : Operand} {b : Nat} {C : Array Value} {t : TypeId} {p : Phs} {r : Rn} {k : Cu} [hT : IsTick C p r k] (ho : op.op = .load 74 x) (hx : a.eval x = .pointer (some ⟨b, 0, none⟩)) [h : IsBlk W b C t]
    (hk : K (a.put op.dst (.agg C))) : op.quiet Try.prog a (fun w' => ∃ u : UpZ W Z, w' = u.up.w) K := quiet_load_z ho hx (fun u => load_all) hk
theorem l_ltick {ops : Array Oper} {rest : List Oper} {op : Oper} {a : Act} {w : World} {Q : Exit → Act → World → Prop} {x : Operand} {b : Nat} {C : Array Value} {t : TypeId} {p : Phs} {r : Rn} {k : Cu} [hT : IsTick C p r k] (hgd : op.guard = none) (ho : op.op = .load 74 x) (hx : a.eval x = .pointer (some ⟨b, 0, none⟩)) [h : IsBlk w b C t]
    (hk : wpList Try.prog ops Q rest (a.put op.dst (.agg C)) w) : wpList Try.prog ops Q (op :: rest) a w := wpList_load_at hgd ho hx load_all hk
theorem y_ltick {ops : Array Oper} {S : World → Prop} {op : Oper} {a : Act} {x : Operand} {b : Nat} {C : Array Value} {t : TypeId} {p : Phs} {r : Rn} {k : Cu} [hT : IsTick C p r k] (hw : Region.wanted op (yielded ops a.tmps) = true) (ho : op.op = .load 74 x) (hx : a.eval x = .pointer (some ⟨b, 0, none⟩)) (hS : ∀ w, S w → IsBlk w b C t) :
    YieldsIf Try.prog ops S op (.agg C) a := yieldsIf_load_at hw ho hx (fun w hs => by haveI := hS w hs; exact load_all)
theorem q_lphs {W : World} {K : Act → Prop} {op : Oper} {a : Act} {x : Operand} {b : Nat} {C : Array Value} {t : TypeId} {p : Phs} {r : Rn} {k : Cu} [hT : IsTick C p r k] (ho : op.op = .load 24 x) (hx : a.eval x = .pointer (some ⟨b, 0, none⟩)) [h : IsBlk W b C t]
    (hk : K (a.put op.dst (.agg #[.bool p.on, .int .i64 p.min, .int .i64 p.gap, .int .i64 p.max, .int .i64 p.top, .int .i64 p.step, .int .i64 p.yel, .int .i64 p.red, .int .i64 p.walk, .int .i64 p.blinks, .int .i64 p.recl, .bool p.lock, .bool p.rest]))) : op.quiet Try.prog a (fun w' => ∃ u : Up W, w' = u.w) K := quiet_load_at ho hx (fun u => load_phs) hk
theorem z_lphs {W : World} {Z : World → Prop} {K : Act → Prop} {op : Oper} {a : Act} {x : Operand} {b : Nat} {C : Array Value} {t : TypeId} {p : Phs} {r : Rn} {k : Cu} [hT : IsTick C p r k] (ho : op.op = .load 24 x) (hx : a.eval x = .pointer (some ⟨b, 0, none⟩)) [h : IsBlk W b C t]
    (hk : K (a.put op.dst (.agg #[.bool p.on, .int .i64 p.min, .int .i64 p.gap, .int .i64 p.max, .int .i64 p.top, .int .i64 p.step, .int .i64 p.yel, .int .i64 p.red, .int .i64 p.walk, .int .i64 p.blinks, .int .i64 p.recl, .bool p.lock, .bool p.rest]))) : op.quiet Try.prog a (fun w' => ∃ u : UpZ W Z, w' = u.up.w) K := quiet_load_z ho hx (fun u => load_phs) hk
theorem l_lphs {ops : Array Oper} {rest : List Oper} {op : Oper} {a : Act} {w : World} {Q : Exit → Act → World → Prop} {x : Operand} {b : Nat} {C : Array Value} {t : TypeId} {p : Phs} {r : Rn} {k : Cu} [hT : IsTick C p r k] (hgd : op.guard = none) (ho : op.op = .load 24 x) (hx : a.eval x = .pointer (some ⟨b, 0, none⟩)) [h : IsBlk w b C t]
    (hk : wpList Try.prog ops Q rest (a.put op.dst (.agg #[.bool p.on, .int .i64 p.min, .int .i64 p.gap, .int .i64 p.max, .int .i64 p.top, .int .i64 p.step, .int .i64 p.yel, .int .i64 p.red, .int .i64 p.walk, .int .i64 p.blinks, .int .i64 p.recl, .bool p.lock, .bool p.rest])) w) : wpList Try.prog ops Q (op :: rest) a w := wpList_load_at hgd ho hx load_phs hk
theorem y_lphs {ops : Array Oper} {S : World → Prop} {op : Oper} {a : Act} {x : Operand} {b : Nat} {C : Array Value} {t : TypeId} {p : Phs} {r : Rn} {k : Cu} [hT : IsTick C p r k] (hw : Region.wanted op (yielded ops a.tmps) = true) (ho : op.op = .load 24 x) (hx : a.eval x = .pointer (some ⟨b, 0, none⟩)) (hS : ∀ w, S w → IsBlk w b C t) :
    YieldsIf Try.prog ops S op (.agg #[.bool p.on, .int .i64 p.min, .int .i64 p.gap, .int .i64 p.max, .int .i64 p.top, .int .i64 p.step, .int .i64 p.yel, .int .i64 p.red, .int .i64 p.walk, .int .i64 p.blinks, .int .i64 p.recl, .bool p.lock, .bool p.rest]) a := yieldsIf_load_at hw ho hx (fun w hs => by haveI := hS w hs; exact load_phs)
theorem q_lrun {W : World} {K : Act → Prop} {op : Oper} {a : Act} {x : Operand} {b : Nat} {C : Array Value} {t : TypeId} {p : Phs} {r : Rn} {k : Cu} [hT : IsTick C p r k] (ho : op.op = .load 41 x) (hx : a.eval x = .pointer (some ⟨b, 13, none⟩)) [h : IsBlk W b C t]
    (hk : K (a.put op.dst (.agg #[.int .i64 r.c, .int .i64 r.t, .int .i64 r.fs, .int .i64 r.ft, .int .i64 r.l, .int .i64 r.p, .int .i64 r.e, .bool r.d, .bool r.m, .int .i64 r.tl, .int .i64 r.tu, .int .i64 r.td]))) : op.quiet Try.prog a (fun w' => ∃ u : Up W, w' = u.w) K := quiet_load_at ho hx (fun u => load_run) hk
theorem z_lrun {W : World} {Z : World → Prop} {K : Act → Prop} {op : Oper} {a : Act} {x : Operand} {b : Nat} {C : Array Value} {t : TypeId} {p : Phs} {r : Rn} {k : Cu} [hT : IsTick C p r k] (ho : op.op = .load 41 x) (hx : a.eval x = .pointer (some ⟨b, 13, none⟩)) [h : IsBlk W b C t]
    (hk : K (a.put op.dst (.agg #[.int .i64 r.c, .int .i64 r.t, .int .i64 r.fs, .int .i64 r.ft, .int .i64 r.l, .int .i64 r.p, .int .i64 r.e, .bool r.d, .bool r.m, .int .i64 r.tl, .int .i64 r.tu, .int .i64 r.td]))) : op.quiet Try.prog a (fun w' => ∃ u : UpZ W Z, w' = u.up.w) K := quiet_load_z ho hx (fun u => load_run) hk
theorem l_lrun {ops : Array Oper} {rest : List Oper} {op : Oper} {a : Act} {w : World} {Q : Exit → Act → World → Prop} {x : Operand} {b : Nat} {C : Array Value} {t : TypeId} {p : Phs} {r : Rn} {k : Cu} [hT : IsTick C p r k] (hgd : op.guard = none) (ho : op.op = .load 41 x) (hx : a.eval x = .pointer (some ⟨b, 13, none⟩)) [h : IsBlk w b C t]
    (hk : wpList Try.prog ops Q rest (a.put op.dst (.agg #[.int .i64 r.c, .int .i64 r.t, .int .i64 r.fs, .int .i64 r.ft, .int .i64 r.l, .int .i64 r.p, .int .i64 r.e, .bool r.d, .bool r.m, .int .i64 r.tl, .int .i64 r.tu, .int .i64 r.td])) w) : wpList Try.prog ops Q (op :: rest) a w := wpList_load_at hgd ho hx load_run hk
theorem y_lrun {ops : Array Oper} {S : World → Prop} {op : Oper} {a : Act} {x : Operand} {b : Nat} {C : Array Value} {t : TypeId} {p : Phs} {r : Rn} {k : Cu} [hT : IsTick C p r k] (hw : Region.wanted op (yielded ops a.tmps) = true) (ho : op.op = .load 41 x) (hx : a.eval x = .pointer (some ⟨b, 13, none⟩)) (hS : ∀ w, S w → IsBlk w b C t) :
    YieldsIf Try.prog ops S op (.agg #[.int .i64 r.c, .int .i64 r.t, .int .i64 r.fs, .int .i64 r.ft, .int .i64 r.l, .int .i64 r.p, .int .i64 r.e, .bool r.d, .bool r.m, .int .i64 r.tl, .int .i64 r.tu, .int .i64 r.td]) a := yieldsIf_load_at hw ho hx (fun w hs => by haveI := hS w hs; exact load_run)
theorem q_lfoot {W : World} {K : Act → Prop} {op : Oper} {a : Act} {x : Operand} {b : Nat} {C : Array Value} {t : TypeId} {p : Phs} {r : Rn} {k : Cu} [hT : IsTick C p r k] (ho : op.op = .load 37 x) (hx : a.eval x = .pointer (some ⟨b, 15, none⟩)) [h : IsBlk W b C t]
    (hk : K (a.put op.dst (.agg #[.int .i64 r.fs, .int .i64 r.ft]))) : op.quiet Try.prog a (fun w' => ∃ u : Up W, w' = u.w) K := quiet_load_at ho hx (fun u => load_foot) hk
theorem z_lfoot {W : World} {Z : World → Prop} {K : Act → Prop} {op : Oper} {a : Act} {x : Operand} {b : Nat} {C : Array Value} {t : TypeId} {p : Phs} {r : Rn} {k : Cu} [hT : IsTick C p r k] (ho : op.op = .load 37 x) (hx : a.eval x = .pointer (some ⟨b, 15, none⟩)) [h : IsBlk W b C t]
    (hk : K (a.put op.dst (.agg #[.int .i64 r.fs, .int .i64 r.ft]))) : op.quiet Try.prog a (fun w' => ∃ u : UpZ W Z, w' = u.up.w) K := quiet_load_z ho hx (fun u => load_foot) hk
theorem l_lfoot {ops : Array Oper} {rest : List Oper} {op : Oper} {a : Act} {w : World} {Q : Exit → Act → World → Prop} {x : Operand} {b : Nat} {C : Array Value} {t : TypeId} {p : Phs} {r : Rn} {k : Cu} [hT : IsTick C p r k] (hgd : op.guard = none) (ho : op.op = .load 37 x) (hx : a.eval x = .pointer (some ⟨b, 15, none⟩)) [h : IsBlk w b C t]
    (hk : wpList Try.prog ops Q rest (a.put op.dst (.agg #[.int .i64 r.fs, .int .i64 r.ft])) w) : wpList Try.prog ops Q (op :: rest) a w := wpList_load_at hgd ho hx load_foot hk
theorem y_lfoot {ops : Array Oper} {S : World → Prop} {op : Oper} {a : Act} {x : Operand} {b : Nat} {C : Array Value} {t : TypeId} {p : Phs} {r : Rn} {k : Cu} [hT : IsTick C p r k] (hw : Region.wanted op (yielded ops a.tmps) = true) (ho : op.op = .load 37 x) (hx : a.eval x = .pointer (some ⟨b, 15, none⟩)) (hS : ∀ w, S w → IsBlk w b C t) :
    YieldsIf Try.prog ops S op (.agg #[.int .i64 r.fs, .int .i64 r.ft]) a := yieldsIf_load_at hw ho hx (fun w hs => by haveI := hS w hs; exact load_foot)
instance instApart0 (b : Nat) (w : World) [h : LeSize (b + 1) w] : Apart b w.heap.size := ⟨by have := h.out; omega⟩
instance instApart1 (b : Nat) (w : World) [h : LeSize b w] : Apart b (w.heap.size + 1) := ⟨by have := h.out; omega⟩
instance instApart2 (b : Nat) (w : World) [h : LeSize b w] : Apart b (w.heap.size + 1 + 1) := ⟨by have := h.out; omega⟩
instance instApart3 (n : Nat) : Apart n (n + 1) := ⟨by omega⟩
instance instApart4 (n : Nat) : Apart n (n + 1 + 1) := ⟨by omega⟩
instance instApart5 (n : Nat) : Apart (n + 1) n := ⟨by omega⟩
instance instApart6 (n : Nat) : Apart (n + 1 + 1) n := ⟨by omega⟩
instance instApart7 (n : Nat) : Apart n (n + 1 + 1 + 1) := ⟨by omega⟩
instance instApart8 (n : Nat) : Apart (n + 1 + 1 + 1) n := ⟨by omega⟩
def redM (p : Phs) (r : Rn) (k : Cu) : Rn :=
  if k.st = true then ⟨1, 1, (ftM p.walk p.blinks 0 0 k.pu).1, (ftM p.walk p.blinks 0 0 k.pu).2, p.gap, 0, 0, false, false, r.tl, r.tu, r.td⟩ else asM r 0 (moreM r.t)
attribute [local go_sem] load_one
set_option maxHeartbeats 4000000 in
set_option maxRecDepth 100000 in
theorem tred_any (T : Array Value) (p : Phs) (r : Rn) (k : Cu) [hT : IsTick T p r k] (w : World) :
    Calls Try.prog 33 #[.agg T] w
      fun e w' => e = .returned (.agg #[.int .i64 (redM p r k).c, .int .i64 (redM p r k).t, .int .i64 (redM p r k).fs, .int .i64 (redM p r k).ft, .int .i64 (redM p r k).l, .int .i64 (redM p r k).p, .int .i64 (redM p r k).e, .bool (redM p r k).d, .bool (redM p r k).m, .int .i64 (redM p r k).tl, .int .i64 (redM p r k).tu, .int .i64 (redM p r k).td]) ∧ Below w.heap.size w w' := by
  have hs : T.size = 33 := by rw [hT.out]; rfl
  have t2 : T[2]'(by omega) = .int .i64 p.gap := get_of (by rw [hT.out]; rfl)
  have t14 : T[14]'(by omega) = .int .i64 r.t := get_of (by rw [hT.out]; rfl)
  have t25 : T[25]'(by omega) = .bool k.st := get_of (by rw [hT.out]; rfl)
  have t28 : T[28]'(by omega) = .bool k.pu := get_of (by rw [hT.out]; rfl)
  cases h : k.st
  · rw [h] at t25
    rw [show redM p r k = asM r 0 (moreM r.t) by simp [redM, h]]
    clear h
    go_enter Try.func33, Try.ntmps33
    go_wp2
    (refine wp_region_up_tail 6 (by kernel_rfl) (by kernel_rfl) ?_; simp only [List.take_succ_cons, List.take_zero, List.drop_succ_cons, List.drop_zero]; (repeat (first | (go_big_quiet_want; refine q_ltick rfl rfl ?_; simp only [Act.put, List.setIfInBounds_toArray, List.set_cons_succ, List.set_cons_zero]; go_big_quiet_on) | go_big_quiet_step ((first | (go_at_call 50; exact Up.pure (pmore_any _ _)) | (go_at_call 59; exact Up.calls (tas_any _ _ _ _ _ _ _)) | fail)))); refine wpQuiet_nil ?_; rintro _ ⟨u, rfl⟩)
    go_wp2
    go_returns
    exact ⟨rfl, by (repeat' (first | (with_reducible exact Below.refl _ _) | (with_reducible assumption) | (with_reducible refine Below.setCell ?_ ?_ _) | (with_reducible refine Below.alloc ?_ ?_ _) | (with_reducible refine Below.drew ?_) | (with_reducible refine Up.base _ ?_ ?_) | (with_reducible exact LeSize.out) | exact LeSize.out | exact Nat.le_add_right_of_le LeSize.out | exact Nat.le_add_right_of_le (Nat.le_add_right_of_le LeSize.out) | (with_reducible exact Nat.le_refl _) | (simp; done) | (simp; omega)))⟩
  · rw [h] at t25
    rw [show redM p r k = ⟨1, 1, (ftM p.walk p.blinks 0 0 k.pu).1, (ftM p.walk p.blinks 0 0 k.pu).2, p.gap, 0, 0, false, false, r.tl, r.tu, r.td⟩ by simp [redM, h]]
    clear h
    go_enter Try.func33, Try.ntmps33
    go_wp2_with (first | (refine l_ltick rfl rfl rfl ?_; go_simp) | (go_at_call 59; refine (Up.run (tas_any _ _ _ _ _ _ _)).mono ?_; rintro e w' ⟨rfl, u, rfl⟩))
    (refine wp_region_noPanic ?_; refine wp_region_up_held2 (fun w' => IsBlk w' w.heap.size T 74) [7, 8, 9] [0, 1, 2, 3, 4, 5, 6, 10] [] [11, 12, 13] (by kernel_rfl) (by kernel_rfl) (fun _ _ _ _ _ h => (h : False).elim) (fun u => inferInstance) ?_; simp only [pickO, List.filterMap_cons, List.filterMap_nil, List.getElem?_cons_succ, List.getElem?_cons_zero]; show wpReads _ _ _ _ [_, _, _] _; (iterate 3 (first | (refine ⟨_, y_lphs rfl rfl rfl (fun _ h => h), ?_⟩; simp only [Act.put, List.setIfInBounds_toArray, List.set_cons_succ, List.set_cons_zero]) | (apply Exists.intro; refine ⟨Or.inl ⟨rfl, fun w hS => ?_⟩, ?_⟩; (focus (first | (simp [go_sem, *]; rfl) | (simp [go_sem]; rfl))); simp only [Act.put, List.setIfInBounds_toArray, List.set_cons_succ, List.set_cons_zero]) | (apply Exists.intro; refine ⟨Or.inr ⟨rfl, rfl⟩, ?_⟩; simp only [Act.put, List.setIfInBounds_toArray, List.set_cons_succ, List.set_cons_zero]))); refine wpReads_nil ?_; show wpQuiet _ _ _ _ [_, _, _, _, _, _, _, _] _; (repeat (first | (go_big_quiet_want; refine q_lphs rfl rfl ?_; simp only [Act.put, List.setIfInBounds_toArray, List.set_cons_succ, List.set_cons_zero]; go_big_quiet_on) | go_big_quiet_step ((first | (go_at_call 52; exact Up.calls (fstep_any _ _ _ _ _ _ _ _ _ _ _ _ _ _ _ _ _)) | fail)))); refine wpQuiet_nil ?_; refine wpReads_nil ?_; intro u; show wpListH _ _ _ _ [_, _, _] _ _; (repeat (refine wpListH_step rfl (fun K hK => ?_); go_simp; refine hK _ _ ?_ ?_; (focus exact inferInstance); clear hK K)); refine NoPanic.normal ?_)
    go_wp2
    go_returns
    exact ⟨rfl, by (repeat' (first | (with_reducible exact Below.refl _ _) | (with_reducible assumption) | (with_reducible refine Below.setCell ?_ ?_ _) | (with_reducible refine Below.alloc ?_ ?_ _) | (with_reducible refine Below.drew ?_) | (with_reducible refine Up.base _ ?_ ?_) | (with_reducible exact LeSize.out) | exact LeSize.out | exact Nat.le_add_right_of_le LeSize.out | exact Nat.le_add_right_of_le (Nat.le_add_right_of_le LeSize.out) | (with_reducible exact Nat.le_refl _) | (simp; done) | (simp; omega)))⟩
end Go.Proofs.Ytmapdkhcfejkaaa
