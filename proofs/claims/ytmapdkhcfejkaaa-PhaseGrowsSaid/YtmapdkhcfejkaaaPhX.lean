/- The contracts of package phase: Step, Held, Begin. -/
import Derived.Test.YtmapdkhcfejkaaaPhW
namespace Go.Proofs.Ytmapdkhcfejkaaa
open Go.RowKit
set_option linter.unusedVariables false

instance instIsTick (p : Phs) (r : Rn) (k : Cu) : IsTick (TickA p r k) p r k := ⟨rfl⟩
def PhA (p : Phs) : Value := .agg #[.bool p.on, .int .i64 p.min, .int .i64 p.gap, .int .i64 p.max, .int .i64 p.top, .int .i64 p.step, .int .i64 p.yel, .int .i64 p.red, .int .i64 p.walk, .int .i64 p.blinks, .int .i64 p.recl, .bool p.lock, .bool p.rest]
def CuA (k : Cu) : Value := .agg #[.bool k.st, .bool k.en, .bool k.he, .bool k.pu, .bool k.pr, .bool k.ho, .bool k.ea, .bool k.cu]
theorem wpList_build_tick {ops : Array Oper} {rest : List Oper} {op : Oper} {a : Act} {w : World} {Q : Exit → Act → World → Prop} {x y z : Operand} {p : Phs} {r : Rn} {k : Cu} (hgd : op.guard = none) (ho : op.op = .build 74 #[(0, x), (1, y), (2, z)])
    (hx : a.eval x = PhA p) (hy : a.eval y = .agg (RnA r)) (hz : a.eval z = CuA k)
    (h : wpList Try.prog ops Q rest (a.put op.dst (.agg (TickA p r k))) w) : wpList Try.prog ops Q (op :: rest) a w := by
  have e : Sem.run Try.prog (execOp a.eval op) w = .ok (.value (.agg (TickA p r k))) w := by
    unfold execOp
    simp only [ho, List.map_toArray, List.map_cons, List.map_nil, hx, hy, hz]
    kernel_rfl
  refine wpList_plain hgd fun _ hK => ?_
  unfold Oper.wp
  rw [e]
  exact hK _ _ h
theorem sets_new {w : World} {Z T : Array Value} {t : TypeId} (hs : T.size = Z.size) : (w.alloc (.cells Z t)).setCells w.heap.size 0 T.toList = w.alloc (.cells T t) := by
  have key : ∀ (vs : List Value) (C : Array Value) (o : Nat), (w.alloc (.cells C t)).setCells w.heap.size o vs = w.alloc (.cells (spl C o vs) t) := by
    intro vs
    induction vs with
    | nil => intro C o; rfl
    | cons v vs ih =>
      intro C o
      rw [World.setCells, spl, ← ih]
      congr 1
      exact World.setCell_alloc_at _ _ _ _ _ rfl
  rw [key]
  congr 2
  apply Array.ext_getElem?
  intro i
  rw [spl_get]
  by_cases hi : i < Z.size
  · rw [if_pos ⟨Nat.zero_le _, by simp; omega, hi⟩]; simp
  · rw [if_neg (by omega), Array.getElem?_eq_none (by omega), Array.getElem?_eq_none (by omega)]
theorem wpList_store_new {ops : Array Oper} {rest : List Oper} {op : Oper} {a : Act} {w : World} {Q : Exit → Act → World → Prop} (ty : TypeId) {x y : Operand} {Z T : Array Value} {t : TypeId} {b : Nat} (hgd : op.guard = none) (ho : op.op = .store ty x y) (hx : a.eval x = .pointer (some ⟨b, 0, none⟩)) (hy : a.eval y = .agg T)
    (hb : SizeIs b w) (hs : T.size = Z.size) (hi : (Try.prog.info? ty).map (·.size) = some T.size) (h1 : T.all (·.oneCell') = true)
    (h : wpList Try.prog ops Q rest (a.put op.dst undef) (w.alloc (.cells T t))) : wpList Try.prog ops Q (op :: rest) a (w.alloc (.cells Z t)) := by
  have hb := hb.out
  subst hb
  refine wpList_store_part (o := 0) (C := Z) (t := t) ty hgd ho hx hy (by omega) hi h1 ?_
  rw [sets_new hs]
  exact h
def stepM (p : Phs) (r : Rn) (k : Cu) : Rn := if r.c = 1 then grnR p r k else if r.c = 2 then yelM p r else if r.c = 3 then clrM p r else redM p r k
def heldM (p : Phs) (r : Rn) (k : Cu) : Bool := (r.c == 1) && !k.en && k.ho && dueM p (goR p r k) k
def beginM (p : Phs) : Rn := ⟨0, 9999, 0, 0, 0, 0, 0, false, false, p.max, 0, 0⟩
theorem tick_size (p : Phs) (r : Rn) (k : Cu) : (TickA p r k).size = 33 := rfl
theorem tick_cells (p : Phs) (r : Rn) (k : Cu) : (TickA p r k).all (·.oneCell') = true := by kernel_rfl
set_option maxHeartbeats 4000000 in
set_option maxRecDepth 100000 in
theorem pstep_any (p : Phs) (r : Rn) (k : Cu) (w : World) (h1 : InKind .i64 p.max) (h2 : InKind .i64 p.top) (h3 : InKind .i64 r.tl) (h4 : InKind .i64 p.step) :
    Calls Try.prog 17 #[PhA p, .agg (RnA r), CuA k] w
      fun e w' => e = .returned (.agg #[.int .i64 (stepM p r k).c, .int .i64 (stepM p r k).t, .int .i64 (stepM p r k).fs, .int .i64 (stepM p r k).ft, .int .i64 (stepM p r k).l, .int .i64 (stepM p r k).p, .int .i64 (stepM p r k).e, .bool (stepM p r k).d, .bool (stepM p r k).m, .int .i64 (stepM p r k).tl, .int .i64 (stepM p r k).tu, .int .i64 (stepM p r k).td]) ∧ Below w.heap.size w w' := by
  by_cases c1 : r.c = 1
  · rw [show stepM p r k = grnR p r k by simp [stepM, c1]]
    unfold PhA RnA CuA
    rw [c1]
    go_enter Try.func17, Try.ntmps17
    go_wp2_with (first | (refine wpList_build_tick (p := p) (r := r) (k := k) rfl rfl rfl (by unfold RnA; rw [c1]; rfl) rfl ?_; go_simp) | (refine wpList_store_new 74 rfl rfl rfl rfl inferInstance (by rw [tick_size]; rfl) (by rw [tick_size]; kernel_rfl) (tick_cells _ _ _) ?_; go_simp) | (refine l_ltick rfl rfl rfl ?_; go_simp) | (go_at_call 34; refine (Up.run (tgreen_any _ _ _ _ _ (by assumption) (by assumption) (by assumption) (by assumption))).mono ?_; rintro e w' ⟨rfl, u, rfl⟩))
    go_returns
    exact ⟨rfl, by (repeat' (first | (with_reducible exact Below.refl _ _) | (with_reducible assumption) | (with_reducible refine Below.setCell ?_ ?_ _) | (with_reducible refine Below.alloc ?_ ?_ _) | (with_reducible refine Below.drew ?_) | (with_reducible refine Up.base _ ?_ ?_) | (with_reducible exact LeSize.out) | exact LeSize.out | exact Nat.le_add_right_of_le LeSize.out | exact Nat.le_add_right_of_le (Nat.le_add_right_of_le LeSize.out) | (with_reducible exact Nat.le_refl _) | (simp; done) | (simp; omega)))⟩
  by_cases c2 : r.c = 2
  · rw [show stepM p r k = yelM p r by simp [stepM, c2]]
    unfold PhA RnA CuA
    rw [c2]
    go_enter Try.func17, Try.ntmps17
    go_wp2_with (first | (refine wpList_build_tick (p := p) (r := r) (k := k) rfl rfl rfl (by unfold RnA; rw [c2]; rfl) rfl ?_; go_simp) | (refine wpList_store_new 74 rfl rfl rfl rfl inferInstance (by rw [tick_size]; rfl) (by rw [tick_size]; kernel_rfl) (tick_cells _ _ _) ?_; go_simp) | (refine l_ltick rfl rfl rfl ?_; go_simp) | (go_at_call 35; refine (Up.run (tyel_any _ _ _ _ _)).mono ?_; rintro e w' ⟨rfl, u, rfl⟩))
    go_returns
    exact ⟨rfl, by (repeat' (first | (with_reducible exact Below.refl _ _) | (with_reducible assumption) | (with_reducible refine Below.setCell ?_ ?_ _) | (with_reducible refine Below.alloc ?_ ?_ _) | (with_reducible refine Below.drew ?_) | (with_reducible refine Up.base _ ?_ ?_) | (with_reducible exact LeSize.out) | exact LeSize.out | exact Nat.le_add_right_of_le LeSize.out | exact Nat.le_add_right_of_le (Nat.le_add_right_of_le LeSize.out) | (with_reducible exact Nat.le_refl _) | (simp; done) | (simp; omega)))⟩
  by_cases c3 : r.c = 3
  · rw [show stepM p r k = clrM p r by simp [stepM, c3]]
    unfold PhA RnA CuA
    rw [c3]
    go_enter Try.func17, Try.ntmps17
    go_wp2_with (first | (refine wpList_build_tick (p := p) (r := r) (k := k) rfl rfl rfl (by unfold RnA; rw [c3]; rfl) rfl ?_; go_simp) | (refine wpList_store_new 74 rfl rfl rfl rfl inferInstance (by rw [tick_size]; rfl) (by rw [tick_size]; kernel_rfl) (tick_cells _ _ _) ?_; go_simp) | (refine l_ltick rfl rfl rfl ?_; go_simp) | (go_at_call 36; refine (Up.run (tclr_any _ _ _ _ _)).mono ?_; rintro e w' ⟨rfl, u, rfl⟩))
    go_returns
    exact ⟨rfl, by (repeat' (first | (with_reducible exact Below.refl _ _) | (with_reducible assumption) | (with_reducible refine Below.setCell ?_ ?_ _) | (with_reducible refine Below.alloc ?_ ?_ _) | (with_reducible refine Below.drew ?_) | (with_reducible refine Up.base _ ?_ ?_) | (with_reducible exact LeSize.out) | exact LeSize.out | exact Nat.le_add_right_of_le LeSize.out | exact Nat.le_add_right_of_le (Nat.le_add_right_of_le LeSize.out) | (with_reducible exact Nat.le_refl _) | (simp; done) | (simp; omega)))⟩
  have n1 : (r.c == 1) = false := by simp [c1]
  have n2 : (r.c == 2) = false := by simp [c2]
  have n3 : (r.c == 3) = false := by simp [c3]
  rw [show stepM p r k = redM p r k by simp [stepM, c1, c2, c3]]
  clear c1 c2 c3
  unfold PhA RnA CuA
  go_enter Try.func17, Try.ntmps17
  go_wp2_with (first | (refine wpList_build_tick (p := p) (r := r) (k := k) rfl rfl rfl rfl rfl ?_; go_simp) | (refine wpList_store_new 74 rfl rfl rfl rfl inferInstance (by rw [tick_size]; rfl) (by rw [tick_size]; kernel_rfl) (tick_cells _ _ _) ?_; go_simp) | (refine l_ltick rfl rfl rfl ?_; go_simp) | (go_at_call 33; refine (Up.run (tred_any _ _ _ _ _)).mono ?_; rintro e w' ⟨rfl, u, rfl⟩))
  go_returns
  exact ⟨rfl, by (repeat' (first | (with_reducible exact Below.refl _ _) | (with_reducible assumption) | (with_reducible refine Below.setCell ?_ ?_ _) | (with_reducible refine Below.alloc ?_ ?_ _) | (with_reducible refine Below.drew ?_) | (with_reducible refine Up.base _ ?_ ?_) | (with_reducible exact LeSize.out) | exact LeSize.out | exact Nat.le_add_right_of_le LeSize.out | exact Nat.le_add_right_of_le (Nat.le_add_right_of_le LeSize.out) | (with_reducible exact Nat.le_refl _) | (simp; done) | (simp; omega)))⟩
set_option maxHeartbeats 4000000 in
set_option maxRecDepth 100000 in
theorem pheld_any (p : Phs) (r : Rn) (k : Cu) (w : World) :
    Calls Try.prog 15 #[PhA p, .agg (RnA r), CuA k] w fun e w' => e = .returned (.bool (heldM p r k)) ∧ Below w.heap.size w w' := by
  cases n1 : (r.c == 1)
  · have n1' : (r.c != 1) = true := by simpa using n1
    unfold PhA RnA CuA
    go_enter Try.func15, Try.ntmps15
    go_wp2
    go_ret
    exact ⟨ret_bool (by simp [heldM, n1]), by (repeat' (first | (with_reducible exact Below.refl _ _) | (with_reducible assumption) | (with_reducible refine Below.setCell ?_ ?_ _) | (with_reducible refine Below.alloc ?_ ?_ _) | (with_reducible refine Below.drew ?_) | (with_reducible refine Up.base _ ?_ ?_) | (with_reducible exact LeSize.out) | exact LeSize.out | exact Nat.le_add_right_of_le LeSize.out | exact Nat.le_add_right_of_le (Nat.le_add_right_of_le LeSize.out) | (with_reducible exact Nat.le_refl _) | (simp; done) | (simp; omega)))⟩
  · have c1 : r.c = 1 := by simpa using n1
    cases hen : k.en
    · cases hho : k.ho
      · unfold PhA RnA CuA
        rw [c1, hen, hho]
        go_enter Try.func15, Try.ntmps15
        go_wp2
        go_ret
        exact ⟨ret_bool (by simp [heldM, hho]), by (repeat' (first | (with_reducible exact Below.refl _ _) | (with_reducible assumption) | (with_reducible refine Below.setCell ?_ ?_ _) | (with_reducible refine Below.alloc ?_ ?_ _) | (with_reducible refine Below.drew ?_) | (with_reducible refine Up.base _ ?_ ?_) | (with_reducible exact LeSize.out) | exact LeSize.out | exact Nat.le_add_right_of_le LeSize.out | exact Nat.le_add_right_of_le (Nat.le_add_right_of_le LeSize.out) | (with_reducible exact Nat.le_refl _) | (simp; done) | (simp; omega)))⟩
      · rw [show heldM p r k = dueM p (goR p r k) k by simp [heldM, n1, hen, hho]]
        unfold PhA RnA CuA
        rw [c1, hen, hho]
        go_enter Try.func15, Try.ntmps15
        go_wp2_with (first | (refine wpList_build_tick (p := p) (r := r) (k := k) rfl rfl rfl (by unfold RnA; rw [c1]; rfl) (by unfold CuA; rw [hen, hho]; rfl) ?_; go_simp) | (go_at_call 31; refine (Up.run (goes_any _ _ _ _ _)).mono ?_; rintro e w' ⟨rfl, u, rfl⟩))
        go_ret
        exact ⟨rfl, by (repeat' (first | (with_reducible exact Below.refl _ _) | (with_reducible assumption) | (with_reducible refine Below.setCell ?_ ?_ _) | (with_reducible refine Below.alloc ?_ ?_ _) | (with_reducible refine Below.drew ?_) | (with_reducible refine Up.base _ ?_ ?_) | (with_reducible exact LeSize.out) | exact LeSize.out | exact Nat.le_add_right_of_le LeSize.out | exact Nat.le_add_right_of_le (Nat.le_add_right_of_le LeSize.out) | (with_reducible exact Nat.le_refl _) | (simp; done) | (simp; omega)))⟩
    · unfold PhA RnA CuA
      rw [c1, hen]
      go_enter Try.func15, Try.ntmps15
      go_wp2
      go_ret
      exact ⟨ret_bool (by simp [heldM, hen]), by (repeat' (first | (with_reducible exact Below.refl _ _) | (with_reducible assumption) | (with_reducible refine Below.setCell ?_ ?_ _) | (with_reducible refine Below.alloc ?_ ?_ _) | (with_reducible refine Below.drew ?_) | (with_reducible refine Up.base _ ?_ ?_) | (with_reducible exact LeSize.out) | exact LeSize.out | exact Nat.le_add_right_of_le LeSize.out | exact Nat.le_add_right_of_le (Nat.le_add_right_of_le LeSize.out) | (with_reducible exact Nat.le_refl _) | (simp; done) | (simp; omega)))⟩
set_option maxHeartbeats 4000000 in
theorem pbegin_any (p : Phs) (w : World) :
    Calls Try.prog 12 #[PhA p] w fun e w' => e = .returned (.agg #[.int .i64 (beginM p).c, .int .i64 (beginM p).t, .int .i64 (beginM p).fs, .int .i64 (beginM p).ft, .int .i64 (beginM p).l, .int .i64 (beginM p).p, .int .i64 (beginM p).e, .bool (beginM p).d, .bool (beginM p).m, .int .i64 (beginM p).tl, .int .i64 (beginM p).tu, .int .i64 (beginM p).td]) ∧ Below w.heap.size w w' := by
  unfold PhA
  go_enter Try.func12, Try.ntmps12
  go_wp2_with (go_at_call 30; refine (Up.run (gbegin_any _ _ _ _ _ _ _ _ _ _ _ _ _ _)).mono ?_; rintro e w' ⟨rfl, u, rfl⟩)
  go_returns
  exact ⟨rfl, by (repeat' (first | (with_reducible exact Below.refl _ _) | (with_reducible assumption) | (with_reducible refine Below.setCell ?_ ?_ _) | (with_reducible refine Below.alloc ?_ ?_ _) | (with_reducible refine Below.drew ?_) | (with_reducible refine Up.base _ ?_ ?_) | (with_reducible exact LeSize.out) | exact LeSize.out | exact Nat.le_add_right_of_le LeSize.out | exact Nat.le_add_right_of_le (Nat.le_add_right_of_le LeSize.out) | (with_reducible exact Nat.le_refl _) | (simp; done) | (simp; omega)))⟩
end Go.Proofs.Ytmapdkhcfejkaaa
