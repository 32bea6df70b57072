/- For a table by numbers, a phase of it, and at most 400 cues, the runs and what is held are those of the reference. -/
import Derived.Test.YtmapdkhcfejkaaaPhM
namespace Go.Proofs.Ytmapdkhcfejkaaa
open Go.ChangeShapes Go.WideShapes Go.ChangeAt Go.RowKit
set_option linter.unusedVariables false
attribute [local go_sem] IsBlk.cell IsBlk.frozen

theorem grLim_bd {mx tp st l u d : Int} {m : Bool} (h1 : 0 ≤ mx ∧ mx ≤ 9999) (h2 : 0 ≤ tp ∧ tp ≤ 9999) : 0 ≤ grLim mx tp st l u d m ∧ grLim mx tp st l u d m ≤ 9999 := limM_le h1 h2
theorem dueR_tl (p : Phs) (o : Rn) (k : Cu) (d : Bool) : (dueR p o k d).tl = o.tl := by
  unfold dueR; cases d <;> cases k.ho <;> rfl
theorem step_tl {p : Phs} {r : Rn} {k : Cu} (hp : PhIn p) (h : 0 ≤ r.tl ∧ r.tl ≤ 9999) : 0 ≤ (stepM p r k).tl ∧ (stepM p r k).tl ≤ 9999 := by
  have hm := hp.max
  have ht := hp.top
  unfold stepM
  split
  · unfold grnR
    split
    · unfold endR
      split
      · exact grLim_bd (by omega) (by omega)
      · exact h
    · rw [dueR_tl]; exact h
  · unfold yelM clrM redM
    repeat' split
    all_goals exact h
theorem run_neq_run (r : Rn) (w : World) : Sem.run Try.prog (binOp .neq 41 (.agg (RnA r)) (.agg (RnA r))) w = .ok (.bool false) w := by
  have : (r.d == r.d) = true := by cases r.d <;> rfl
  unfold RnA
  simp [go_sem]
/-! ### Runs, phases and cues held whole -/
class IsRn (C : Array Value) (r : outParam Rn) : Prop where
  out : C = RnA r
instance (r : Rn) : IsRn (RnA r) r := ⟨rfl⟩
def PhR (p : Phs) : Array Value := #[.bool p.on, .int .i64 p.min, .int .i64 p.gap, .int .i64 p.max, .int .i64 p.top, .int .i64 p.step, .int .i64 p.yel, .int .i64 p.red, .int .i64 p.walk, .int .i64 p.blinks, .int .i64 p.recl, .bool p.lock, .bool p.rest]
class IsPr (C : Array Value) (p : outParam Phs) : Prop where
  out : C = PhR p
instance (p : Phs) : IsPr (PhR p) p := ⟨rfl⟩
def CuR (k : Cu) : Array Value := #[.bool k.st, .bool k.en, .bool k.he, .bool k.pu, .bool k.pr, .bool k.ho, .bool k.ea, .bool k.cu]
class IsCu (C : Array Value) (k : outParam Cu) : Prop where
  out : C = CuR k
instance (k : Cu) : IsCu (CuR k) k := ⟨rfl⟩
theorem load_rn {w : World} {b : Nat} {C : Array Value} {t : TypeId} {r : Rn} [h : IsBlk w b C t] [hr : IsRn C r] : Sem.run Try.prog (Instr.loadAt 41 (.pointer (some ⟨b, 0, none⟩))) w = .ok (.agg (RnA r)) w := by
  have := run_loadAt_mid (P := Try.prog) w b 0 41 (RnA r).toList _ (blk_range h.out 0 _ fun j hj => by rw [hr.out]; simp) Try.underlying41 rfl (by kernel_rfl)
  exact this
theorem load_pr {w : World} {b : Nat} {C : Array Value} {t : TypeId} {p : Phs} [h : IsBlk w b C t] [hr : IsPr C p] : Sem.run Try.prog (Instr.loadAt 24 (.pointer (some ⟨b, 0, none⟩))) w = .ok (PhA p) w := by
  have := run_loadAt_mid (P := Try.prog) w b 0 24 (PhR p).toList _ (blk_range h.out 0 _ fun j hj => by rw [hr.out]; simp) Try.underlying24 rfl (by kernel_rfl)
  exact this
theorem load_cu {w : World} {b : Nat} {C : Array Value} {t : TypeId} {k : Cu} [h : IsBlk w b C t] [hr : IsCu C k] : Sem.run Try.prog (Instr.loadAt 44 (.pointer (some ⟨b, 0, none⟩))) w = .ok (CuA k) w := by
  have := run_loadAt_mid (P := Try.prog) w b 0 44 (CuR k).toList _ (blk_range h.out 0 _ fun j hj => by rw [hr.out]; simp) Try.underlying44 rfl (by kernel_rfl)
  exact this
theorem q_lrn {W : World} {K : Act → Prop} {op : Oper} {a : Act} {x : Operand} {b : Nat} {C : Array Value} {t : TypeId} {r : Rn} [hr : IsRn C r] (ho : op.op = .load 41 x) (hx : a.eval x = .pointer (some ⟨b, 0, none⟩)) [h : IsBlk W b C t]
    (hk : K (a.put op.dst (.agg (RnA r)))) : op.quiet Try.prog a (fun w' => ∃ u : Up W, w' = u.w) K := quiet_load_at ho hx (fun u => load_rn) hk
theorem z_lrn {W : World} {Z : World → Prop} {K : Act → Prop} {op : Oper} {a : Act} {x : Operand} {b : Nat} {C : Array Value} {t : TypeId} {r : Rn} [hr : IsRn C r] (ho : op.op = .load 41 x) (hx : a.eval x = .pointer (some ⟨b, 0, none⟩)) [h : IsBlk W b C t]
    (hk : K (a.put op.dst (.agg (RnA r)))) : op.quiet Try.prog a (fun w' => ∃ u : UpZ W Z, w' = u.up.w) K := quiet_load_z ho hx (fun u => load_rn) hk
theorem l_lrn {ops : Array Oper} {rest : List Oper} {op : Oper} {a : Act} {w : World} {Q : Exit → Act → World → Prop} {x : Operand} {b : Nat} {C : Array Value} {t : TypeId} {r : Rn} [hr : IsRn C r] (hgd : op.guard = none) (ho : op.op = .load 41 x) (hx : a.eval x = .pointer (some ⟨b, 0, none⟩)) [h : IsBlk w b C t]
    (hk : wpList Try.prog ops Q rest (a.put op.dst (.agg (RnA r))) w) : wpList Try.prog ops Q (op :: rest) a w := wpList_load_at hgd ho hx load_rn hk
theorem y_lrn {ops : Array Oper} {S : World → Prop} {op : Oper} {a : Act} {x : Operand} {b : Nat} {C : Array Value} {t : TypeId} {r : Rn} [hr : IsRn C r] (hw : Region.wanted op (yielded ops a.tmps) = true) (ho : op.op = .load 41 x) (hx : a.eval x = .pointer (some ⟨b, 0, none⟩)) (hS : ∀ w, S w → IsBlk w b C t) :
    YieldsIf Try.prog ops S op (.agg (RnA r)) a := yieldsIf_load_at hw ho hx (fun w hs => by haveI := hS w hs; exact load_rn)
theorem q_lpr {W : World} {K : Act → Prop} {op : Oper} {a : Act} {x : Operand} {b : Nat} {C : Array Value} {t : TypeId} {p : Phs} [hr : IsPr C p] (ho : op.op = .load 24 x) (hx : a.eval x = .pointer (some ⟨b, 0, none⟩)) [h : IsBlk W b C t]
    (hk : K (a.put op.dst (PhA p))) : op.quiet Try.prog a (fun w' => ∃ u : Up W, w' = u.w) K := quiet_load_at ho hx (fun u => load_pr) hk
theorem z_lpr {W : World} {Z : World → Prop} {K : Act → Prop} {op : Oper} {a : Act} {x : Operand} {b : Nat} {C : Array Value} {t : TypeId} {p : Phs} [hr : IsPr C p] (ho : op.op = .load 24 x) (hx : a.eval x = .pointer (some ⟨b, 0, none⟩)) [h : IsBlk W b C t]
    (hk : K (a.put op.dst (PhA p))) : op.quiet Try.prog a (fun w' => ∃ u : UpZ W Z, w' = u.up.w) K := quiet_load_z ho hx (fun u => load_pr) hk
theorem l_lpr {ops : Array Oper} {rest : List Oper} {op : Oper} {a : Act} {w : World} {Q : Exit → Act → World → Prop} {x : Operand} {b : Nat} {C : Array Value} {t : TypeId} {p : Phs} [hr : IsPr C p] (hgd : op.guard = none) (ho : op.op = .load 24 x) (hx : a.eval x = .pointer (some ⟨b, 0, none⟩)) [h : IsBlk w b C t]
    (hk : wpList Try.prog ops Q rest (a.put op.dst (PhA p)) w) : wpList Try.prog ops Q (op :: rest) a w := wpList_load_at hgd ho hx load_pr hk
theorem y_lpr {ops : Array Oper} {S : World → Prop} {op : Oper} {a : Act} {x : Operand} {b : Nat} {C : Array Value} {t : TypeId} {p : Phs} [hr : IsPr C p] (hw : Region.wanted op (yielded ops a.tmps) = true) (ho : op.op = .load 24 x) (hx : a.eval x = .pointer (some ⟨b, 0, none⟩)) (hS : ∀ w, S w → IsBlk w b C t) :
    YieldsIf Try.prog ops S op (PhA p) a := yieldsIf_load_at hw ho hx (fun w hs => by haveI := hS w hs; exact load_pr)
theorem q_lcu {W : World} {K : Act → Prop} {op : Oper} {a : Act} {x : Operand} {b : Nat} {C : Array Value} {t : TypeId} {k : Cu} [hr : IsCu C k] (ho : op.op = .load 44 x) (hx : a.eval x = .pointer (some ⟨b, 0, none⟩)) [h : IsBlk W b C t]
    (hk : K (a.put op.dst (CuA k))) : op.quiet Try.prog a (fun w' => ∃ u : Up W, w' = u.w) K := quiet_load_at ho hx (fun u => load_cu) hk
theorem z_lcu {W : World} {Z : World → Prop} {K : Act → Prop} {op : Oper} {a : Act} {x : Operand} {b : Nat} {C : Array Value} {t : TypeId} {k : Cu} [hr : IsCu C k] (ho : op.op = .load 44 x) (hx : a.eval x = .pointer (some ⟨b, 0, none⟩)) [h : IsBlk W b C t]
    (hk : K (a.put op.dst (CuA k))) : op.quiet Try.prog a (fun w' => ∃ u : UpZ W Z, w' = u.up.w) K := quiet_load_z ho hx (fun u => load_cu) hk
theorem l_lcu {ops : Array Oper} {rest : List Oper} {op : Oper} {a : Act} {w : World} {Q : Exit → Act → World → Prop} {x : Operand} {b : Nat} {C : Array Value} {t : TypeId} {k : Cu} [hr : IsCu C k] (hgd : op.guard = none) (ho : op.op = .load 44 x) (hx : a.eval x = .pointer (some ⟨b, 0, none⟩)) [h : IsBlk w b C t]
    (hk : wpList Try.prog ops Q rest (a.put op.dst (CuA k)) w) : wpList Try.prog ops Q (op :: rest) a w := wpList_load_at hgd ho hx load_cu hk
theorem y_lcu {ops : Array Oper} {S : World → Prop} {op : Oper} {a : Act} {x : Operand} {b : Nat} {C : Array Value} {t : TypeId} {k : Cu} [hr : IsCu C k] (hw : Region.wanted op (yielded ops a.tmps) = true) (ho : op.op = .load 44 x) (hx : a.eval x = .pointer (some ⟨b, 0, none⟩)) (hS : ∀ w, S w → IsBlk w b C t) :
    YieldsIf Try.prog ops S op (CuA k) a := yieldsIf_load_at hw ho hx (fun w hs => by haveI := hS w hs; exact load_cu)
/-- A phase of a table, folded. -/
theorem l_phA {ops : Array Oper} {rest : List Oper} {op : Oper} {a : Act} {w : World} {Q : Exit → Act → World → Prop} {x : Operand} {b o : Nat} {C : Array Value} {t : TypeId} {p : Phs} (hgd : op.guard = none) (ho : op.op = .load 24 x) (hx : a.eval x = .pointer (some ⟨b, o, none⟩)) [h : IsBlk w b C t] [hp : IsPh C o p]
    (hk : wpList Try.prog ops Q rest (a.put op.dst (PhA p)) w) : wpList Try.prog ops Q (op :: rest) a w := wpList_load_at hgd ho hx load_ph hk
theorem l_newPr {ops : Array Oper} {rest : List Oper} {op : Oper} {a : Act} {w : World} {Q : Exit → Act → World → Prop} {x y : Operand} {Z : Array Value} {t : TypeId} {b : Nat} {p : Phs} (hgd : op.guard = none) (ho : op.op = .store 24 x y) (hx : a.eval x = .pointer (some ⟨b, 0, none⟩)) (hy : a.eval y = PhA p) (hb : SizeIs b w) (hs : 13 = Z.size)
    (h : wpList Try.prog ops Q rest (a.put op.dst undef) (w.alloc (.cells (PhR p) t))) : wpList Try.prog ops Q (op :: rest) a (w.alloc (.cells Z t)) :=
  wpList_store_new (T := PhR p) 24 hgd ho hx hy hb hs (by kernel_rfl) (by simp [PhR, Value.oneCell']) h
theorem l_newRn {ops : Array Oper} {rest : List Oper} {op : Oper} {a : Act} {w : World} {Q : Exit → Act → World → Prop} {x y : Operand} {Z : Array Value} {t : TypeId} {b : Nat} {r : Rn} (hgd : op.guard = none) (ho : op.op = .store 41 x y) (hx : a.eval x = .pointer (some ⟨b, 0, none⟩)) (hy : a.eval y = .agg (RnA r)) (hb : SizeIs b w) (hs : 12 = Z.size)
    (h : wpList Try.prog ops Q rest (a.put op.dst undef) (w.alloc (.cells (RnA r) t))) : wpList Try.prog ops Q (op :: rest) a (w.alloc (.cells Z t)) :=
  wpList_store_new (T := RnA r) 41 hgd ho hx hy hb hs (by kernel_rfl) (by simp [RnA, Value.oneCell']) h
theorem l_newCu {ops : Array Oper} {rest : List Oper} {op : Oper} {a : Act} {w : World} {Q : Exit → Act → World → Prop} {x y : Operand} {Z : Array Value} {t : TypeId} {b : Nat} {k : Cu} (hgd : op.guard = none) (ho : op.op = .store 44 x y) (hx : a.eval x = .pointer (some ⟨b, 0, none⟩)) (hy : a.eval y = CuA k) (hb : SizeIs b w) (hs : 8 = Z.size)
    (h : wpList Try.prog ops Q rest (a.put op.dst undef) (w.alloc (.cells (CuR k) t))) : wpList Try.prog ops Q (op :: rest) a (w.alloc (.cells Z t)) :=
  wpList_store_new (T := CuR k) 44 hgd ho hx hy hb hs (by kernel_rfl) (by simp [CuR, Value.oneCell']) h
/-- A run stored over a run. -/
def putRn (w : World) (b : Nat) (r : Rn) : World := w.setCells b 0 (RnA r).toList
theorem l_setRn {ops : Array Oper} {rest : List Oper} {op : Oper} {a : Act} {w : World} {Q : Exit → Act → World → Prop} {x y : Operand} {C : Array Value} {t : TypeId} {b : Nat} {r r' : Rn} (hgd : op.guard = none) (ho : op.op = .store 41 x y) (hx : a.eval x = .pointer (some ⟨b, 0, none⟩)) (hy : a.eval y = .agg (RnA r')) [hb : IsBlk w b C t] [hr : IsRn C r]
    (h : wpList Try.prog ops Q rest (a.put op.dst undef) (putRn w b r')) : wpList Try.prog ops Q (op :: rest) a w :=
  wpList_store_part (o := 0) (cs := RnA r') 41 hgd ho hx hy (by rw [hr.out]; exact Nat.le_refl _) (by kernel_rfl) (by simp [RnA, Value.oneCell']) h
theorem putRn_same {w : World} {b : Nat} {C : Array Value} {t : TypeId} {r r' : Rn} [h : IsBlk w b C t] [hr : IsRn C r] : IsBlk (putRn w b r') b (RnA r') t := ⟨by
  unfold putRn
  rw [heap_sets_same _ h.out, spl_all (by rw [hr.out]; rfl)]⟩
instance (w : World) (b : Nat) (t : TypeId) (r r' : Rn) [h : IsBlk w b (RnA r) t] : IsBlk (putRn w b r') b (RnA r') t := putRn_same
instance (w : World) (b k : Nat) (C : Array Value) (t : TypeId) (r : Rn) [h : IsBlk w b C t] [n : Apart b k] : IsBlk (putRn w k r) b C t := ⟨by unfold putRn; rw [heap_sets_other _ _ n.out]; exact h.out⟩
instance (b : Nat) (w : World) (k : Nat) (r : Rn) [h : LeSize b w] : LeSize b (putRn w k r) := ⟨by unfold putRn; rw [size_setCells]; exact h.out⟩
theorem below_putRn {B : Nat} {a w : World} {b : Nat} {r : Rn} (h : Below B a w) (hb : B ≤ b) : Below B a (putRn w b r) := below_setCells _ _ h hb
theorem pstepF_any (p : Phs) (r : Rn) (k : Cu) (w : World) (hp : PhIn p) (h : 0 ≤ r.tl ∧ r.tl ≤ 9999) : Calls Try.prog 17 #[PhA p, .agg (RnA r), CuA k] w fun e w' => e = .returned (.agg (RnA (stepM p r k))) ∧ Below w.heap.size w w' := by
  have h1 := hp.max; have h2 := hp.top; have h3 := hp.step
  exact pstep_any p r k w (by unfold InKind; omega) (by unfold InKind; omega) (by unfold InKind; omega) (by unfold InKind; omega)
theorem rstepF_any (p : Phs) (r : Rn) (k : Cu) (w : World) (hp : PhIn p) : Calls Try.prog 18 #[PhA p, .agg (RnA r), CuA k] w fun e w' => e = .returned (.agg (RnA (stepM p r k))) ∧ Below w.heap.size w w' := by
  have h1 := hp.max; have h2 := hp.top; have h3 := hp.step
  exact rstep_any p r k w (by omega) (by omega) (by omega)
theorem pbeginF_any (p : Phs) (w : World) : Calls Try.prog 12 #[PhA p] w fun e w' => e = .returned (.agg (RnA (beginM p))) ∧ Below w.heap.size w w' := pbegin_any p w
theorem rbeginF_any (p : Phs) (w : World) : Calls Try.prog 13 #[PhA p] w fun e w' => e = .returned (.agg (RnA (beginM p))) ∧ Below w.heap.size w w' := rbegin_any p w
set_option maxHeartbeats 8000000 in
set_option maxRecDepth 100000 in
theorem phasePlays_walk (a0 : Option Addr) (cap0 : Nat) (z0 : List Int) (a1 : Int) (a2 : Option Addr) (cap2 : Nat) (z2 : List Int) (w : World) (hc0 : z0.length ≤ cap0 ∧ cap0 ≤ 9223372036854775807) (_ : Hdr w a0 cap0) (hz0 : Ints w a0 z0) (_ : ∀ i, i < z0.length → InKind .i64 (z0.getD i 0)) (_ : InKind .i64 a1)
    (hc2 : z2.length ≤ cap2 ∧ cap2 ≤ 9223372036854775807) (_ : Hdr w a2 cap2) (hz2 : Ints w a2 z2) (_ : ∀ i, i < z2.length → InKind .i64 (z2.getD i 0)) :
    Calls Try.prog 3 #[.slice a0 z0.length cap0, .int .i64 a1, .slice a2 z2.length cap2] w fun e w' => e = .returned (.bool true) ∧ Below w.heap.size w w' := by
  have HZ : Hid (∀ w', Below w.heap.size w w' → Ints w' a0 z0) := Lib.hid fun w' hb => Row1.below hz0 hb (Nat.le_refl _)
  have HZL : Hid (z0.length ≤ 9223372036854775807) := Lib.hid (by omega)
  have HY := Lib.hid hz2
  have hk0 := Int.emod_nonneg a1 (show (8 : Int) ≠ 0 by omega)
  have hk1 := Int.emod_lt_of_pos a1 (show (0 : Int) < 8 by omega)
  obtain ⟨k, hk⟩ : ∃ k : Nat, a1 % 8 = k := ⟨(a1 % 8).toNat, by omega⟩
  have hk8 : k < 8 := by omega
  have hkI : (k : Int) < 8 := by omega
  clear hz0 hz2 hk0 hk1
  by_cases hlen : z2.length ≤ 400
  · go_enter Try.func3, Try.ntmps3
    go_upto_region 2 with (first | (go_at_call 9; refine (ltable_up _ _ _ _ HZL.out (HZ.out _ (by (repeat' (first | (with_reducible exact Below.refl _ _) | (with_reducible assumption) | (with_reducible refine Below.setCell ?_ ?_ _) | (with_reducible refine Below.alloc ?_ ?_ _) | (with_reducible refine Below.drew ?_) | (with_reducible refine Up.base _ ?_ ?_) | (with_reducible exact LeSize.out) | exact LeSize.out | exact Nat.le_add_right_of_le LeSize.out | exact Nat.le_add_right_of_le (Nat.le_add_right_of_le LeSize.out) | (with_reducible exact Nat.le_refl _) | (simp; done) | (simp; omega)))))).mono ?_; rintro e w' ⟨T, uT, rfl, rfl, hT⟩) | (refine l_newTab rfl rfl rfl rfl inferInstance hT rfl ?_; go_simp))
    have hP := tab_phIn z0 k
    haveI hph := hT.isPh k hk8
    haveI : Sz131 T := ⟨hT.size⟩
    generalize (tabM z0).ph k = p at *
    have HPI := Lib.hid hP
    have hbt : 0 ≤ (beginM p).tl ∧ (beginM p).tl ≤ 9999 := by have := hP.max; simp only [beginM]; omega
    clear hT hP
    go_wp2_with (first | (go_at_call 10; refine (place_any _ _ _ (by omega) (by omega)).mono ?_; rintro e w' ⟨rfl, rfl⟩) | (refine l_phA rfl rfl rfl ?_; go_simp) | (refine l_newPr rfl rfl rfl rfl inferInstance rfl ?_; go_simp) | (refine l_newRn rfl rfl rfl rfl inferInstance rfl ?_; go_simp) | (refine l_lpr rfl rfl rfl ?_; go_simp) | (go_at_call 12; refine (Up.run (pbeginF_any _ _)).mono ?_; rintro e w' ⟨rfl, u9, rfl⟩) | (go_at_call 13; refine (Up.run (rbeginF_any _ _)).mono ?_; rintro e w' ⟨rfl, u10, rfl⟩))
    generalize beginM p = r0 at *
    obtain ⟨b8, hb8⟩ : ∃ b, uT.w.heap.size + 1 = b := ⟨_, rfl⟩
    obtain ⟨b9, hb9⟩ : ∃ b, u9.w.heap.size = b := ⟨_, rfl⟩
    obtain ⟨b10, hb10⟩ : ∃ b, u10.w.heap.size = b := ⟨_, rfl⟩
    have i8 : IsBlk (u10.w.alloc (.cells (RnA r0) 41)) (uT.w.heap.size + 1) (PhR p) 24 := inferInstance
    have i9 : IsBlk (u10.w.alloc (.cells (RnA r0) 41)) u9.w.heap.size (RnA r0) 41 := inferInstance
    have i10 : IsBlk (u10.w.alloc (.cells (RnA r0) 41)) u10.w.heap.size (RnA r0) 41 := inferInstance
    have hbw : Below w.heap.size w (u10.w.alloc (.cells (RnA r0) 41)) := by (repeat' (first | (with_reducible exact Below.refl _ _) | (with_reducible assumption) | (with_reducible refine Below.setCell ?_ ?_ _) | (with_reducible refine Below.alloc ?_ ?_ _) | (with_reducible refine Below.drew ?_) | (with_reducible refine Up.base _ ?_ ?_) | (with_reducible exact LeSize.out) | exact LeSize.out | exact Nat.le_add_right_of_le LeSize.out | exact Nat.le_add_right_of_le (Nat.le_add_right_of_le LeSize.out) | (with_reducible exact Nat.le_refl _) | (simp; done) | (simp; omega)))
    have hlo := uT.bel.size
    have h89 := u9.bel.size
    have h910 := u10.bel.size
    simp only [World.size_alloc] at h89 h910
    rw [hb8] at i8
    rw [hb9] at i9
    rw [hb10] at i10
    generalize (u10.w.alloc (.cells (RnA r0) 41)) = W0 at *
    rw [hb8, hb9, hb10]
    have HN := run_neq_run
    haveI : Apart b8 b9 := ⟨by omega⟩
    haveI : Apart b8 b10 := ⟨by omega⟩
    haveI : Apart b9 b10 := ⟨by omega⟩
    haveI : Apart b10 b9 := ⟨by omega⟩
    have hb9w : w.heap.size ≤ b9 := by omega
    have hb10w : w.heap.size ≤ b10 := by omega
    clear hb8 hb9 hb10 hph hlo h89 h910
    go_loopw [11] (fun i wr => ∃ j : Nat, j ≤ z2.length ∧ i = .int .i64 j ∧ ∃ r, IsBlk wr b8 (PhR p) 24 ∧ IsBlk wr b9 (RnA r) 41 ∧ IsBlk wr b10 (RnA r) 41 ∧ (0 ≤ r.tl ∧ r.tl ≤ 9999) ∧ Below w.heap.size w wr) (fun i _ => z2.length - (intOf i).toNat)
    case atStart => exact ⟨0, Nat.zero_le _, rfl, _, i8, i9, i10, hbt, hbw⟩
    case round =>
      clear i8 i9 i10 hbt hbw
      obtain ⟨j, hj, rfl, r, i8, i9, i10, hbt, hbw⟩ := hrel
      haveI : LeSize w.heap.size wr := ⟨hbw.size⟩
      by_cases hlt : j < z2.length
      · obtain ⟨yb, yoff, rfl, hyb, hyc⟩ := (Row1.below HY.out hbw (Nat.le_refl _)).cell (by omega)
        have hcell := hyc j hlt
        generalize z2.getD j 0 = y at *
        clear hyc
        go_wp2_with (first | (go_at_call 14; refine (Up.run (cue_any _ _)).mono ?_; rintro e w' ⟨rfl, ucu, rfl⟩; obtain ⟨cu, hcu⟩ : ∃ x, cuM y = x := ⟨_, rfl⟩; rw [hcu]; clear hcu) | (refine l_newCu rfl rfl rfl rfl inferInstance rfl ?_; go_simp))
        (refine wp_region_up (by kernel_rfl) (by kernel_rfl) ?_; (repeat (first | (go_big_quiet_want; refine q_lpr rfl rfl ?_; simp only [Act.put, List.setIfInBounds_toArray, List.set_cons_succ, List.set_cons_zero]; go_big_quiet_on) | (go_big_quiet_want; refine q_lrn rfl rfl ?_; simp only [Act.put, List.setIfInBounds_toArray, List.set_cons_succ, List.set_cons_zero]; go_big_quiet_on) | (go_big_quiet_want; refine q_lcu rfl rfl ?_; simp only [Act.put, List.setIfInBounds_toArray, List.set_cons_succ, List.set_cons_zero]; go_big_quiet_on) | go_big_quiet_step ((first | (go_at_call 15; exact Up.calls (pheld_any _ _ _ _)) | (go_at_call 16; exact Up.calls (rkept_any _ _ _ _)) | fail)))); refine wpQuiet_nil ?_; rintro _ ⟨u, rfl⟩)
        have HST := Lib.hid (step_tl (k := cu) HPI.out hbt)
        generalize heldM p r cu = hm at *
        have hc9 := i9.le.out
        have hc10 := i10.le.out
        have hcs := ucu.bel.size
        haveI : Apart ucu.w.heap.size b9 := ⟨by omega⟩
        haveI : Apart ucu.w.heap.size b10 := ⟨by omega⟩
        go_wp2_with (first | (refine l_lpr rfl rfl rfl ?_; go_simp) | (refine l_lrn rfl rfl rfl ?_; go_simp) | (refine l_lcu rfl rfl rfl ?_; go_simp) | (go_at_call 17; refine (Up.run (pstepF_any _ _ _ _ HPI.out (by assumption))).mono ?_; rintro e w' ⟨rfl, ust, rfl⟩) | (go_at_call 18; refine (Up.run (rstepF_any _ _ _ _ HPI.out)).mono ?_; rintro e w' ⟨rfl, ust2, rfl⟩) | (refine l_setRn rfl rfl rfl rfl ?_; go_simp))
        go_roundw
        case rel => exact ⟨j + 1, by omega, by go_num, stepM p r cu, inferInstance, inferInstance, inferInstance, HST.out, by (repeat' (first | (with_reducible exact Below.refl _ _) | (with_reducible assumption) | (with_reducible refine below_putRn ?_ ?_) | (with_reducible refine Below.setCell ?_ ?_ _) | (with_reducible refine Below.alloc ?_ ?_ _) | (with_reducible refine Below.drew ?_) | (with_reducible refine Up.base _ ?_ ?_) | (with_reducible exact LeSize.out) | exact LeSize.out | (with_reducible exact Nat.le_refl _) | omega | (simp; done) | (simp; omega)))⟩
        case measure => simp [intOf]; omega
      · obtain rfl : j = z2.length := by omega
        go_wp2_with (go_at_call 11; refine (Up.run (awake18_any _)).mono ?_; rintro e w' ⟨rfl, u, rfl⟩)
        go_returns
        exact ⟨rfl, by (repeat' (first | (with_reducible exact Below.refl _ _) | (with_reducible assumption) | (with_reducible refine Below.setCell ?_ ?_ _) | (with_reducible refine Below.alloc ?_ ?_ _) | (with_reducible refine Below.drew ?_) | (with_reducible refine Up.base _ ?_ ?_) | (with_reducible exact LeSize.out) | exact LeSize.out | exact Nat.le_add_right_of_le LeSize.out | exact Nat.le_add_right_of_le (Nat.le_add_right_of_le LeSize.out) | (with_reducible exact Nat.le_refl _) | (simp; done) | (simp; omega)))⟩
  · have hlen2 : 400 < z2.length := by omega
    clear hlen
    go_enter Try.func3, Try.ntmps3
    go_upto_region 2 with (first | (go_at_call 9; refine (ltable_up _ _ _ _ HZL.out (HZ.out _ (by (repeat' (first | (with_reducible exact Below.refl _ _) | (with_reducible assumption) | (with_reducible refine Below.setCell ?_ ?_ _) | (with_reducible refine Below.alloc ?_ ?_ _) | (with_reducible refine Below.drew ?_) | (with_reducible refine Up.base _ ?_ ?_) | (with_reducible exact LeSize.out) | exact LeSize.out | exact Nat.le_add_right_of_le LeSize.out | exact Nat.le_add_right_of_le (Nat.le_add_right_of_le LeSize.out) | (with_reducible exact Nat.le_refl _) | (simp; done) | (simp; omega)))))).mono ?_; rintro e w' ⟨T, uT, rfl, rfl, hT⟩) | (refine l_newTab rfl rfl rfl rfl inferInstance hT rfl ?_; go_simp))
    haveI hph := hT.isPh k hk8
    haveI : Sz131 T := ⟨hT.size⟩
    generalize (tabM z0).ph k = p at *
    clear hT
    go_wp2_with (first | (go_at_call 10; refine (place_any _ _ _ (by omega) (by omega)).mono ?_; rintro e w' ⟨rfl, rfl⟩) | (refine l_phA rfl rfl rfl ?_; go_simp) | (refine l_newPr rfl rfl rfl rfl inferInstance rfl ?_; go_simp) | (go_at_call 11; refine (Up.run (awake18_any _)).mono ?_; rintro e w' ⟨rfl, u, rfl⟩))
    go_returns
    exact ⟨rfl, by (repeat' (first | (with_reducible exact Below.refl _ _) | (with_reducible assumption) | (with_reducible refine Below.setCell ?_ ?_ _) | (with_reducible refine Below.alloc ?_ ?_ _) | (with_reducible refine Below.drew ?_) | (with_reducible refine Up.base _ ?_ ?_) | (with_reducible exact LeSize.out) | exact LeSize.out | exact Nat.le_add_right_of_le LeSize.out | exact Nat.le_add_right_of_le (Nat.le_add_right_of_le LeSize.out) | (with_reducible exact Nat.le_refl _) | (simp; done) | (simp; omega)))⟩
set_option maxRecDepth 100000 in
theorem PhasePlays_lifted (os : Os) (started : os.Started) (H : Type) (enc : TypeId × Value → H) :
    ReturnsInHanded {} Try.checked os 3 .any (Rows.phasePlaysSpec.pre6 enc Try.prog Try.f3 Rows.phasePlaysRow.domain false) (Rows.phasePlaysSpec.post enc Try.prog Try.f3 false true false false) := by
  refine returnsInHanded_of_change (C := Try.checked) own started (by kernel_rfl) Try.func3
    (ChangeSpec.witness6 (enc := enc) (C := Try.checked) false ⟨#[], #[.slice none 0 0, .int .i64 0, .slice none 0 0], []⟩ 8 (by kernel_rfl) (by kernel_rfl) (by kernel_rfl) (by kernel_rfl)) ?_
  intro W base args ds gs before hval0 hW hcnd _
  have hval : ∀ (j : Nat) t v, Try.f3.params[j]? = some t → args[j]? = some v → Value.okWide Try.prog W .any base t v := hval0
  have hW' := hW
  obtain ⟨p, q, hA0, hV, rfl, hfz, hnd⟩ := hW
  have hA : DataW.TrodAll enc Try.prog W 0 (fun _ => true) true Try.f3.params.toList args.toList ds p := hA0
  rw [Try.params3] at hA hval
  obtain ⟨v0, vs0, d0, ds0, p0, q0, hargs, rfl, rfl, h0, r0⟩ := trodAll_cons hA
  obtain ⟨v1, vs1, d1, ds1, p1, q1, rfl, rfl, rfl, h1, r1⟩ := trodAll_cons r0
  obtain ⟨v2, vs2, d2, ds2, p2, q2, rfl, rfl, rfl, h2, r2⟩ := trodAll_cons r1
  obtain ⟨rfl, rfl, rfl⟩ := trodAll_nil r2
  obtain rfl : args = #[v0, v1, v2] := by cases args; simp_all
  obtain ⟨rfl, rfl⟩ := trodVars_none hV
  have k0 := h0
  have lt0 : ∀ x ∈ p0, x.block < W.heap.size := by obtain ⟨m, hm⟩ := k0; exact DataW.trod_lt m _ _ _ hm
  have k1 := h1
  have lt1 : ∀ x ∈ p1, x.block < W.heap.size := by obtain ⟨m, hm⟩ := k1; exact DataW.trod_lt m _ _ _ hm
  have k2 := h2
  have lt2 : ∀ x ∈ p2, x.block < W.heap.size := by obtain ⟨m, hm⟩ := k2; exact DataW.trod_lt m _ _ _ hm
  obtain ⟨a0, cap0, z0, rfl, hl0, hm0, hh0, hr0, iz0⟩ := open_ints1 Try.underlying22 Try.underlying3 (by kernel_rfl) (hval 0 22 v0 rfl rfl) k0
  obtain ⟨a1, rfl, w1⟩ := open_int1 Try.underlying3 (hval 1 3 v1 rfl rfl)
  obtain ⟨a2, cap2, z2, rfl, hl2, hm2, hh2, hr2, iz2⟩ := open_ints1 Try.underlying22 Try.underlying3 (by kernel_rfl) (hval 2 22 v2 rfl rfl) k2
  clear hA0 hval0
  refine (phasePlays_walk a0 cap0 z0 a1 a2 cap2 z2 W ⟨hl0, hm0⟩ hh0 hr0 iz0 w1 ⟨hl2, hm2⟩ hh2 hr2 iz2).mono fun e W' ⟨he, bel⟩ => ?_
  subst he
  exact ⟨_, rfl, _, _, _, [], _, [], hW', trodAll_mk1 (shut_bool Try.underlying4 _), (trodAll_cons_mk (Below.trod laidOut (by kernel_rfl) (of_decide_eq_true (by kernel_rfl)) k0 bel lt0) (trodAll_cons_mk (Below.trod laidOut (by kernel_rfl) (of_decide_eq_true (by kernel_rfl)) k1 bel lt1) (trodAll_cons_mk (Below.trod laidOut (by kernel_rfl) (of_decide_eq_true (by kernel_rfl)) k2 bel lt2) trodAll_mk0))), rfl, bel.frame _, fun h => by cases h⟩

theorem PhasePlays_over : Rows.phasePlaysRow.holds Try.pinned (OpenSpec.ofChange Rows.phasePlaysSpec) :=
  OpenClaim.holds_of_wide 3 Try.f3 rfl rfl rfl rfl rfl rfl rfl ⟨rfl, rfl, rfl, rfl, rfl⟩ rfl rfl rfl rfl rfl (by kernel_rfl) Try.func3 (by kernel_rfl)
    (of_decide_eq_true (by kernel_rfl)) (by unfold Func.isWrapper; first | (rw [if_pos (by decide +kernel)]; kernel_rfl) | (rw [if_neg (by decide +kernel)]; exact ⟨rfl, rfl⟩))
    (fun os started H enc _ => PhasePlays_lifted os started H enc)

/-- The given statement. -/
theorem PhasePlays_holds : Rows.PhasePlaysSaid := PhasePlays_over
#print axioms PhasePlays_holds
end Go.Proofs.Ytmapdkhcfejkaaa
