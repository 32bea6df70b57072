/- All phases' runs, held whole; the contracts of package ring: red, greens. -/
import Derived.Test.YtbnbakienajhmaaTabR
namespace Go.Proofs.Ytbnbakienajhmaa
open Go.RowKit
set_option linter.unusedVariables false
attribute [local go_sem] IsBlk.cell IsBlk.frozen

/-! ### Runs -/
def RuA (r : Rn) : Array Value := #[.int .i64 r.c, .int .i64 r.t, .int .i64 r.fs, .int .i64 r.ft, .int .i64 r.l, .int .i64 r.p, .int .i64 r.e, .bool r.d, .bool r.m, .int .i64 r.tl, .int .i64 r.tu, .int .i64 r.td]
/-- Eight runs in an array of cells. -/
def IsRuns (R : Array Value) (rn : Nat → Rn) : Prop := R.size = 96 ∧ ∀ k, k < 8 → ∀ j, j < 12 → R[k * 12 + j]? = (RuA (rn k))[j]?
theorem info_run12 : (Try.prog.info? 45).map (·.size) = some 12 := by kernel_rfl
theorem run_index_run {R : Array Value} {rn : Nat → Rn} (h : IsRuns R rn) {k : Nat} (hk : k < 8) (w : World) : Sem.run Try.prog (Instr.index 46 (.agg R) (.int .i64 k)) w = .ok (.agg (RuA (rn k))) w := by
  have e : R.extract (k * 12) (k * 12 + 12) = RuA (rn k) := by
    apply Array.ext_getElem?
    intro j
    by_cases hj : j < 12
    · rw [Array.getElem?_extract, if_pos (by have := h.1; omega)]
      exact h.2 k hk j hj
    · rw [Array.getElem?_eq_none (by simp; omega), Array.getElem?_eq_none (by simp [RuA]; omega)]
  obtain ⟨i12, hi12, hs12⟩ : ∃ i, Try.prog.info? 45 = some i ∧ i.size = 12 := by
    have := info_run12
    cases hq : Try.prog.info? 45 with
    | none => simp [hq] at this
    | some i => exact ⟨i, rfl, by simpa [hq] using this⟩
  simp [Instr.index, asIntOf, Sem.run_bind, run_underlying Try.underlying46, part, isAgg, run_underlying Try.underlying45, Result.andThen, hk, sizeOf, typeInfo, hi12, hs12, go_sem, e]
class IsRu (C : Array Value) (o : Nat) (r : outParam Rn) : Prop where
  out : ∀ j, j < 12 → C[o + j]? = (RuA r)[j]?
instance (r : Rn) : IsRu (RuA r) 0 r := ⟨fun j _ => by rw [Nat.zero_add]⟩
theorem load_ru {w : World} {b o : Nat} {C : Array Value} {t : TypeId} {r : Rn} [h : IsBlk w b C t] [hr : IsRu C o r] : Sem.run Try.prog (Instr.loadAt 45 (.pointer (some ⟨b, o, none⟩))) w = .ok (.agg (RuA r)) w := by
  have := run_loadAt_mid (P := Try.prog) w b o 45 (RuA r).toList _ (blk_range h.out o _ fun j hj => by rw [hr.out j (by simpa [RuA] using hj)]; simp) Try.underlying45 rfl (by kernel_rfl)
  exact this
theorem l_ru {ops : Array Oper} {rest : List Oper} {op : Oper} {a : Act} {w : World} {Q : Exit → Act → World → Prop} {x : Operand} {b o : Nat} {C : Array Value} {t : TypeId} {r : Rn} (hgd : op.guard = none) (ho : op.op = .load 45 x) (hx : a.eval x = .pointer (some ⟨b, o, none⟩)) [h : IsBlk w b C t] [hr : IsRu C o r]
    (hk : wpList Try.prog ops Q rest (a.put op.dst (.agg (RuA r))) w) : wpList Try.prog ops Q (op :: rest) a w := wpList_load_at hgd ho hx load_ru hk
theorem l_newRu {ops : Array Oper} {rest : List Oper} {op : Oper} {a : Act} {w : World} {Q : Exit → Act → World → Prop} {x y : Operand} {Z : Array Value} {t : TypeId} {b : Nat} {r : Rn} (hgd : op.guard = none) (ho : op.op = .store 45 x y) (hx : a.eval x = .pointer (some ⟨b, 0, none⟩)) (hy : a.eval y = .agg (RuA r)) (hb : SizeIs b w) (hs : 12 = Z.size)
    (h : wpList Try.prog ops Q rest (a.put op.dst undef) (w.alloc (.cells (RuA r) t))) : wpList Try.prog ops Q (op :: rest) a (w.alloc (.cells Z t)) :=
  wpList_store_newT (T := RuA r) 45 hgd ho hx hy hb hs (by kernel_rfl) (by simp [RuA, Value.oneCell']) h
class Sz96 (C : Array Value) : Prop where
  out : C.size = 96
theorem load_runs {w : World} {b : Nat} {C : Array Value} {t : TypeId} [h : IsBlk w b C t] [hz : Sz96 C] : Sem.run Try.prog (Instr.loadAt 46 (.pointer (some ⟨b, 0, none⟩))) w = .ok (.agg C) w := by
  have e : ((C.extract 0 (0 + 96)).toList).length = 96 := by have := hz.out; simp; omega
  have := run_loadAt_mid (P := Try.prog) w b 0 46 (C.extract 0 (0 + 96)).toList _ (World.rangeAt_of_block h.out 0 96) Try.underlying46 rfl (by rw [e]; kernel_rfl)
  rwa [Array.toArray_toList, show C.extract 0 (0 + 96) = C by rw [Nat.zero_add, ← hz.out]; exact Array.extract_size] at this
theorem q_lruns {W : World} {K : Act → Prop} {op : Oper} {a : Act} {x : Operand} {b : Nat} {C : Array Value} {t : TypeId} [hz : Sz96 C] (ho : op.op = .load 46 x) (hx : a.eval x = .pointer (some ⟨b, 0, none⟩)) [h : IsBlk W b C t]
    (hk : K (a.put op.dst (.agg C))) : op.quiet Try.prog a (fun w' => ∃ u : Up W, w' = u.w) K := quiet_load_at ho hx (fun u => load_runs) hk
theorem z_lruns {W : World} {Z : World → Prop} {K : Act → Prop} {op : Oper} {a : Act} {x : Operand} {b : Nat} {C : Array Value} {t : TypeId} [hz : Sz96 C] (ho : op.op = .load 46 x) (hx : a.eval x = .pointer (some ⟨b, 0, none⟩)) [h : IsBlk W b C t]
    (hk : K (a.put op.dst (.agg C))) : op.quiet Try.prog a (fun w' => ∃ u : UpZ W Z, w' = u.up.w) K := quiet_load_z ho hx (fun u => load_runs) hk
theorem l_lruns {ops : Array Oper} {rest : List Oper} {op : Oper} {a : Act} {w : World} {Q : Exit → Act → World → Prop} {x : Operand} {b : Nat} {C : Array Value} {t : TypeId} [hz : Sz96 C] (hgd : op.guard = none) (ho : op.op = .load 46 x) (hx : a.eval x = .pointer (some ⟨b, 0, none⟩)) [h : IsBlk w b C t]
    (hk : wpList Try.prog ops Q rest (a.put op.dst (.agg C)) w) : wpList Try.prog ops Q (op :: rest) a w := wpList_load_at hgd ho hx load_runs hk
theorem y_lruns {ops : Array Oper} {S : World → Prop} {op : Oper} {a : Act} {x : Operand} {b : Nat} {C : Array Value} {t : TypeId} [hz : Sz96 C] (hw : Region.wanted op (yielded ops a.tmps) = true) (ho : op.op = .load 46 x) (hx : a.eval x = .pointer (some ⟨b, 0, none⟩)) (hS : ∀ w, S w → IsBlk w b C t) :
    YieldsIf Try.prog ops S op (.agg C) a := yieldsIf_load_at hw ho hx (fun w hs => by haveI := hS w hs; exact load_runs)
theorem ruA_0 (r : Rn) : (RuA r)[0]? = some (.int .i64 r.c) := rfl
theorem ruA_1 (r : Rn) : (RuA r)[1]? = some (.int .i64 r.t) := rfl
theorem ruA_2 (r : Rn) : (RuA r)[2]? = some (.int .i64 r.fs) := rfl
theorem ruA_3 (r : Rn) : (RuA r)[3]? = some (.int .i64 r.ft) := rfl
theorem ruA_4 (r : Rn) : (RuA r)[4]? = some (.int .i64 r.l) := rfl
theorem ruA_5 (r : Rn) : (RuA r)[5]? = some (.int .i64 r.p) := rfl
theorem ruA_6 (r : Rn) : (RuA r)[6]? = some (.int .i64 r.e) := rfl
theorem ruA_7 (r : Rn) : (RuA r)[7]? = some (.bool r.d) := rfl
theorem ruA_8 (r : Rn) : (RuA r)[8]? = some (.bool r.m) := rfl
theorem ruA_9 (r : Rn) : (RuA r)[9]? = some (.int .i64 r.tl) := rfl
theorem ruA_10 (r : Rn) : (RuA r)[10]? = some (.int .i64 r.tu) := rfl
theorem ruA_11 (r : Rn) : (RuA r)[11]? = some (.int .i64 r.td) := rfl
theorem ruA_sz (r : Rn) : (RuA r).size = 12 := rfl
def rn0 : Rn := ⟨0, 0, 0, 0, 0, 0, 0, false, false, 0, 0, 0⟩
def redM (o : Rn) : Bool := !(o.c == 1) && !(o.c == 2) && !(o.c == 3)
set_option maxHeartbeats 1000000 in
theorem ring_red (o : Rn) (w : World) : Calls Try.prog 39 #[.agg (RuA o)] w fun e w' => e = .returned (.bool (redM o)) ∧ Below w.heap.size w w' := by
  unfold redM RuA
  cases n1 : (o.c == 1) <;> cases n2 : (o.c == 2) <;> cases n3 : (o.c == 3)
  all_goals (try (exfalso; simp at n1 n2 n3; omega))
  all_goals
    have m1 : (o.c != 1) = !(o.c == 1) := rfl
    have m2 : (o.c != 2) = !(o.c == 2) := rfl
    have m3 : (o.c != 3) = !(o.c == 3) := rfl
    rw [n1] at m1
    rw [n2] at m2
    rw [n3] at m3
    go_enter Try.func39, Try.ntmps39
    go_wp2
    go_ret
    exact ⟨rfl, by (repeat' (first | (with_reducible exact Below.refl _ _) | (with_reducible assumption) | (with_reducible refine Below.setCell ?_ ?_ _) | (with_reducible refine Below.alloc ?_ ?_ _) | (with_reducible refine Below.drew ?_) | (with_reducible refine Up.base _ ?_ ?_) | (with_reducible exact LeSize.out) | exact LeSize.out | exact Nat.le_add_right_of_le LeSize.out | exact Nat.le_add_right_of_le (Nat.le_add_right_of_le LeSize.out) | (with_reducible exact Nat.le_refl _) | (simp; done) | (simp; omega)))⟩
end Go.Proofs.Ytbnbakienajhmaa
