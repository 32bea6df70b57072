/- The contracts of All: lamp's, the reference's. -/
import Derived.Test.YtkfilolomjhdeaaLampG
import Derived.Test.YtkfilolomjhdeaaTel
import Derived.Test.YtkfilolomjhdeaaFree
namespace Go.Proofs.Ytkfilolomjhdeaa
open Go.RowKit
set_option linter.unusedVariables false
attribute [local go_sem] IsBlk.cell IsBlk.frozen

/-! ### Runs -/
def RuA (r : Rn) : Array Value := #[.int .i64 r.c, .int .i64 r.t, .int .i64 r.fs, .int .i64 r.ft, .int .i64 r.l, .int .i64 r.p, .int .i64 r.e, .bool r.d, .bool r.m, .int .i64 r.tl, .int .i64 r.tu, .int .i64 r.td]
/-- Eight runs in an array of cells. -/
def IsRuns (R : Array Value) (rn : Nat → Rn) : Prop := R.size = 96 ∧ ∀ k, k < 8 → ∀ j, j < 12 → R[k * 12 + j]? = (RuA (rn k))[j]?
theorem info_run12 : (Try.prog.info? 33).map (·.size) = some 12 := by kernel_rfl
theorem run_index_run {R : Array Value} {rn : Nat → Rn} (h : IsRuns R rn) {k : Nat} (hk : k < 8) (w : World) : Sem.run Try.prog (Instr.index 52 (.agg R) (.int .i64 k)) w = .ok (.agg (RuA (rn k))) w := by
  have e : R.extract (k * 12) (k * 12 + 12) = RuA (rn k) := by
    apply Array.ext_getElem?
    intro j
    by_cases hj : j < 12
    · rw [Array.getElem?_extract, if_pos (by have := h.1; omega)]
      exact h.2 k hk j hj
    · rw [Array.getElem?_eq_none (by simp; omega), Array.getElem?_eq_none (by simp [RuA]; omega)]
  obtain ⟨i12, hi12, hs12⟩ : ∃ i, Try.prog.info? 33 = some i ∧ i.size = 12 := by
    have := info_run12
    cases hq : Try.prog.info? 33 with
    | none => simp [hq] at this
    | some i => exact ⟨i, rfl, by simpa [hq] using this⟩
  simp [Instr.index, asIntOf, Sem.run_bind, run_underlying Try.underlying52, part, isAgg, run_underlying Try.underlying33, Result.andThen, hk, sizeOf, typeInfo, hi12, hs12, go_sem, e]
class IsRu (C : Array Value) (o : Nat) (r : outParam Rn) : Prop where
  out : ∀ j, j < 12 → C[o + j]? = (RuA r)[j]?
instance (r : Rn) : IsRu (RuA r) 0 r := ⟨fun j _ => by rw [Nat.zero_add]⟩
theorem load_ru {w : World} {b o : Nat} {C : Array Value} {t : TypeId} {r : Rn} [h : IsBlk w b C t] [hr : IsRu C o r] : Sem.run Try.prog (Instr.loadAt 33 (.pointer (some ⟨b, o, none⟩))) w = .ok (.agg (RuA r)) w := by
  have := run_loadAt_mid (P := Try.prog) w b o 33 (RuA r).toList _ (blk_range h.out o _ fun j hj => by rw [hr.out j (by simpa [RuA] using hj)]; simp) Try.underlying33 rfl (by kernel_rfl)
  exact this
theorem l_ru {ops : Array Oper} {rest : List Oper} {op : Oper} {a : Act} {w : World} {Q : Exit → Act → World → Prop} {x : Operand} {b o : Nat} {C : Array Value} {t : TypeId} {r : Rn} (hgd : op.guard = none) (ho : op.op = .load 33 x) (hx : a.eval x = .pointer (some ⟨b, o, none⟩)) [h : IsBlk w b C t] [hr : IsRu C o r]
    (hk : wpList Try.prog ops Q rest (a.put op.dst (.agg (RuA r))) w) : wpList Try.prog ops Q (op :: rest) a w := wpList_load_at hgd ho hx load_ru hk
theorem sets_new {w : World} {Z T : Array Value} {t : TypeId} (hs : T.size = Z.size) : (w.alloc (.cells Z t)).setCells w.heap.size 0 T.toList = w.alloc (.cells T t) := by
  have key : ∀ (vs : List Value) (C : Array Value) (o : Nat), (w.alloc (.cells C t)).setCells w.heap.size o vs = w.alloc (.cells (spl C o vs) t) := by
    intro vs
    induction vs with
    | nil => intro C o; rfl
    | cons v vs ih =>
      intro C o
      rw [World.setCells, spl, ← ih]
      congr 1
      exact World.setCell_alloc_at _ _ _ _ _ rfl
  rw [key, spl_all' hs]
theorem wpList_store_new {ops : Array Oper} {rest : List Oper} {op : Oper} {a : Act} {w : World} {Q : Exit → Act → World → Prop} (ty : TypeId) {x y : Operand} {Z T : Array Value} {t : TypeId} {b : Nat} (hgd : op.guard = none) (ho : op.op = .store ty x y) (hx : a.eval x = .pointer (some ⟨b, 0, none⟩)) (hy : a.eval y = .agg T)
    (hb : SizeIs b w) (hs : T.size = Z.size) (hi : (Try.prog.info? ty).map (·.size) = some T.size) (h1 : T.all (·.oneCell') = true)
    (h : wpList Try.prog ops Q rest (a.put op.dst undef) (w.alloc (.cells T t))) : wpList Try.prog ops Q (op :: rest) a (w.alloc (.cells Z t)) := by
  have hb := hb.out
  subst hb
  refine wpList_store_part (o := 0) (C := Z) (t := t) ty hgd ho hx hy (by omega) hi h1 ?_
  rw [sets_new hs]
  exact h
theorem l_newRu {ops : Array Oper} {rest : List Oper} {op : Oper} {a : Act} {w : World} {Q : Exit → Act → World → Prop} {x y : Operand} {Z : Array Value} {t : TypeId} {b : Nat} {r : Rn} (hgd : op.guard = none) (ho : op.op = .store 33 x y) (hx : a.eval x = .pointer (some ⟨b, 0, none⟩)) (hy : a.eval y = .agg (RuA r)) (hb : SizeIs b w) (hs : 12 = Z.size)
    (h : wpList Try.prog ops Q rest (a.put op.dst undef) (w.alloc (.cells (RuA r) t))) : wpList Try.prog ops Q (op :: rest) a (w.alloc (.cells Z t)) :=
  wpList_store_new (T := RuA r) 33 hgd ho hx hy hb hs (by kernel_rfl) (by simp [RuA, Value.oneCell']) h
theorem showR_any (r : Rn) (w : World) : Calls Try.prog 13 #[.agg (RuA r)] w fun e w' => e = .returned (.int .i64 (showM r.c r.fs)) ∧ Below w.heap.size w w' := show_any _ _ _ _ _ _ _ _ _ _ _ _ w
theorem rshowR_any (r : Rn) (w : World) : Calls Try.prog 28 #[.agg (RuA r)] w fun e w' => e = .returned (.int .i64 (showM r.c r.fs)) ∧ Below w.heap.size w w' := rshow_any _ _ _ _ _ _ _ _ _ _ _ _ w
class Sz96 (C : Array Value) : Prop where
  out : C.size = 96
theorem load_runs {w : World} {b : Nat} {C : Array Value} {t : TypeId} [h : IsBlk w b C t] [hz : Sz96 C] : Sem.run Try.prog (Instr.loadAt 52 (.pointer (some ⟨b, 0, none⟩))) w = .ok (.agg C) w := by
  have e : ((C.extract 0 (0 + 96)).toList).length = 96 := by have := hz.out; simp; omega
  have := run_loadAt_mid (P := Try.prog) w b 0 52 (C.extract 0 (0 + 96)).toList _ (World.rangeAt_of_block h.out 0 96) Try.underlying52 rfl (by rw [e]; kernel_rfl)
  rwa [Array.toArray_toList, show C.extract 0 (0 + 96) = C by rw [Nat.zero_add, ← hz.out]; exact Array.extract_size] at this
theorem q_lruns {W : World} {K : Act → Prop} {op : Oper} {a : Act} {x : Operand} {b : Nat} {C : Array Value} {t : TypeId} [hz : Sz96 C] (ho : op.op = .load 52 x) (hx : a.eval x = .pointer (some ⟨b, 0, none⟩)) [h : IsBlk W b C t]
    (hk : K (a.put op.dst (.agg C))) : op.quiet Try.prog a (fun w' => ∃ u : Up W, w' = u.w) K := quiet_load_at ho hx (fun u => load_runs) hk
theorem z_lruns {W : World} {Z : World → Prop} {K : Act → Prop} {op : Oper} {a : Act} {x : Operand} {b : Nat} {C : Array Value} {t : TypeId} [hz : Sz96 C] (ho : op.op = .load 52 x) (hx : a.eval x = .pointer (some ⟨b, 0, none⟩)) [h : IsBlk W b C t]
    (hk : K (a.put op.dst (.agg C))) : op.quiet Try.prog a (fun w' => ∃ u : UpZ W Z, w' = u.up.w) K := quiet_load_z ho hx (fun u => load_runs) hk
theorem l_lruns {ops : Array Oper} {rest : List Oper} {op : Oper} {a : Act} {w : World} {Q : Exit → Act → World → Prop} {x : Operand} {b : Nat} {C : Array Value} {t : TypeId} [hz : Sz96 C] (hgd : op.guard = none) (ho : op.op = .load 52 x) (hx : a.eval x = .pointer (some ⟨b, 0, none⟩)) [h : IsBlk w b C t]
    (hk : wpList Try.prog ops Q rest (a.put op.dst (.agg C)) w) : wpList Try.prog ops Q (op :: rest) a w := wpList_load_at hgd ho hx load_runs hk
theorem y_lruns {ops : Array Oper} {S : World → Prop} {op : Oper} {a : Act} {x : Operand} {b : Nat} {C : Array Value} {t : TypeId} [hz : Sz96 C] (hw : Region.wanted op (yielded ops a.tmps) = true) (ho : op.op = .load 52 x) (hx : a.eval x = .pointer (some ⟨b, 0, none⟩)) (hS : ∀ w, S w → IsBlk w b C t) :
    YieldsIf Try.prog ops S op (.agg C) a := yieldsIf_load_at hw ho hx (fun w hs => by haveI := hS w hs; exact load_runs)
class IsLm (C : Array Value) : Prop where
  out : C.size = 8
instance (G : Nat → Int) (k : Nat) : IsLm (arrK G k) := ⟨arrK_size G k⟩
theorem load_lm {w : World} {b : Nat} {C : Array Value} {t : TypeId} [h : IsBlk w b C t] [hz : IsLm C] : Sem.run Try.prog (Instr.loadAt 23 (.pointer (some ⟨b, 0, none⟩))) w = .ok (.agg C) w := by
  have := run_loadAt_mid (P := Try.prog) w b 0 23 C.toList _ (blk_range h.out 0 _ fun j hj => by simp) Try.underlying23 rfl (by simp only [Array.length_toList, hz.out]; kernel_rfl)
  simpa using this
theorem q_llm {W : World} {K : Act → Prop} {op : Oper} {a : Act} {x : Operand} {b : Nat} {C : Array Value} {t : TypeId} [hz : IsLm C] (ho : op.op = .load 23 x) (hx : a.eval x = .pointer (some ⟨b, 0, none⟩)) [h : IsBlk W b C t]
    (hk : K (a.put op.dst (.agg C))) : op.quiet Try.prog a (fun w' => ∃ u : Up W, w' = u.w) K := quiet_load_at ho hx (fun u => load_lm) hk
theorem z_llm {W : World} {Z : World → Prop} {K : Act → Prop} {op : Oper} {a : Act} {x : Operand} {b : Nat} {C : Array Value} {t : TypeId} [hz : IsLm C] (ho : op.op = .load 23 x) (hx : a.eval x = .pointer (some ⟨b, 0, none⟩)) [h : IsBlk W b C t]
    (hk : K (a.put op.dst (.agg C))) : op.quiet Try.prog a (fun w' => ∃ u : UpZ W Z, w' = u.up.w) K := quiet_load_z ho hx (fun u => load_lm) hk
theorem l_llm {ops : Array Oper} {rest : List Oper} {op : Oper} {a : Act} {w : World} {Q : Exit → Act → World → Prop} {x : Operand} {b : Nat} {C : Array Value} {t : TypeId} [hz : IsLm C] (hgd : op.guard = none) (ho : op.op = .load 23 x) (hx : a.eval x = .pointer (some ⟨b, 0, none⟩)) [h : IsBlk w b C t]
    (hk : wpList Try.prog ops Q rest (a.put op.dst (.agg C)) w) : wpList Try.prog ops Q (op :: rest) a w := wpList_load_at hgd ho hx load_lm hk
theorem y_llm {ops : Array Oper} {S : World → Prop} {op : Oper} {a : Act} {x : Operand} {b : Nat} {C : Array Value} {t : TypeId} [hz : IsLm C] (hw : Region.wanted op (yielded ops a.tmps) = true) (ho : op.op = .load 23 x) (hx : a.eval x = .pointer (some ⟨b, 0, none⟩)) (hS : ∀ w, S w → IsBlk w b C t) :
    YieldsIf Try.prog ops S op (.agg C) a := yieldsIf_load_at hw ho hx (fun w hs => by haveI := hS w hs; exact load_lm)
set_option maxHeartbeats 8000000 in
set_option maxRecDepth 100000 in
theorem all_any (R : Array Value) (rn : Nat → Rn) (w : World) (hR : IsRuns R rn) :
    Calls Try.prog 16 #[.agg R] w fun e w' => e = .returned (.agg (arrK (fun k => showM (rn k).c (rn k).fs) 8)) ∧ Below w.heap.size w w' := by
  obtain ⟨G, hG⟩ : ∃ G : Nat → Int, G = fun k => showM (rn k).c (rn k).fs := ⟨_, rfl⟩
  rw [← hG]
  have HG : Hid (∀ k, showM (rn k).c (rn k).fs = G k) := Lib.hid fun k => by rw [hG]
  have HX : Hid (∀ k, k < 8 → ∀ w, Sem.run Try.prog (Instr.index 52 (.agg R) (.int .i64 (k : Nat))) w = .ok (.agg (RuA (rn k))) w) := Lib.hid fun k hk w' => run_index_run hR hk w'
  haveI : Sz96 R := ⟨hR.1⟩
  clear hG hR
  haveI : Apart (w.heap.size + 1) (w.heap.size + 1 + 1) := ⟨by omega⟩
  go_enter Try.func16, Try.ntmps16
  go_wp2_with (refine l_lruns rfl rfl rfl ?_; go_simp)
  go_loopw [7] (fun i wr => ∃ k : Nat, k ≤ 8 ∧ i = .int .i64 k ∧ Below w.heap.size w wr ∧ Hid (IsBlk wr (w.heap.size + 1) (arrK G 0) 23 ∧ IsBlk wr (w.heap.size + 1 + 1) (arrK G k) 23)) (fun i _ => 8 - (intOf i).toNat)
  case atStart =>
    refine ⟨0, Nat.zero_le _, rfl, by (repeat' (first | (with_reducible exact Below.refl _ _) | (with_reducible assumption) | (with_reducible refine Below.setCell ?_ ?_ _) | (with_reducible refine Below.alloc ?_ ?_ _) | (with_reducible refine Below.drew ?_) | (with_reducible refine Up.base _ ?_ ?_) | (with_reducible exact LeSize.out) | exact LeSize.out | exact Nat.le_add_right_of_le LeSize.out | exact Nat.le_add_right_of_le (Nat.le_add_right_of_le LeSize.out) | (with_reducible exact Nat.le_refl _) | (simp; done) | (simp; omega))), Lib.hid ?_⟩
    rw [arrK_zero]
    exact ⟨inferInstance, inferInstance⟩
  case round =>
    obtain ⟨k, hk, rfl, hb, HH⟩ := hrel
    obtain ⟨i1, i2⟩ := HH.out
    haveI : LeSize w.heap.size wr := ⟨hb.size⟩
    have l2 := i2.le.out
    by_cases hlt : k < 8
    · have hix := HX.out k hlt
      have hg := HG.out k
      have HS := Lib.hid (arrK_set G hlt)
      have hkI : (k : Int) < 8 := by omega
      have hck : (arrK G k)[k]? = some (.int .i64 0) := by rw [arrK_get _ _ hlt]; simp
      generalize rn k = r at *
      go_wp2_with (first | (refine l_newRu rfl rfl rfl rfl inferInstance rfl ?_; go_simp) | (refine l_ru rfl rfl rfl ?_; go_simp) | (go_at_call 13; refine (Up.run (showR_any _ _)).mono ?_; rintro e w' ⟨rfl, ush, rfl⟩))
      go_roundw
      case rel =>
        refine ⟨k + 1, by omega, by go_num, ?_, Lib.hid ?_⟩
        · exact Below.setCell (by (repeat' (first | (with_reducible exact Below.refl _ _) | (with_reducible assumption) | (with_reducible refine Below.setCell ?_ ?_ _) | (with_reducible refine Below.alloc ?_ ?_ _) | (with_reducible refine Below.drew ?_) | (with_reducible refine Up.base _ ?_ ?_) | (with_reducible exact LeSize.out) | exact LeSize.out | exact Nat.le_add_right_of_le LeSize.out | exact Nat.le_add_right_of_le (Nat.le_add_right_of_le LeSize.out) | (with_reducible exact Nat.le_refl _) | (simp; done) | (simp; omega)))) (by (try simp); (try omega)) _
        · rw [← HS.out]; exact ⟨inferInstance, inferInstance⟩
      case measure => simp [intOf]; omega
    · obtain rfl : k = 8 := by omega
      clear HH HG HX
      go_upto_region 7 with fail
      have HSET : Hid ((wr.setCells (w.heap.size + 1) 0 (arrK G 8).toList).heap[w.heap.size + 1]? = some (.cells (arrK G 8) 23)) := Lib.hid (by rw [heap_sets_same _ i1.out, spl_all' (by rw [arrK_size, arrK_size])])
      have HBEL : Hid (Below w.heap.size w (wr.setCells (w.heap.size + 1) 0 (arrK G 8).toList)) := Lib.hid (below_setCells _ _ hb (by omega))
      obtain ⟨W9, hW9⟩ : ∃ W9, wr.setCells (w.heap.size + 1) 0 (arrK G 8).toList = W9 := ⟨_, rfl⟩
      rw [hW9] at HSET HBEL
      have HW9 := Lib.hid hW9
      have el2 : Sem.run Try.prog (Instr.loadAt 23 (.pointer (some ⟨w.heap.size + 1 + 1, 0, none⟩))) wr = .ok (.agg (arrK G 8)) wr := load_lm
      clear hW9
      go_wp2_with (first
        | (refine wpList_load_at rfl rfl rfl el2 ?_; clear el2; go_simp)
        | (refine wpList_store_part (o := 0) (cs := arrK G 8) (C := arrK G 0) (t := 23) (b := w.heap.size + 1) (hb := i1) 23 rfl rfl rfl rfl (by rw [arrK_size, arrK_size]; omega) (by rw [arrK_size]; kernel_rfl) (arrK_one _ _) ?_; rw [HW9.out]; clear i1 i2 hb; go_simp))
      refine bodyPost_ret (results_cell_row (p := 2) (ty := 23) rfl _ _ (w.heap.size + 1) 23 (arrK G 8) (0, 0) _ rfl HSET.out Try.underlying23 rfl (by rw [arrK_size]; kernel_rfl)) rfl ?_
      exact ⟨rfl, HBEL.out⟩
set_option maxHeartbeats 8000000 in
set_option maxRecDepth 100000 in
theorem rall_any (R : Array Value) (rn : Nat → Rn) (w : World) (hR : IsRuns R rn) :
    Calls Try.prog 17 #[.agg R] w fun e w' => e = .returned (.agg (arrK (fun k => showM (rn k).c (rn k).fs) 8)) ∧ Below w.heap.size w w' := by
  obtain ⟨G, hG⟩ : ∃ G : Nat → Int, G = fun k => showM (rn k).c (rn k).fs := ⟨_, rfl⟩
  rw [← hG]
  have HG : Hid (∀ k, showM (rn k).c (rn k).fs = G k) := Lib.hid fun k => by rw [hG]
  have HX := Lib.hid hR
  clear hG hR
  haveI : Apart (w.heap.size + 1) (w.heap.size + 1 + 1) := ⟨by omega⟩
  haveI : Apart w.heap.size (w.heap.size + 1 + 1) := ⟨by omega⟩
  go_enter Try.func17, Try.ntmps17
  go_wp2_with fail
  go_loopw [4] (fun i wr => ∃ k : Nat, k ≤ 8 ∧ i = .int .i64 k ∧ Below w.heap.size w wr ∧ Hid (IsBlk wr w.heap.size R 52 ∧ IsBlk wr (w.heap.size + 1) (arrK G 0) 23 ∧ IsBlk wr (w.heap.size + 1 + 1) (arrK G k) 23)) (fun i _ => 8 - (intOf i).toNat)
  case atStart =>
    refine ⟨0, Nat.zero_le _, rfl, by (repeat' (first | (with_reducible exact Below.refl _ _) | (with_reducible assumption) | (with_reducible refine Below.setCell ?_ ?_ _) | (with_reducible refine Below.alloc ?_ ?_ _) | (with_reducible refine Below.drew ?_) | (with_reducible refine Up.base _ ?_ ?_) | (with_reducible exact LeSize.out) | exact LeSize.out | exact Nat.le_add_right_of_le LeSize.out | exact Nat.le_add_right_of_le (Nat.le_add_right_of_le LeSize.out) | (with_reducible exact Nat.le_refl _) | (simp; done) | (simp; omega))), Lib.hid ?_⟩
    rw [arrK_zero]
    exact ⟨inferInstance, inferInstance, inferInstance⟩
  case round =>
    obtain ⟨k, hk, rfl, hb, HH⟩ := hrel
    obtain ⟨i0, i1, i2⟩ := HH.out
    haveI : LeSize w.heap.size wr := ⟨hb.size⟩
    have l2 := i2.le.out
    by_cases hlt : k < 8
    · haveI hix : IsRu R (k * 12) (rn k) := ⟨HX.out.2 k hlt⟩
      have hg := HG.out k
      have HS := Lib.hid (arrK_set G hlt)
      have hkI : (k : Int) < 8 := by omega
      have hck : (arrK G k)[k]? = some (.int .i64 0) := by rw [arrK_get _ _ hlt]; simp
      generalize rn k = r at *
      go_wp2_with (first | (refine l_ru rfl rfl rfl ?_; go_simp) | (go_at_call 28; refine (Up.run (rshowR_any _ _)).mono ?_; rintro e w' ⟨rfl, ush, rfl⟩))
      go_roundw
      case rel =>
        refine ⟨k + 1, by omega, by go_num, ?_, Lib.hid ?_⟩
        · exact Below.setCell (by (repeat' (first | (with_reducible exact Below.refl _ _) | (with_reducible assumption) | (with_reducible refine Below.setCell ?_ ?_ _) | (with_reducible refine Below.alloc ?_ ?_ _) | (with_reducible refine Below.drew ?_) | (with_reducible refine Up.base _ ?_ ?_) | (with_reducible exact LeSize.out) | exact LeSize.out | exact Nat.le_add_right_of_le LeSize.out | exact Nat.le_add_right_of_le (Nat.le_add_right_of_le LeSize.out) | (with_reducible exact Nat.le_refl _) | (simp; done) | (simp; omega)))) (by (try simp); (try omega)) _
        · rw [← HS.out]; exact ⟨inferInstance, inferInstance, inferInstance⟩
      case measure => simp [intOf]; omega
    · obtain rfl : k = 8 := by omega
      clear HH HG HX i0
      go_upto_region 6 with fail
      have HSET : Hid ((wr.setCells (w.heap.size + 1) 0 (arrK G 8).toList).heap[w.heap.size + 1]? = some (.cells (arrK G 8) 23)) := Lib.hid (by rw [heap_sets_same _ i1.out, spl_all' (by rw [arrK_size, arrK_size])])
      have HBEL : Hid (Below w.heap.size w (wr.setCells (w.heap.size + 1) 0 (arrK G 8).toList)) := Lib.hid (below_setCells _ _ hb (by omega))
      obtain ⟨W9, hW9⟩ : ∃ W9, wr.setCells (w.heap.size + 1) 0 (arrK G 8).toList = W9 := ⟨_, rfl⟩
      rw [hW9] at HSET HBEL
      have HW9 := Lib.hid hW9
      have el2 : Sem.run Try.prog (Instr.loadAt 23 (.pointer (some ⟨w.heap.size + 1 + 1, 0, none⟩))) wr = .ok (.agg (arrK G 8)) wr := load_lm
      clear hW9
      go_wp2_with (first
        | (refine wpList_load_at rfl rfl rfl el2 ?_; clear el2; go_simp)
        | (refine wpList_store_part (o := 0) (cs := arrK G 8) (C := arrK G 0) (t := 23) (b := w.heap.size + 1) (hb := i1) 23 rfl rfl rfl rfl (by rw [arrK_size, arrK_size]; omega) (by rw [arrK_size]; kernel_rfl) (arrK_one _ _) ?_; rw [HW9.out]; clear i1 i2 hb; go_simp))
      refine bodyPost_ret (results_cell_row (p := 2) (ty := 23) rfl _ _ (w.heap.size + 1) 23 (arrK G 8) (0, 0) _ rfl HSET.out Try.underlying23 rfl (by rw [arrK_size]; kernel_rfl)) rfl ?_
      exact ⟨rfl, HBEL.out⟩
end Go.Proofs.Ytkfilolomjhdeaa
