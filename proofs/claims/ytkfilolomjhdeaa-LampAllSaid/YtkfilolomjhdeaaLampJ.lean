/- For all runs and tables All, Show and Pattern return what the reference returns. -/
import Derived.Test.YtkfilolomjhdeaaLampI
import Derived.ChangeKeysEq
namespace Go.Proofs.Ytkfilolomjhdeaa
open Go.ChangeShapes Go.WideShapes Go.ChangeAt Go.RowKit
set_option linter.unusedVariables false
attribute [local go_sem] IsBlk.cell IsBlk.frozen

/-! ### How the arguments are opened -/
def ruTs : List TypeId := [3, 3, 3, 3, 3, 3, 3, 4, 4, 3, 3, 3]
def runsTs : List TypeId := (List.replicate 8 ruTs).flatten
def zRuns : Value := .agg (List.replicate 8 [Value.int .i64 0, .int .i64 0, .int .i64 0, .int .i64 0, .int .i64 0, .int .i64 0, .int .i64 0, .bool false, .bool false, .int .i64 0, .int .i64 0, .int .i64 0]).flatten.toArray
theorem runsTs_get : ∀ k : Fin 8, ∀ j : Fin 12, runsTs.getD (k.1 * 12 + j.1) 0 = ruTs.getD j.1 0 := by decide +kernel
def iOf : Value → Int | .int _ n => n | _ => 0
def bOf : Value → Bool | .bool b => b | _ => false
def ruOf (R : Array Value) (k : Nat) : Rn :=
  let g := fun j => (R[k * 12 + j]?).getD undef
  ⟨iOf (g 0), iOf (g 1), iOf (g 2), iOf (g 3), iOf (g 4), iOf (g 5), iOf (g 6), bOf (g 7), bOf (g 8), iOf (g 9), iOf (g 10), iOf (g 11)⟩
theorem open_runs {H : Type} {enc : TypeId × Value → H} {w : World} {spare : Nat → Bool} {held : Bool} {r : Go.Reach} {base' base : Nat} {v : Value} {d : DataW H} {ps : List MemPlace}
    (hval : Value.okWide Try.prog w r base' 52 v) (hd : DataW.Trod enc Try.prog w base spare held 52 v d ps) :
    ∃ R : Array Value, ∃ rn : Nat → Rn, v = .agg R ∧ IsRuns R rn := by
  obtain ⟨cs, rfl, hs, hf⟩ := open_flat (ts := runsTs) (by rw [Try.underlying52]) (by kernel_rfl) (by kernel_rfl) hval
  have hs96 : cs.size = 96 := hs
  refine ⟨cs, ruOf cs, rfl, hs96, fun k hk j hj => ?_⟩
  have hlt : k * 12 + j < cs.size := by omega
  have h1 := hf (k * 12 + j) hlt
  rw [runsTs_get ⟨k, hk⟩ ⟨j, hj⟩] at h1
  have e : (cs[k * 12 + j]?) = some cs[k * 12 + j] := Array.getElem?_eq_getElem hlt
  rw [e]
  have ei : ∀ n, cs[k * 12 + j] = .int .i64 n → iOf ((cs[k * 12 + j]?).getD undef) = n := fun n hn => by rw [e, hn]; rfl
  have eb : ∀ n, cs[k * 12 + j] = .bool n → bOf ((cs[k * 12 + j]?).getD undef) = n := fun n hn => by rw [e, hn]; rfl
  rcases (show j = 0 ∨ j = 1 ∨ j = 2 ∨ j = 3 ∨ j = 4 ∨ j = 5 ∨ j = 6 ∨ j = 7 ∨ j = 8 ∨ j = 9 ∨ j = 10 ∨ j = 11 by omega) with rfl | rfl | rfl | rfl | rfl | rfl | rfl | rfl | rfl | rfl | rfl | rfl
  all_goals first
    | (obtain ⟨n, hn, _⟩ := Fit.int (t := 3) h1 Try.underlying3
       have := ei n hn
       rw [hn, ← this]; rfl)
    | (obtain ⟨n, hn⟩ := Fit.bool (t := 4) h1 Try.underlying4
       have := eb n hn
       rw [hn, ← this]; rfl)
def phTs : List TypeId := [4, 3, 3, 3, 3, 3, 3, 3, 3, 3, 3, 4, 4]
def tabTs : List TypeId := (List.replicate 8 phTs).flatten ++ [42] ++ List.replicate 8 3 ++ [43, 44, 45] ++ List.replicate 5 3 ++ List.replicate 8 3 ++ [3, 3]
def zTab : Value := .agg ((List.replicate 8 [Value.bool false, .int .i64 0, .int .i64 0, .int .i64 0, .int .i64 0, .int .i64 0, .int .i64 0, .int .i64 0, .int .i64 0, .int .i64 0, .int .i64 0, .bool false, .bool false]).flatten ++ [Value.slice none 0 0] ++ List.replicate 8 (Value.int .i64 0) ++ [Value.slice none 0 0, Value.slice none 0 0, Value.slice none 0 0] ++ List.replicate 15 (Value.int .i64 0)).toArray
theorem open_tabF {H : Type} {enc : TypeId × Value → H} {w : World} {spare : Nat → Bool} {held : Bool} {r : Go.Reach} {base' base : Nat} {v : Value} {d : DataW H} {ps : List MemPlace}
    (hval : Value.okWide Try.prog w r base' 47 v) (hd : DataW.Trod enc Try.prog w base spare held 47 v d ps) :
    ∃ T : Array Value, ∃ F : Nat → Int, v = .agg T ∧ (T.size = 131 ∧ ∀ i, i < 8 → T[121 + i]? = some (.int .i64 (F i))) := by
  obtain ⟨cs, rfl, hs, hf⟩ := open_flat (ts := tabTs) (by rw [Try.underlying47]) (by kernel_rfl) (by kernel_rfl) hval
  have hs131 : cs.size = 131 := hs
  refine ⟨cs, fun i => iOf ((cs[121 + i]?).getD undef), rfl, hs131, fun i hi => ?_⟩
  have hlt : 121 + i < cs.size := by omega
  have h1 := hf (121 + i) hlt
  have ht : tabTs.getD (121 + i) 0 = 3 := by
    rcases (show i = 0 ∨ i = 1 ∨ i = 2 ∨ i = 3 ∨ i = 4 ∨ i = 5 ∨ i = 6 ∨ i = 7 by omega) with rfl | rfl | rfl | rfl | rfl | rfl | rfl | rfl <;> rfl
  rw [ht] at h1
  obtain ⟨n, hn, _⟩ := Fit.int h1 Try.underlying3
  simp only [Array.getElem?_eq_getElem hlt, hn]
  rfl
/-! ### The walk -/
class Sz131L (C : Array Value) : Prop where
  out : C.size = 131
theorem load_tabL {w : World} {b : Nat} {C : Array Value} {t : TypeId} [h : IsBlk w b C t] [hz : Sz131L C] : Sem.run Try.prog (Instr.loadAt 47 (.pointer (some ⟨b, 0, none⟩))) w = .ok (.agg C) w := by
  have e : ((C.extract 0 (0 + 131)).toList).length = 131 := by have := hz.out; simp; omega
  have := run_loadAt_mid (P := Try.prog) w b 0 47 (C.extract 0 (0 + 131)).toList _ (World.rangeAt_of_block h.out 0 131) Try.underlying47 rfl (by rw [e]; kernel_rfl)
  rwa [Array.toArray_toList, show C.extract 0 (0 + 131) = C by rw [Nat.zero_add, ← hz.out]; exact Array.extract_size] at this
theorem q_ltabL {W : World} {K : Act → Prop} {op : Oper} {a : Act} {x : Operand} {b : Nat} {C : Array Value} {t : TypeId} [hz : Sz131L C] (ho : op.op = .load 47 x) (hx : a.eval x = .pointer (some ⟨b, 0, none⟩)) [h : IsBlk W b C t]
    (hk : K (a.put op.dst (.agg C))) : op.quiet Try.prog a (fun w' => ∃ u : Up W, w' = u.w) K := quiet_load_at ho hx (fun u => load_tabL) hk
theorem z_ltabL {W : World} {Z : World → Prop} {K : Act → Prop} {op : Oper} {a : Act} {x : Operand} {b : Nat} {C : Array Value} {t : TypeId} [hz : Sz131L C] (ho : op.op = .load 47 x) (hx : a.eval x = .pointer (some ⟨b, 0, none⟩)) [h : IsBlk W b C t]
    (hk : K (a.put op.dst (.agg C))) : op.quiet Try.prog a (fun w' => ∃ u : UpZ W Z, w' = u.up.w) K := quiet_load_z ho hx (fun u => load_tabL) hk
theorem l_ltabL {ops : Array Oper} {rest : List Oper} {op : Oper} {a : Act} {w : World} {Q : Exit → Act → World → Prop} {x : Operand} {b : Nat} {C : Array Value} {t : TypeId} [hz : Sz131L C] (hgd : op.guard = none) (ho : op.op = .load 47 x) (hx : a.eval x = .pointer (some ⟨b, 0, none⟩)) [h : IsBlk w b C t]
    (hk : wpList Try.prog ops Q rest (a.put op.dst (.agg C)) w) : wpList Try.prog ops Q (op :: rest) a w := wpList_load_at hgd ho hx load_tabL hk
theorem y_ltabL {ops : Array Oper} {S : World → Prop} {op : Oper} {a : Act} {x : Operand} {b : Nat} {C : Array Value} {t : TypeId} [hz : Sz131L C] (hw : Region.wanted op (yielded ops a.tmps) = true) (ho : op.op = .load 47 x) (hx : a.eval x = .pointer (some ⟨b, 0, none⟩)) (hS : ∀ w, S w → IsBlk w b C t) :
    YieldsIf Try.prog ops S op (.agg C) a := yieldsIf_load_at hw ho hx (fun w hs => by haveI := hS w hs; exact load_tabL)
theorem q_lru {W : World} {K : Act → Prop} {op : Oper} {a : Act} {x : Operand} {b : Nat} {C : Array Value} {t : TypeId} {r : Rn} [hr : IsRu C 0 r] (ho : op.op = .load 33 x) (hx : a.eval x = .pointer (some ⟨b, 0, none⟩)) [h : IsBlk W b C t]
    (hk : K (a.put op.dst (.agg (RuA r)))) : op.quiet Try.prog a (fun w' => ∃ u : Up W, w' = u.w) K := quiet_load_at ho hx (fun u => load_ru) hk
theorem z_lru {W : World} {Z : World → Prop} {K : Act → Prop} {op : Oper} {a : Act} {x : Operand} {b : Nat} {C : Array Value} {t : TypeId} {r : Rn} [hr : IsRu C 0 r] (ho : op.op = .load 33 x) (hx : a.eval x = .pointer (some ⟨b, 0, none⟩)) [h : IsBlk W b C t]
    (hk : K (a.put op.dst (.agg (RuA r)))) : op.quiet Try.prog a (fun w' => ∃ u : UpZ W Z, w' = u.up.w) K := quiet_load_z ho hx (fun u => load_ru) hk
theorem l_lru {ops : Array Oper} {rest : List Oper} {op : Oper} {a : Act} {w : World} {Q : Exit → Act → World → Prop} {x : Operand} {b : Nat} {C : Array Value} {t : TypeId} {r : Rn} [hr : IsRu C 0 r] (hgd : op.guard = none) (ho : op.op = .load 33 x) (hx : a.eval x = .pointer (some ⟨b, 0, none⟩)) [h : IsBlk w b C t]
    (hk : wpList Try.prog ops Q rest (a.put op.dst (.agg (RuA r))) w) : wpList Try.prog ops Q (op :: rest) a w := wpList_load_at hgd ho hx load_ru hk
theorem y_lru {ops : Array Oper} {S : World → Prop} {op : Oper} {a : Act} {x : Operand} {b : Nat} {C : Array Value} {t : TypeId} {r : Rn} [hr : IsRu C 0 r] (hw : Region.wanted op (yielded ops a.tmps) = true) (ho : op.op = .load 33 x) (hx : a.eval x = .pointer (some ⟨b, 0, none⟩)) (hS : ∀ w, S w → IsBlk w b C t) :
    YieldsIf Try.prog ops S op (.agg (RuA r)) a := yieldsIf_load_at hw ho hx (fun w hs => by haveI := hS w hs; exact load_ru)
theorem l_newLm {ops : Array Oper} {rest : List Oper} {op : Oper} {a : Act} {w : World} {Q : Exit → Act → World → Prop} {x y : Operand} {Z : Array Value} {t : TypeId} {b : Nat} {G : Nat → Int} (hgd : op.guard = none) (ho : op.op = .store 23 x y) (hx : a.eval x = .pointer (some ⟨b, 0, none⟩)) (hy : a.eval y = .agg (arrK G 8)) (hb : SizeIs b w) (hs : 8 = Z.size)
    (h : wpList Try.prog ops Q rest (a.put op.dst undef) (w.alloc (.cells (arrK G 8) t))) : wpList Try.prog ops Q (op :: rest) a (w.alloc (.cells Z t)) :=
  wpList_store_new (T := arrK G 8) 23 hgd ho hx hy hb (by rw [arrK_size]; exact hs) (by rw [arrK_size]; kernel_rfl) (arrK_one _ _) h
theorem run_eql_lm (G : Nat → Int) (w : World) : Sem.run Try.prog (binOp .eql 23 (.agg (arrK G 8)) (.agg (arrK G 8))) w = .ok (.bool true) w := by
  obtain ⟨i0, hinfo, _⟩ := info_parts info_int
  have hc : Try.prog.cellsOf 3 = 1 := by kernel_rfl
  have key : (Op.equalIn 10000 23 (.agg (arrK G 8)) (.agg (arrK G 8))).run Try.prog w = .ok true w := by
    rw [run_equalIn_array (P := Try.prog) w 9999 (arrK G 8) (arrK G 8) Try.underlying23 hinfo, hc, arrK_all]
    simp [List.range_succ, Op.eqItems, part, isAgg, run_underlying Try.underlying3, Sem.run_bind, Result.andThen, go_sem]
  generalize arrK G 8 = C at *
  simp [go_sem, key]
theorem patternK_any (cs : Array Value) (F : Nat → Int) (w : World) (hcs : Hid (∀ i, i < 8 → cs[121 + i]? = some (.int .i64 (F i)))) :
    Calls Try.prog 15 #[.agg cs] w fun e w' => e = .returned (.agg (arrK (fun i => patM (F i)) 8)) ∧ Below w.heap.size w w' := by
  have := pattern_any cs F w hcs
  rwa [← arrK_all (fun i => patM (F i))] at this
theorem rpatternK_any (cs : Array Value) (F : Nat → Int) (w : World) (hcs : Hid (∀ i, i < 8 → cs[121 + i]? = some (.int .i64 (F i)))) :
    Calls Try.prog 18 #[.agg cs] w fun e w' => e = .returned (.agg (arrK (fun i => patM (F i)) 8)) ∧ Below w.heap.size w w' := by
  have := rpattern_any cs F w hcs
  rwa [← arrK_all (fun i => patM (F i))] at this
set_option maxHeartbeats 8000000 in
set_option maxRecDepth 100000 in
theorem lampAll_walk (R : Array Value) (rn : Nat → Rn) (T : Array Value) (F : Nat → Int) (w : World) (hR : IsRuns R rn) (hT : T.size = 131 ∧ ∀ i, i < 8 → T[121 + i]? = some (.int .i64 (F i))) :
    Calls Try.prog 6 #[.agg R, .agg T] w fun e w' => e = .returned (.bool true) ∧ Below w.heap.size w w' := by
  have hA := fun w' => all_any R rn w' hR
  have HA := fun w' => rall_any R rn w' hR
  have hP := fun w' => patternK_any T F w' (Lib.hid hT.2)
  have HP := fun w' => rpatternK_any T F w' (Lib.hid hT.2)
  have HS := fun w' => showR_any (rn 0) w'
  obtain ⟨G, hG⟩ : ∃ G : Nat → Int, G = fun k => showM (rn k).c (rn k).fs := ⟨_, rfl⟩
  obtain ⟨K, hK⟩ : ∃ K : Nat → Int, K = fun i => patM (F i) := ⟨_, rfl⟩
  have e0 : showM (rn 0).c (rn 0).fs = G 0 := by rw [hG]
  rw [e0] at HS
  simp only [← hG] at hA HA
  simp only [← hK] at hP HP
  have HA := Lib.hid HA
  have HP := Lib.hid HP
  have HS := Lib.hid HS
  have hA := Lib.hid hA
  have hP := Lib.hid hP
  haveI : Sz96 R := ⟨hR.1⟩
  haveI : Sz131L T := ⟨hT.1⟩
  haveI : IsRu R 0 (rn 0) := ⟨fun j hj => by have := hR.2 0 (by omega) j hj; simpa using this⟩
  have c0 : (arrK G 8)[0]? = some (.int .i64 (G 0)) := by rw [arrK_get _ _ (by omega)]; rfl
  have q1 := run_eql_lm G
  have q2 := run_eql_lm K
  clear hG hK e0 hR hT
  generalize rn 0 = r0 at *
  generalize G 0 = g0 at *
  go_enter Try.func6, Try.ntmps6
  go_wp2_with (first | (refine l_lruns rfl rfl rfl ?_; go_simp) | (refine l_ltabL rfl rfl rfl ?_; go_simp) | (refine l_newLm rfl rfl rfl rfl inferInstance rfl ?_; go_simp) | (go_at_call 16; refine (Up.run (hA.out _)).mono ?_; rintro e w' ⟨rfl, ua, rfl⟩) | (go_at_call 15; refine (Up.run (hP.out _)).mono ?_; rintro e w' ⟨rfl, up, rfl⟩))
  (refine wp_region_up (by kernel_rfl) (by kernel_rfl) ?_; (repeat (first | (go_big_quiet_want; refine q_lruns rfl rfl ?_; simp only [Act.put, List.setIfInBounds_toArray, List.set_cons_succ, List.set_cons_zero]; go_big_quiet_on) | (go_big_quiet_want; refine q_ltabL rfl rfl ?_; simp only [Act.put, List.setIfInBounds_toArray, List.set_cons_succ, List.set_cons_zero]; go_big_quiet_on) | (go_big_quiet_want; refine q_llm rfl rfl ?_; simp only [Act.put, List.setIfInBounds_toArray, List.set_cons_succ, List.set_cons_zero]; go_big_quiet_on) | (go_big_quiet_want; refine q_lru rfl rfl ?_; simp only [Act.put, List.setIfInBounds_toArray, List.set_cons_succ, List.set_cons_zero]; go_big_quiet_on) | go_big_quiet_step ((first | (go_at_call 17; (with_reducible refine Up.calls (HA.out _))) | (go_at_call 18; (with_reducible refine Up.calls (HP.out _))) | (go_at_call 13; (with_reducible refine Up.calls (HS.out _))) | (go_at_call 11; exact Up.calls (awake_any _)) | fail)))); refine wpQuiet_nil ?_; rintro _ ⟨u, rfl⟩)
  go_wp2
  go_ret
  exact ⟨rfl, by (repeat' (first | (with_reducible exact Below.refl _ _) | (with_reducible assumption) | (with_reducible refine Below.setCell ?_ ?_ _) | (with_reducible refine Below.alloc ?_ ?_ _) | (with_reducible refine Below.drew ?_) | (with_reducible refine Up.base _ ?_ ?_) | (with_reducible exact LeSize.out) | exact LeSize.out | exact Nat.le_add_right_of_le LeSize.out | exact Nat.le_add_right_of_le (Nat.le_add_right_of_le LeSize.out) | (with_reducible exact Nat.le_refl _) | (simp; done) | (simp; omega)))⟩
set_option maxRecDepth 100000 in
theorem LampAll_lifted (os : Os) (started : os.Started) (H : Type) (enc : TypeId × Value → H) :
    ReturnsInHanded {} Try.checked os 6 .any (Rows.lampAllSpec.pre6 enc Try.prog Try.f6 Rows.lampAllRow.domain false) (Rows.lampAllSpec.post enc Try.prog Try.f6 false true false false) := by
  refine returnsInHanded_of_change (C := Try.checked) own started (by kernel_rfl) Try.func6
    (ChangeSpec.witness6 (enc := enc) (C := Try.checked) false ⟨#[], #[zRuns, zTab], []⟩ 8 (by kernel_rfl) (by kernel_rfl) (by kernel_rfl) (by kernel_rfl)) ?_
  intro W base args ds gs before hval0 hW hcnd _
  have hval : ∀ (j : Nat) t v, Try.f6.params[j]? = some t → args[j]? = some v → Value.okWide Try.prog W .any base t v := hval0
  have hW' := hW
  obtain ⟨p, q, hA0, hV, rfl, hfz, hnd⟩ := hW
  have hA : DataW.TrodAll enc Try.prog W 0 (fun _ => true) true Try.f6.params.toList args.toList ds p := hA0
  rw [Try.params6] at hA hval
  obtain ⟨v0, vs0, d0, ds0, p0, q0, hargs, rfl, rfl, h0, r0⟩ := trodAll_cons hA
  obtain ⟨v1, vs1, d1, ds1, p1, q1, rfl, rfl, rfl, h1, r1⟩ := trodAll_cons r0
  obtain ⟨rfl, rfl, rfl⟩ := trodAll_nil r1
  obtain rfl : args = #[v0, v1] := by cases args; simp_all
  obtain ⟨rfl, rfl⟩ := trodVars_none hV
  have k0 := h0
  have lt0 : ∀ x ∈ p0, x.block < W.heap.size := by obtain ⟨m, hm⟩ := k0; exact DataW.trod_lt m _ _ _ hm
  have k1 := h1
  have lt1 : ∀ x ∈ p1, x.block < W.heap.size := by obtain ⟨m, hm⟩ := k1; exact DataW.trod_lt m _ _ _ hm
  obtain ⟨x0_0, x0_1, rfl, y0_0⟩ := open_runs (hval 0 52 v0 rfl rfl) k0
  obtain ⟨x1_0, x1_1, rfl, y1_0⟩ := open_tabF (hval 1 47 v1 rfl rfl) k1
  clear hA0 hval0
  refine (lampAll_walk x0_0 x0_1 x1_0 x1_1 W y0_0 y1_0).mono fun e W' ⟨he, bel⟩ => ?_
  subst he
  exact ⟨_, rfl, _, _, _, [], _, [], hW', trodAll_mk1 (shut_bool Try.underlying4 _), (trodAll_cons_mk (Below.trod laidOut (by kernel_rfl) (of_decide_eq_true (by kernel_rfl)) k0 bel lt0) (trodAll_cons_mk (Below.trod laidOut (by kernel_rfl) (of_decide_eq_true (by kernel_rfl)) k1 bel lt1) trodAll_mk0)), rfl, bel.frame _, fun h => by cases h⟩

theorem LampAll_over : Rows.lampAllRow.holds Try.pinned (OpenSpec.ofChange Rows.lampAllSpec) :=
  OpenClaim.holds_of_wide 6 Try.f6 rfl rfl rfl rfl rfl rfl rfl ⟨rfl, rfl, rfl, rfl, rfl⟩ rfl rfl rfl rfl rfl (by kernel_rfl) Try.func6 (by kernel_rfl)
    (of_decide_eq_true (by kernel_rfl)) (by unfold Func.isWrapper; first | (rw [if_pos (by decide +kernel)]; kernel_rfl) | (rw [if_neg (by decide +kernel)]; exact ⟨rfl, rfl⟩))
    (fun os started H enc _ => LampAll_lifted os started H enc)

/-- The given statement. -/
theorem LampAll_holds : Rows.LampAllSaid := LampAll_over
#print axioms LampAll_holds
end Go.Proofs.Ytkfilolomjhdeaa
