/- The contract of package plan: On. -/
import Derived.Test.YtcgadkkjcbnfjaaPlnB
namespace Go.Proofs.Ytcgadkkjcbnfjaa
open Go.RowKit
set_option linter.unusedVariables false
attribute [local go_sem] IsBlk.cell IsBlk.frozen

/-! ### On -/
theorem of_snoc (l : List Int) (x : Int) : ofM (l ++ [x]) = withM (ofM l) x := packM_congr fun i hi => by
  unfold ofM
  rw [bitM_pack _ hi, Bool.eq_iff_iff]
  simp only [List.contains_iff_mem, List.mem_append, List.mem_singleton, Bool.or_eq_true, oneM, decide_eq_true_eq]
  exact or_congr Iff.rfl ⟨Eq.symm, Eq.symm⟩
theorem load_phs {w : World} {b : Nat} {C : Array Value} {t : TypeId} [h : IsBlk w b C t] [hz : Sz131 C] : Sem.run Try.prog (Instr.loadAt 25 (.pointer (some ⟨b, 0, none⟩))) w = .ok (.agg (C.extract 0 104)) w := by
  have e : ((C.extract 0 (0 + 104)).toList).length = 104 := by have := hz.out; simp; omega
  have := run_loadAt_mid (P := Try.prog) w b 0 25 (C.extract 0 (0 + 104)).toList _ (World.rangeAt_of_block h.out 0 104) Try.underlying25 rfl (by rw [e]; kernel_rfl)
  rwa [Array.toArray_toList, show C.extract 0 (0 + 104) = C.extract 0 104 by rw [Nat.zero_add]] at this
theorem q_lphs {W : World} {K : Act → Prop} {op : Oper} {a : Act} {x : Operand} {b : Nat} {C : Array Value} {t : TypeId} [hz : Sz131 C] (ho : op.op = .load 25 x) (hx : a.eval x = .pointer (some ⟨b, 0, none⟩)) [h : IsBlk W b C t]
    (hk : K (a.put op.dst (.agg (C.extract 0 104)))) : op.quiet Try.prog a (fun w' => ∃ u : Up W, w' = u.w) K := quiet_load_at ho hx (fun u => load_phs) hk
theorem z_lphs {W : World} {Z : World → Prop} {K : Act → Prop} {op : Oper} {a : Act} {x : Operand} {b : Nat} {C : Array Value} {t : TypeId} [hz : Sz131 C] (ho : op.op = .load 25 x) (hx : a.eval x = .pointer (some ⟨b, 0, none⟩)) [h : IsBlk W b C t]
    (hk : K (a.put op.dst (.agg (C.extract 0 104)))) : op.quiet Try.prog a (fun w' => ∃ u : UpZ W Z, w' = u.up.w) K := quiet_load_z ho hx (fun u => load_phs) hk
theorem l_lphs {ops : Array Oper} {rest : List Oper} {op : Oper} {a : Act} {w : World} {Q : Exit → Act → World → Prop} {x : Operand} {b : Nat} {C : Array Value} {t : TypeId} [hz : Sz131 C] (hgd : op.guard = none) (ho : op.op = .load 25 x) (hx : a.eval x = .pointer (some ⟨b, 0, none⟩)) [h : IsBlk w b C t]
    (hk : wpList Try.prog ops Q rest (a.put op.dst (.agg (C.extract 0 104))) w) : wpList Try.prog ops Q (op :: rest) a w := wpList_load_at hgd ho hx load_phs hk
theorem y_lphs {ops : Array Oper} {S : World → Prop} {op : Oper} {a : Act} {x : Operand} {b : Nat} {C : Array Value} {t : TypeId} [hz : Sz131 C] (hw : Region.wanted op (yielded ops a.tmps) = true) (ho : op.op = .load 25 x) (hx : a.eval x = .pointer (some ⟨b, 0, none⟩)) (hS : ∀ w, S w → IsBlk w b C t) :
    YieldsIf Try.prog ops S op (.agg (C.extract 0 104)) a := yieldsIf_load_at hw ho hx (fun w hs => by haveI := hS w hs; exact load_phs)
theorem info_ph13 : (Try.prog.info? 24).map (·.size) = some 13 := by kernel_rfl
theorem run_index_ph {C : Array Value} {p : Phs} {k : Nat} (hk : k < 8) (hs : C.size = 131) (h : ∀ j, j < 13 → C[k * 13 + j]? = some ((phC p).getD j undef)) (w : World) : Sem.run Try.prog (Instr.index 25 (.agg (C.extract 0 104)) (.int .i64 k)) w = .ok (.agg (PrR p)) w := by
  have hk8 : (k : Int) < 8 := by omega
  have e : C.extract (k * 13) (min (k * 13 + 13) 104) = PrR p := by
    rw [Nat.min_eq_left (by omega)]
    apply Array.ext_getElem?
    intro j
    by_cases hj : j < 13
    · have h1 : (C.extract (k * 13) (k * 13 + 13))[j]? = C[k * 13 + j]? := by
        rw [Array.getElem?_extract, if_pos (by omega)]
      rw [h1, h j hj]
      rcases (show j = 0 ∨ j = 1 ∨ j = 2 ∨ j = 3 ∨ j = 4 ∨ j = 5 ∨ j = 6 ∨ j = 7 ∨ j = 8 ∨ j = 9 ∨ j = 10 ∨ j = 11 ∨ j = 12 by omega) with rfl | rfl | rfl | rfl | rfl | rfl | rfl | rfl | rfl | rfl | rfl | rfl | rfl <;> rfl
    · rw [Array.getElem?_eq_none (by simp; omega), Array.getElem?_eq_none (by simp [PrR]; omega)]
  obtain ⟨i13, hi13, hs13⟩ : ∃ i, Try.prog.info? 24 = some i ∧ i.size = 13 := by
    have := info_ph13
    cases hq : Try.prog.info? 24 with
    | none => simp [hq] at this
    | some i => exact ⟨i, rfl, by simpa [hq] using this⟩
  simp [Instr.index, asIntOf, Sem.run_bind, run_underlying Try.underlying25, part, isAgg, run_underlying Try.underlying24, Result.andThen, hk, sizeOf, typeInfo, hi13, hs13, go_sem, e]
theorem l_newPq {ops : Array Oper} {rest : List Oper} {op : Oper} {a : Act} {w : World} {Q : Exit → Act → World → Prop} {x y : Operand} {Z : Array Value} {t : TypeId} {b : Nat} {p : Phs} (hgd : op.guard = none) (ho : op.op = .store 24 x y) (hx : a.eval x = .pointer (some ⟨b, 0, none⟩)) (hy : a.eval y = .agg (PrR p)) (hb : SizeIs b w) (hs : 13 = Z.size)
    (h : wpList Try.prog ops Q rest (a.put op.dst undef) (w.alloc (.cells (PrR p) t))) : wpList Try.prog ops Q (op :: rest) a (w.alloc (.cells Z t)) :=
  wpList_store_newT (T := PrR p) 24 hgd ho hx hy hb hs (by kernel_rfl) (by simp [PrR, Value.oneCell']) h
set_option maxHeartbeats 8000000 in
set_option maxRecDepth 100000 in
theorem pon_any (T : Array Value) (t : Tab) (w : World) (hT : IsTab w T t) :
    Calls Try.prog 13 #[.agg T] w fun e w' => e = .returned (.int .i64 (onM t)) ∧ Below w.heap.size w w' := by
  haveI : Sz131 T := ⟨hT.size⟩
  have HX : Hid (∀ k, k < 8 → ∀ w, Sem.run Try.prog (Instr.index 25 (.agg (T.extract 0 104)) (.int .i64 (k : Nat))) w = .ok (.agg (PrR (t.ph k))) w) := Lib.hid fun k hk w' => run_index_ph hk hT.size (hT.isPh k hk).out w'
  have f0 : ∀ p, (PrR p)[0]? = some (.bool p.on) := fun p => rfl
  clear hT
  go_enter Try.func13, Try.ntmps13
  go_wp2_with (refine l_lphs rfl rfl rfl ?_; go_simp)
  go_loopw [3, 8] (fun s i wr => ∃ k : Nat, k ≤ 8 ∧ i = .int .i64 k ∧ s = .int .i64 (ofM (onL t k)) ∧ Below (w.heap.size + 1) (w.alloc (.cells T 32)) wr) (fun _ i _ => 8 - (intOf i).toNat)
  case atStart => exact ⟨0, Nat.zero_le _, rfl, rfl, by (repeat' (first | (with_reducible exact Below.refl _ _) | (with_reducible assumption) | (with_reducible refine Below.setCell ?_ ?_ _) | (with_reducible refine Below.alloc ?_ ?_ _) | (with_reducible refine Below.drew ?_) | (with_reducible refine Up.base _ ?_ ?_) | (with_reducible exact LeSize.out) | exact LeSize.out | exact Nat.le_add_right_of_le LeSize.out | exact Nat.le_add_right_of_le (Nat.le_add_right_of_le LeSize.out) | (with_reducible exact Nat.le_refl _) | (simp; done) | (simp; omega)))⟩
  case round =>
    obtain ⟨k, hk, rfl, rfl, hb⟩ := hrel
    by_cases hlt : k < 8
    · have hix := HX.out k hlt
      have HS := Lib.hid (onL_succ t k)
      have HL : LeSize (w.heap.size + 1) wr := ⟨by have := hb.size; simpa using this⟩
      have hbw : Below w.heap.size w wr := ((Below.refl w.heap.size w).alloc (Nat.le_refl _) (.cells T 32)).trans (hb.mono (by omega))
      cases hon : (t.ph k).on
      · have HS2 : Hid (onL t (k + 1) = onL t k) := Lib.hid (by rw [HS.out, hon]; simp)
        clear HS
        go_wp2_with (refine l_newPq rfl rfl rfl rfl inferInstance rfl ?_; go_simp)
        go_roundw
        case rel => exact ⟨k + 1, by omega, by go_num, by rw [HS2.out], by (repeat' (first | (with_reducible exact Below.refl _ _) | (with_reducible assumption) | (with_reducible refine Below.setCell ?_ ?_ _) | (with_reducible refine Below.alloc ?_ ?_ _) | (with_reducible refine Below.drew ?_) | (with_reducible refine Up.base _ ?_ ?_) | (with_reducible exact LeSize.out) | exact LeSize.out | exact Nat.le_add_right_of_le LeSize.out | exact Nat.le_add_right_of_le (Nat.le_add_right_of_le LeSize.out) | (with_reducible exact Nat.le_refl _) | (simp; done) | (simp; omega)))⟩
        case measure => simp [intOf]; omega
      · have HS2 : Hid (ofM (onL t (k + 1)) = withM (ofM (onL t k)) k) := Lib.hid (by rw [HS.out, hon]; exact of_snoc _ _)
        clear HS
        go_wp2_with (first | (refine l_newPq rfl rfl rfl rfl inferInstance rfl ?_; go_simp) | (go_at_call 27; refine (swith_any _ _ _).mono ?_; rintro e w' ⟨rfl, rfl⟩))
        go_roundw
        case rel => exact ⟨k + 1, by omega, by go_num, by rw [HS2.out], by (repeat' (first | (with_reducible exact Below.refl _ _) | (with_reducible assumption) | (with_reducible refine Below.setCell ?_ ?_ _) | (with_reducible refine Below.alloc ?_ ?_ _) | (with_reducible refine Below.drew ?_) | (with_reducible refine Up.base _ ?_ ?_) | (with_reducible exact LeSize.out) | exact LeSize.out | exact Nat.le_add_right_of_le LeSize.out | exact Nat.le_add_right_of_le (Nat.le_add_right_of_le LeSize.out) | (with_reducible exact Nat.le_refl _) | (simp; done) | (simp; omega)))⟩
        case measure => simp [intOf]; omega
    · obtain rfl : k = 8 := by omega
      have hbw : Below w.heap.size w wr := ((Below.refl w.heap.size w).alloc (Nat.le_refl _) (.cells T 32)).trans (hb.mono (by omega))
      go_wp2
      go_ret
      exact ⟨rfl, by (repeat' (first | (with_reducible exact Below.refl _ _) | (with_reducible assumption) | (with_reducible refine Below.setCell ?_ ?_ _) | (with_reducible refine Below.alloc ?_ ?_ _) | (with_reducible refine Below.drew ?_) | (with_reducible refine Up.base _ ?_ ?_) | (with_reducible exact LeSize.out) | exact LeSize.out | exact Nat.le_add_right_of_le LeSize.out | exact Nat.le_add_right_of_le (Nat.le_add_right_of_le LeSize.out) | (with_reducible exact Nat.le_refl _) | (simp; done) | (simp; omega)))⟩
end Go.Proofs.Ytcgadkkjcbnfjaa
