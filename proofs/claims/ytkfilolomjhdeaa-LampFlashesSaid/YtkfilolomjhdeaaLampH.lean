/- For a table by numbers the lamps of Pattern all flash, and exactly the phases that flash yellow are Moving. -/
import Derived.Test.YtkfilolomjhdeaaLampJ
import Derived.Test.YtkfilolomjhdeaaTabR
namespace Go.Proofs.Ytkfilolomjhdeaa
open Go.ChangeShapes Go.WideShapes Go.ChangeAt Go.RowKit
set_option linter.unusedVariables false
attribute [local go_sem] IsBlk.cell IsBlk.frozen

theorem fl_or (zs : List Int) (i : Nat) : (tabM zs).fl i = 0 ∨ (tabM zs).fl i = 1 ∨ (tabM zs).fl i = 2 := by
  show flM zs _ i = 0 ∨ flM zs _ i = 1 ∨ flM zs _ i = 2
  have h1 : ∀ n, fl1 n i = 0 ∨ fl1 n i = 1 := fun n => by unfold fl1; split <;> simp
  unfold flM
  split
  · unfold fset
    split
    · simp
    · rcases h1 (rowsM zs).1 with h | h <;> simp [h]
  · rcases h1 (rowsM zs).1 with h | h <;> simp [h]
/-! ### The walk -/
def lmL (K : Nat → Int) : List Int := [K 0, K 1, K 2, K 3, K 4, K 5, K 6, K 7]
theorem lmL_arr (K : Nat → Int) : arrK K 8 = ((lmL K).map (Value.int .i64)).toArray := by rw [arrK_all]; rfl
theorem lmL_get (K : Nat → Int) {k : Nat} (hk : k < 8) : (lmL K).getD k 0 = K k := by
  rcases (show k = 0 ∨ k = 1 ∨ k = 2 ∨ k = 3 ∨ k = 4 ∨ k = 5 ∨ k = 6 ∨ k = 7 by omega) with rfl | rfl | rfl | rfl | rfl | rfl | rfl | rfl <;> rfl
theorem textK_any (K : Nat → Int) (w : World) : Calls Try.prog 7 #[.agg (arrK K 8)] w fun e w' => e = .returned (.string (textS (lmL K))) ∧ Below w.heap.size w w' := text_any _ (lmL K) w rfl (lmL_arr K)
theorem movingK_any (K : Nat → Int) (w : World) : Calls Try.prog 9 #[.agg (arrK K 8)] w fun e w' => e = .returned (.int .i64 (movK (lmL K) 8)) ∧ Below w.heap.size w w' := moving_any _ (lmL K) w rfl (lmL_arr K)
theorem textS_size (K : Nat → Int) : (textS (lmL K)).size = 8 := rfl
theorem text_index (K : Nat → Int) {k : Nat} (hk : k < 8) (w : World) : Sem.run Try.prog (Instr.index 9 (.string (textS (lmL K))) (.int .i64 k)) w = .ok (u8v (textB (K k))) w := by
  rw [run_index_string w 9 _ .i64 k Try.underlying9, dif_pos ⟨by omega, by rw [textS_size]; omega⟩]
  rcases (show k = 0 ∨ k = 1 ∨ k = 2 ∨ k = 3 ∨ k = 4 ∨ k = 5 ∨ k = 6 ∨ k = 7 by omega) with rfl | rfl | rfl | rfl | rfl | rfl | rfl | rfl <;> rfl
theorem movK_bit (K : Nat → Int) {k : Nat} (hk : k < 8) : (bits .and .i64 (movK (lmL K) 8 / 2 ^ k) 1 == 1) = mvB (K k) := by
  rw [has_at (s := movK (lmL K) 8) hk rfl, hasM_nat _ hk]
  unfold movK
  rw [bitM_pack _ hk, lmL_get K hk]
  simp [hk]
theorem g_llm {ops : Array Oper} {rest : List Oper} {op : Oper} {a : Act} {w : World} {Q : Exit → Act → World → Prop} {x : Operand} {b : Nat} {C : Array Value} {t : TypeId} (hw : Region.wanted op (yielded ops a.tmps) = true) (ho : op.op = .load 23 x) (hx : a.eval x = .pointer (some ⟨b, 0, none⟩)) [h : IsBlk w b C t] [hz : IsLm C]
    (hk : wpList Try.prog ops Q rest (a.put op.dst (.agg C)) w) : wpList Try.prog ops Q (op :: rest) a w := wpList_load_want hw ho hx load_lm hk
theorem run_idx3 (x : Int) (h : x = 0 ∨ x = 1 ∨ x = 2) (w : World) : Sem.run Try.prog (Instr.index 50 (.agg #[.int .u8 45, .int .u8 114, .int .u8 121]) (.int .i64 x)) w = .ok (u8v (textB (patM x))) w := by
  rcases h with rfl | rfl | rfl <;> kernel_rfl
set_option maxHeartbeats 16000000 in
set_option maxRecDepth 100000 in
theorem lampFlashes_walk (a0 : Option Addr) (cap0 : Nat) (z0 : List Int) (w : World) (hc0 : z0.length ≤ cap0 ∧ cap0 ≤ 9223372036854775807) (_ : Hdr w a0 cap0) (hz0 : Ints w a0 z0) (_ : ∀ i, i < z0.length → InKind .i64 (z0.getD i 0)) :
    Calls Try.prog 5 #[.slice a0 z0.length cap0] w fun e w' => e = .returned (.bool true) ∧ Below w.heap.size w w' := by
  have HZ : Hid (∀ w', Below w.heap.size w w' → Ints w' a0 z0) := Lib.hid fun w' hb => Row1.below hz0 hb (Nat.le_refl _)
  have HZL : Hid (z0.length ≤ 9223372036854775807) := Lib.hid (by omega)
  have z := zeroTab
  have HFO := Lib.hid (fl_or z0)
  have HFT : Hid (∀ w' T, IsTab w' T (tabM z0) → ∀ i, i < 8 → T[121 + i]? = some (.int .i64 ((tabM z0).fl i))) := Lib.hid fun w' T h i hi => h.fl i hi
  generalize (tabM z0).fl = F at *
  obtain ⟨K, hK⟩ : ∃ K : Nat → Int, K = fun i => patM (F i) := ⟨_, rfl⟩
  have HK : Hid (∀ i, K i = patM (F i)) := Lib.hid fun i => by rw [hK]
  have HPT : Hid (∀ T w', Hid (∀ i, i < 8 → T[121 + i]? = some (.int .i64 (F i))) → Calls Try.prog 15 #[.agg T] w' fun e w'' => e = .returned (.agg (arrK K 8)) ∧ Below w'.heap.size w' w'') := Lib.hid fun T w' h => by rw [hK]; exact patternK_any T F w' h
  clear hK hz0
  have HTX := Lib.hid (textK_any K)
  have HMV := Lib.hid (movingK_any K)
  have HTI := Lib.hid fun k (hk : k < 8) => text_index K hk
  have HMB := Lib.hid fun k (hk : k < 8) => movK_bit K hk
  have hS := textS_size K
  generalize textS (lmL K) = S at *
  generalize movK (lmL K) 8 = M at *
  go_enter Try.func5, Try.ntmps5
  go_upto_region 2 with (first | (go_at_call 14; refine (ltable_up _ _ _ _ HZL.out (HZ.out _ (by (repeat' (first | (with_reducible exact Below.refl _ _) | (with_reducible assumption) | (with_reducible refine Below.setCell ?_ ?_ _) | (with_reducible refine Below.alloc ?_ ?_ _) | (with_reducible refine Below.drew ?_) | (with_reducible refine Up.base _ ?_ ?_) | (with_reducible exact LeSize.out) | exact LeSize.out | exact Nat.le_add_right_of_le LeSize.out | exact Nat.le_add_right_of_le (Nat.le_add_right_of_le LeSize.out) | (with_reducible exact Nat.le_refl _) | (simp; done) | (simp; omega)))))).mono ?_; rintro e w' ⟨T, uT, rfl, rfl, hT⟩) | (refine l_newTab rfl rfl rfl rfl inferInstance hT rfl ?_; go_simp))
  haveI : Sz131 T := ⟨hT.size⟩
  have HFL := Lib.hid (HFT.out _ _ hT)
  clear hT HFT
  go_wp2_with (first | (refine l_ltab rfl rfl rfl ?_; go_simp) | (refine l_llm rfl rfl rfl ?_; go_simp) | (refine l_newLm rfl rfl rfl rfl inferInstance rfl ?_; go_simp) | (go_at_call 15; refine (Up.run (HPT.out _ _ HFL)).mono ?_; rintro e w' ⟨rfl, up, rfl⟩) | (go_at_call 7; refine (Up.run (HTX.out _)).mono ?_; rintro e w' ⟨rfl, ut, rfl⟩))
  go_loopw [6] (fun i wr => ∃ k : Nat, k ≤ 8 ∧ i = .int .i64 k ∧ Below w.heap.size w wr ∧ Hid (IsBlk wr uT.w.heap.size T 47 ∧ IsBlk wr up.w.heap.size (arrK K 8) 23)) (fun i _ => 8 - (intOf i).toNat)
  case atStart => exact ⟨0, Nat.zero_le _, rfl, by (repeat' (first | (with_reducible exact Below.refl _ _) | (with_reducible assumption) | (with_reducible refine Below.setCell ?_ ?_ _) | (with_reducible refine Below.alloc ?_ ?_ _) | (with_reducible refine Below.drew ?_) | (with_reducible refine Up.base _ ?_ ?_) | (with_reducible exact LeSize.out) | exact LeSize.out | exact Nat.le_add_right_of_le LeSize.out | exact Nat.le_add_right_of_le (Nat.le_add_right_of_le LeSize.out) | (with_reducible exact Nat.le_refl _) | (simp; done) | (simp; omega))), Lib.hid ⟨inferInstance, inferInstance⟩⟩
  case round =>
    obtain ⟨k, hk, rfl, hb, HH⟩ := hrel
    obtain ⟨i1, i2⟩ := HH.out
    haveI : LeSize w.heap.size wr := ⟨hb.size⟩
    by_cases hlt : k < 8
    · have hfk := HFL.out k hlt
      have hpk : (arrK K 8)[k]? = some (.int .i64 (K k)) := by rw [arrK_get _ _ hlt, if_pos hlt]
      have hti := HTI.out k hlt
      have hmb := HMB.out k hlt
      rw [HK.out k] at hpk hti hmb
      have hkI : (k : Int) < 8 := by omega
      rcases HFO.out k with h | h | h
      · rw [h] at hfk hpk hti hmb
        have e1 : patM 0 = 0 := rfl
        have e2 : u8v (textB 0) = .int .u8 45 := rfl
        have e3 : mvB 0 = false := by decide +kernel
        rw [e1] at hpk hti hmb
        have hw3 := run_idx3 0 (by simp)
        rw [e1, e2] at hw3
        rw [e2] at hti
        rw [e3] at hmb
        clear h e1 e2 e3
        go_wp2_with (first | (refine g_llm rfl rfl rfl ?_; go_simp) | (go_at_call 9; refine (Up.run (HMV.out _)).mono ?_; rintro e w' ⟨rfl, um, rfl⟩))
        go_roundw
        case rel => exact ⟨k + 1, by omega, by go_num, by (repeat' (first | (with_reducible exact Below.refl _ _) | (with_reducible assumption) | (with_reducible refine Below.setCell ?_ ?_ _) | (with_reducible refine Below.alloc ?_ ?_ _) | (with_reducible refine Below.drew ?_) | (with_reducible refine Up.base _ ?_ ?_) | (with_reducible exact LeSize.out) | exact LeSize.out | exact Nat.le_add_right_of_le LeSize.out | exact Nat.le_add_right_of_le (Nat.le_add_right_of_le LeSize.out) | (with_reducible exact Nat.le_refl _) | (simp; done) | (simp; omega))), Lib.hid ⟨inferInstance, inferInstance⟩⟩
        case measure => simp [intOf]; omega
      · rw [h] at hfk hpk hti hmb
        have e1 : patM 1 = 33 := rfl
        have e2 : u8v (textB 33) = .int .u8 114 := rfl
        have e3 : mvB 33 = false := by decide +kernel
        rw [e1] at hpk hti hmb
        have hw3 := run_idx3 1 (by simp)
        rw [e1, e2] at hw3
        rw [e2] at hti
        rw [e3] at hmb
        clear h e1 e2 e3
        go_wp2_with (first | (refine g_llm rfl rfl rfl ?_; go_simp) | (go_at_call 9; refine (Up.run (HMV.out _)).mono ?_; rintro e w' ⟨rfl, um, rfl⟩))
        go_roundw
        case rel => exact ⟨k + 1, by omega, by go_num, by (repeat' (first | (with_reducible exact Below.refl _ _) | (with_reducible assumption) | (with_reducible refine Below.setCell ?_ ?_ _) | (with_reducible refine Below.alloc ?_ ?_ _) | (with_reducible refine Below.drew ?_) | (with_reducible refine Up.base _ ?_ ?_) | (with_reducible exact LeSize.out) | exact LeSize.out | exact Nat.le_add_right_of_le LeSize.out | exact Nat.le_add_right_of_le (Nat.le_add_right_of_le LeSize.out) | (with_reducible exact Nat.le_refl _) | (simp; done) | (simp; omega))), Lib.hid ⟨inferInstance, inferInstance⟩⟩
        case measure => simp [intOf]; omega
      · rw [h] at hfk hpk hti hmb
        have e1 : patM 2 = 34 := rfl
        have e2 : u8v (textB 34) = .int .u8 121 := rfl
        have e3 : mvB 34 = true := by decide +kernel
        rw [e1] at hpk hti hmb
        have hw3 := run_idx3 2 (by simp)
        rw [e1, e2] at hw3
        rw [e2] at hti
        rw [e3] at hmb
        clear h e1 e2 e3
        go_wp2_with (first | (refine g_llm rfl rfl rfl ?_; go_simp) | (go_at_call 9; refine (Up.run (HMV.out _)).mono ?_; rintro e w' ⟨rfl, um, rfl⟩))
        go_roundw
        case rel => exact ⟨k + 1, by omega, by go_num, by (repeat' (first | (with_reducible exact Below.refl _ _) | (with_reducible assumption) | (with_reducible refine Below.setCell ?_ ?_ _) | (with_reducible refine Below.alloc ?_ ?_ _) | (with_reducible refine Below.drew ?_) | (with_reducible refine Up.base _ ?_ ?_) | (with_reducible exact LeSize.out) | exact LeSize.out | exact Nat.le_add_right_of_le LeSize.out | exact Nat.le_add_right_of_le (Nat.le_add_right_of_le LeSize.out) | (with_reducible exact Nat.le_refl _) | (simp; done) | (simp; omega))), Lib.hid ⟨inferInstance, inferInstance⟩⟩
        case measure => simp [intOf]; omega
    · obtain rfl : k = 8 := by omega
      go_wp2_with (go_at_call 11; refine (Up.run (awake_any _)).mono ?_; rintro e w' ⟨rfl, u, rfl⟩)
      go_ret
      exact ⟨rfl, by (repeat' (first | (with_reducible exact Below.refl _ _) | (with_reducible assumption) | (with_reducible refine Below.setCell ?_ ?_ _) | (with_reducible refine Below.alloc ?_ ?_ _) | (with_reducible refine Below.drew ?_) | (with_reducible refine Up.base _ ?_ ?_) | (with_reducible exact LeSize.out) | exact LeSize.out | exact Nat.le_add_right_of_le LeSize.out | exact Nat.le_add_right_of_le (Nat.le_add_right_of_le LeSize.out) | (with_reducible exact Nat.le_refl _) | (simp; done) | (simp; omega)))⟩
set_option maxRecDepth 100000 in
theorem LampFlashes_lifted (os : Os) (started : os.Started) (H : Type) (enc : TypeId × Value → H) :
    ReturnsInHanded {} Try.checked os 5 .any (Rows.lampFlashesSpec.pre6 enc Try.prog Try.f5 Rows.lampFlashesRow.domain false) (Rows.lampFlashesSpec.post enc Try.prog Try.f5 false true false false) := by
  refine returnsInHanded_of_change (C := Try.checked) own started (by kernel_rfl) Try.func5
    (ChangeSpec.witness6 (enc := enc) (C := Try.checked) false ⟨#[], #[.slice none 0 0], []⟩ 8 (by kernel_rfl) (by kernel_rfl) (by kernel_rfl) (by kernel_rfl)) ?_
  intro W base args ds gs before hval0 hW hcnd _
  have hval : ∀ (j : Nat) t v, Try.f5.params[j]? = some t → args[j]? = some v → Value.okWide Try.prog W .any base t v := hval0
  have hW' := hW
  obtain ⟨p, q, hA0, hV, rfl, hfz, hnd⟩ := hW
  have hA : DataW.TrodAll enc Try.prog W 0 (fun _ => true) true Try.f5.params.toList args.toList ds p := hA0
  rw [Try.params5] at hA hval
  obtain ⟨v0, vs0, d0, ds0, p0, q0, hargs, rfl, rfl, h0, r0⟩ := trodAll_cons hA
  obtain ⟨rfl, rfl, rfl⟩ := trodAll_nil r0
  obtain rfl : args = #[v0] := by cases args; simp_all
  obtain ⟨rfl, rfl⟩ := trodVars_none hV
  have k0 := h0
  have lt0 : ∀ x ∈ p0, x.block < W.heap.size := by obtain ⟨m, hm⟩ := k0; exact DataW.trod_lt m _ _ _ hm
  obtain ⟨a0, cap0, z0, rfl, hl0, hm0, hh0, hr0, iz0⟩ := open_ints1 Try.underlying38 Try.underlying3 (by kernel_rfl) (hval 0 38 v0 rfl rfl) k0
  clear hA0 hval0
  refine (lampFlashes_walk a0 cap0 z0 W ⟨hl0, hm0⟩ hh0 hr0 iz0).mono fun e W' ⟨he, bel⟩ => ?_
  subst he
  exact ⟨_, rfl, _, _, _, [], _, [], hW', trodAll_mk1 (shut_bool Try.underlying4 _), (trodAll_cons_mk (Below.trod laidOut (by kernel_rfl) (of_decide_eq_true (by kernel_rfl)) k0 bel lt0) trodAll_mk0), rfl, bel.frame _, fun h => by cases h⟩

theorem LampFlashes_over : Rows.lampFlashesRow.holds Try.pinned (OpenSpec.ofChange Rows.lampFlashesSpec) :=
  OpenClaim.holds_of_wide 5 Try.f5 rfl rfl rfl rfl rfl rfl rfl ⟨rfl, rfl, rfl, rfl, rfl⟩ rfl rfl rfl rfl rfl (by kernel_rfl) Try.func5 (by kernel_rfl)
    (of_decide_eq_true (by kernel_rfl)) (by unfold Func.isWrapper; first | (rw [if_pos (by decide +kernel)]; kernel_rfl) | (rw [if_neg (by decide +kernel)]; exact ⟨rfl, rfl⟩))
    (fun os started H enc _ => LampFlashes_lifted os started H enc)

/-- The given statement. -/
theorem LampFlashes_holds : Rows.LampFlashesSaid := LampFlashes_over
#print axioms LampFlashes_holds
end Go.Proofs.Ytkfilolomjhdeaa
