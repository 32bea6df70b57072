/- For a table by numbers Beside agrees with Where, is symmetric, and never holds for a phase and itself; exactly the phases that are On stand in a row. -/
import Derived.Test.YtcgadkkjcbnfjaaPlnG
namespace Go.Proofs.Ytcgadkkjcbnfjaa
open Go.ChangeShapes Go.WideShapes Go.ChangeAt Go.RowKit
set_option linter.unusedVariables false
attribute [local go_sem] IsBlk.cell IsBlk.frozen

/-! ### Who stands in a table's rows -/
theorem fillR_app (a m k : Nat) : fillR a m ++ fillR (a + m) k = fillR a (m + k) := by
  unfold fillR
  rw [List.range_add, List.map_append, List.map_map]
  congr 1
  refine List.map_congr_left fun i _ => ?_
  show ((a + m + i : Nat) : Int) = ((a + (m + i) : Nat) : Int)
  omega
theorem fillR_len (a m : Nat) : (fillR a m).length = m := by simp [fillR]
theorem fillR_get {a m i : Nat} (h : i < m) : (fillR a m).getD i 0 = ((a + i : Nat) : Int) := by simp [fillR, List.getD, h]
theorem spI_fill (a m g k : Nat) (h : a + m ≤ 8) : ∀ n, n ≤ m → (spI (fillR a m) g k n).map (·.p) = fillR a n
  | 0, _ => rfl
  | n + 1, hn => by
    rw [spI_succ, List.map_append, spI_fill a m g k h n (by omega), fillR_get (by omega), ← fillR_app a n 1]
    have : okP ((a + n : Nat) : Int) = true := by unfold okP; simp; omega
    rw [if_pos this]
    simp [fillR]
theorem rowOf_app {l : List (List Int × List Int)} (x : List Int × List Int) {i : Nat} (h : i < l.length) (j : Nat) : rowOf (l ++ [x]) i j = rowOf l i j := by
  unfold rowOf; rw [List.getElem?_append_left h]
theorem spK_app {l : List (List Int × List Int)} (x : List Int × List Int) {i : Nat} (h : i < l.length) (n : Nat) : spK (l ++ [x]) i n = spK l i n := by
  unfold spK
  have : (fun k => spI (rowOf (l ++ [x]) i k) i k (rowOf (l ++ [x]) i k).length) = fun k => spI (rowOf l i k) i k (rowOf l i k).length := funext fun k => by rw [rowOf_app x h]
  rw [this]
theorem spG_app {l : List (List Int × List Int)} (x : List Int × List Int) : ∀ n, n ≤ l.length → spG (l ++ [x]) n = spG l n
  | 0, _ => rfl
  | n + 1, h => by rw [spG_succ, spG_succ, spG_app x n (by omega), spK_app x (by omega)]
theorem spots_rows (zs : List Int) (k : Nat) (hk : k ≤ 3) : ∀ g, g ≤ k → (spG (rowsGo zs k g).2 g).map (·.p) = fillR 0 (rowsGo zs k g).1
  | 0, _ => rfl
  | g + 1, h => by
    have ih := spots_rows zs k hk g (by omega)
    obtain ⟨b1, b2, b3⟩ := rowsGo_bd zs k hk g (by omega)
    obtain ⟨c1, c2, c3⟩ := rowsGo_bd zs k hk (g + 1) h
    simp only [rowsGo] at c1 c2 c3 ⊢
    generalize rowsGo zs k g = q at *
    generalize fillN (rw0 zs g) q.1 (8 - (k - 1 - g)) = m0 at *
    generalize fillN (rw1 zs g m0) (q.1 + m0) (8 - (k - 1 - g)) = m1 at *
    have e0 : rowOf (q.2 ++ [(fillR q.1 m0, fillR (q.1 + m0) m1)]) g 0 = fillR q.1 m0 := by unfold rowOf; rw [List.getElem?_append_right (by omega), b3]; simp
    have e1 : rowOf (q.2 ++ [(fillR q.1 m0, fillR (q.1 + m0) m1)]) g 1 = fillR (q.1 + m0) m1 := by unfold rowOf; rw [List.getElem?_append_right (by omega), b3]; simp
    rw [spG_succ, spG_app _ _ (by omega), List.map_append, ih, spK_succ, spK_succ, e0, e1, fillR_len, fillR_len]
    have e2 : spK (q.2 ++ [(fillR q.1 m0, fillR (q.1 + m0) m1)]) g 0 = [] := rfl
    rw [e2, List.nil_append, List.map_append, spI_fill _ _ _ _ (by omega) _ (Nat.le_refl _), spI_fill _ _ _ _ (by omega) _ (Nat.le_refl _)]
    have := fillR_app 0 q.1 m0
    rw [Nat.zero_add] at this
    rw [← List.append_assoc, this]
    have := fillR_app 0 (q.1 + m0) m1
    rw [Nat.zero_add] at this
    rw [this]
theorem mem_fill {n : Nat} {a : Int} : a ∈ fillR 0 n ↔ 0 ≤ a ∧ a < n := by
  unfold fillR
  simp only [List.mem_map, List.mem_range]
  constructor
  · rintro ⟨i, hi, rfl⟩; omega
  · intro h; exact ⟨a.toNat, by omega, by omega⟩
theorem where_some (zs : List Int) (a : Int) : (whereM (tabM zs).gr a).isSome = (decide (0 ≤ a) && decide (a < (rowsM zs).1)) := by
  have hb := rowsM_bd zs
  have hg := groupsN_bd zs
  have hm : (spotsM (tabM zs).gr).map (·.p) = fillR 0 (rowsM zs).1 := by
    show (spG (rowsM zs).2 (rowsM zs).2.length).map (·.p) = _
    rw [hb.2.2]
    exact spots_rows zs (groupsN zs) hg.2 (groupsN zs) (Nat.le_refl _)
  unfold whereM
  rw [Bool.eq_iff_iff, List.find?_isSome]
  simp only [beq_iff_eq, Bool.and_eq_true, decide_eq_true_eq]
  have := mem_fill (n := (rowsM zs).1) (a := a)
  rw [← hm, List.mem_map] at this
  exact this
theorem on_some (zs : List Int) (a : Int) : hasM (onM (tabM zs)) a = (decide (0 ≤ a) && decide (a < (rowsM zs).1)) := by
  have hb := rowsM_bd zs
  unfold onM ofM
  rw [hasM_pack, Bool.eq_iff_iff]
  simp only [Bool.and_eq_true, decide_eq_true_eq, List.contains_iff_mem]
  unfold onL
  simp only [List.mem_map, List.mem_filter, List.mem_range]
  constructor
  · rintro ⟨⟨h0, h8⟩, i, ⟨hi, hon⟩, he⟩
    refine ⟨h0, ?_⟩
    have : ((tabM zs).ph i).on = (ph1 zs (rowsM zs).1 i).on := rfl
    rw [this] at hon
    unfold ph1 at hon
    split at hon
    · omega
    · cases hon
  · rintro ⟨h0, h1⟩
    refine ⟨⟨h0, by omega⟩, a.toNat, ⟨by omega, ?_⟩, by omega⟩
    show (ph1 zs (rowsM zs).1 a.toNat).on = true
    unfold ph1
    rw [if_pos (by omega)]; rfl
theorem beside_self (gr : List (List Int × List Int)) (a : Int) : besideM gr a a = false := by
  unfold besideM
  cases whereM gr a <;> simp
theorem beside_comm (gr : List (List Int × List Int)) (a b : Int) : besideM gr b a = besideM gr a b := by
  unfold besideM
  cases whereM gr a <;> cases whereM gr b <;> simp only []
  rename_i x y
  rw [Bool.eq_iff_iff]
  simp
  omega
set_option maxHeartbeats 16000000 in
set_option maxRecDepth 100000 in
theorem planBeside_walk (a0 : Option Addr) (cap0 : Nat) (z0 : List Int) (a1 a2 : Int) (w : World) (hc0 : z0.length ≤ cap0 ∧ cap0 ≤ 9223372036854775807) (_ : Hdr w a0 cap0) (hz0 : Ints w a0 z0) (_ : ∀ i, i < z0.length → InKind .i64 (z0.getD i 0)) (_ : InKind .i64 a1) (_ : InKind .i64 a2) :
    Calls Try.prog 4 #[.slice a0 z0.length cap0, .int .i64 a1, .int .i64 a2] w fun e w' => e = .returned (.bool true) ∧ Below w.heap.size w w' := by
  have HZ : Hid (∀ w', Below w.heap.size w w' → Ints w' a0 z0) := Lib.hid fun w' hb => Row1.below hz0 hb (Nat.le_refl _)
  have HZL : Hid (z0.length ≤ 9223372036854775807) := Lib.hid (by omega)
  have z := zeroTab
  have ha0 := Int.emod_nonneg a1 (show (10 : Int) ≠ 0 by omega)
  have ha1 := Int.emod_lt_of_pos a1 (show (0 : Int) < 10 by omega)
  have hb0 := Int.emod_nonneg a2 (show (10 : Int) ≠ 0 by omega)
  have hb1 := Int.emod_lt_of_pos a2 (show (0 : Int) < 10 by omega)
  obtain ⟨a, ha⟩ : ∃ a, a1 % 10 - 1 = a := ⟨_, rfl⟩
  obtain ⟨b, hb⟩ : ∃ b, a2 % 10 - 1 = b := ⟨_, rfl⟩
  have hon := (on_some z0 a).trans (where_some z0 a).symm
  have H3 := Lib.hid (beside_self (tabM z0).gr a)
  have H2 := Lib.hid (beside_comm (tabM z0).gr a b)
  generalize ht : tabM z0 = t at *
  have HT0 := Lib.hid ht
  clear ht hz0
  go_enter Try.func4, Try.ntmps4
  go_upto_region 4 with (first | (go_at_call 7; refine (place_any _ _ _ (by omega) (by omega)).mono ?_; rintro e w' ⟨rfl, rfl⟩) | (go_at_call 6; refine (ltable_up _ _ _ _ HZL.out (HZ.out _ (by (repeat' (first | (with_reducible exact Below.refl _ _) | (with_reducible assumption) | (with_reducible refine Below.setCell ?_ ?_ _) | (with_reducible refine Below.alloc ?_ ?_ _) | (with_reducible refine Below.drew ?_) | (with_reducible refine Up.base _ ?_ ?_) | (with_reducible exact LeSize.out) | exact LeSize.out | exact Nat.le_add_right_of_le LeSize.out | exact Nat.le_add_right_of_le (Nat.le_add_right_of_le LeSize.out) | (with_reducible exact Nat.le_refl _) | (simp; done) | (simp; omega)))))).mono ?_; rintro e w' ⟨T, uT, rfl, rfl, hT⟩; rw [HT0.out] at hT) | (refine l_newTab rfl rfl rfl rfl inferInstance hT rfl ?_; go_simp))
  haveI : Sz131 T := ⟨hT.size⟩
  have HWA := fun w' hb => pwhere_any T t a w' (hT.below (w' := w') hb (Nat.le_refl _))
  have HWB := fun w' hb => pwhere_any T t b w' (hT.below (w' := w') hb (Nat.le_refl _))
  have HB1 := fun w' hb => pbeside_any T t a b w' (hT.below (w' := w') hb (Nat.le_refl _))
  have HB2 := fun w' hb => pbeside_any T t b a w' (hT.below (w' := w') hb (Nat.le_refl _))
  have HB3 := fun w' hb => pbeside_any T t a a w' (hT.below (w' := w') hb (Nat.le_refl _))
  have HON := Lib.hid fun w' hb => pon_any T t w' (hT.below (w' := w') hb (Nat.le_refl _))
  simp only [H3.out] at HB3
  simp only [H2.out] at HB2
  have HB3 := Lib.hid HB3
  clear hT H2 H3 HT0 ha0 ha1 hb0 hb1 ha hb
  have HE : besideM t.gr a b = (match whereM t.gr a, whereM t.gr b with
    | some x, some y => ((x.g : Int) == (y.g : Int)) && ((x.k : Int) != (y.k : Int))
    | _, _ => false) := rfl
  generalize besideM t.gr a b = bs at *
  generalize onM t = O at *
  generalize whereM t.gr a = A at *
  generalize whereM t.gr b = B at *
  cases A with
  | none =>
    have hbs : bs = false := by rw [HE]
    subst hbs
    simp only [whG, whK, whI, Option.isSome] at HWA HWB hon
    have HWA := Lib.hid HWA
    have HB1 := Lib.hid HB1
    have HB2 := Lib.hid HB2
    clear HE
    cases B with
    | none =>
      simp only [whG, whK, whI, Option.isSome] at HWB
      have HWB := Lib.hid HWB
      go_wp2_with (first | (refine l_ltab rfl rfl rfl ?_; go_simp) | (go_at_call 11; (with_reducible refine (Up.run (HWA.out _ ?_)).mono ?_); (focus (repeat' (first | (with_reducible exact Below.refl _ _) | (with_reducible assumption) | (with_reducible refine Below.setCell ?_ ?_ _) | (with_reducible refine Below.alloc ?_ ?_ _) | (with_reducible refine Below.drew ?_) | (with_reducible refine Up.base _ ?_ ?_) | (with_reducible exact LeSize.out) | exact LeSize.out | exact Nat.le_add_right_of_le LeSize.out | exact Nat.le_add_right_of_le (Nat.le_add_right_of_le LeSize.out) | (with_reducible exact Nat.le_refl _) | (simp; done) | (simp; omega)))); clear HWA; rintro e w' ⟨rfl, uw, rfl⟩) | (go_at_call 11; (with_reducible refine (Up.run (HWB.out _ ?_)).mono ?_); (focus (repeat' (first | (with_reducible exact Below.refl _ _) | (with_reducible assumption) | (with_reducible refine Below.setCell ?_ ?_ _) | (with_reducible refine Below.alloc ?_ ?_ _) | (with_reducible refine Below.drew ?_) | (with_reducible refine Up.base _ ?_ ?_) | (with_reducible exact LeSize.out) | exact LeSize.out | exact Nat.le_add_right_of_le LeSize.out | exact Nat.le_add_right_of_le (Nat.le_add_right_of_le LeSize.out) | (with_reducible exact Nat.le_refl _) | (simp; done) | (simp; omega)))); rintro e w' ⟨rfl, uw2, rfl⟩))
      (refine wp_region_up (by kernel_rfl) (by kernel_rfl) ?_; (repeat (first | (go_big_quiet_want; refine q_ltab rfl rfl ?_; simp only [Act.put, List.setIfInBounds_toArray, List.set_cons_succ, List.set_cons_zero]; go_big_quiet_on) | go_big_quiet_step ((first | (go_at_call 12; (with_reducible refine Up.calls (HB1.out _ ?_)); (repeat' (first | (with_reducible exact Below.refl _ _) | (with_reducible assumption) | (with_reducible refine Below.setCell ?_ ?_ _) | (with_reducible refine Below.alloc ?_ ?_ _) | (with_reducible refine Below.drew ?_) | (with_reducible refine Up.base _ ?_ ?_) | (with_reducible exact LeSize.out) | exact LeSize.out | exact Nat.le_add_right_of_le LeSize.out | exact Nat.le_add_right_of_le (Nat.le_add_right_of_le LeSize.out) | (with_reducible exact Nat.le_refl _) | (simp; done) | (simp; omega)))) | (go_at_call 12; (with_reducible refine Up.calls (HB2.out _ ?_)); (repeat' (first | (with_reducible exact Below.refl _ _) | (with_reducible assumption) | (with_reducible refine Below.setCell ?_ ?_ _) | (with_reducible refine Below.alloc ?_ ?_ _) | (with_reducible refine Below.drew ?_) | (with_reducible refine Up.base _ ?_ ?_) | (with_reducible exact LeSize.out) | exact LeSize.out | exact Nat.le_add_right_of_le LeSize.out | exact Nat.le_add_right_of_le (Nat.le_add_right_of_le LeSize.out) | (with_reducible exact Nat.le_refl _) | (simp; done) | (simp; omega)))) | (go_at_call 12; (with_reducible refine Up.calls (HB3.out _ ?_)); (repeat' (first | (with_reducible exact Below.refl _ _) | (with_reducible assumption) | (with_reducible refine Below.setCell ?_ ?_ _) | (with_reducible refine Below.alloc ?_ ?_ _) | (with_reducible refine Below.drew ?_) | (with_reducible refine Up.base _ ?_ ?_) | (with_reducible exact LeSize.out) | exact LeSize.out | exact Nat.le_add_right_of_le LeSize.out | exact Nat.le_add_right_of_le (Nat.le_add_right_of_le LeSize.out) | (with_reducible exact Nat.le_refl _) | (simp; done) | (simp; omega)))) | (go_at_call 13; (with_reducible refine Up.calls (HON.out _ ?_)); (repeat' (first | (with_reducible exact Below.refl _ _) | (with_reducible assumption) | (with_reducible refine Below.setCell ?_ ?_ _) | (with_reducible refine Below.alloc ?_ ?_ _) | (with_reducible refine Below.drew ?_) | (with_reducible refine Up.base _ ?_ ?_) | (with_reducible exact LeSize.out) | exact LeSize.out | exact Nat.le_add_right_of_le LeSize.out | exact Nat.le_add_right_of_le (Nat.le_add_right_of_le LeSize.out) | (with_reducible exact Nat.le_refl _) | (simp; done) | (simp; omega)))) | (go_at_call 8; exact Up.pure (rhas_any _ _ _)) | (go_at_call 10; exact Up.calls (awake8_any _)) | fail)))); refine wpQuiet_nil ?_; rintro _ ⟨u, rfl⟩)
      go_wp2
      go_ret
      exact ⟨rfl, by (repeat' (first | (with_reducible exact Below.refl _ _) | (with_reducible assumption) | (with_reducible refine Below.setCell ?_ ?_ _) | (with_reducible refine Below.alloc ?_ ?_ _) | (with_reducible refine Below.drew ?_) | (with_reducible refine Up.base _ ?_ ?_) | (with_reducible exact LeSize.out) | exact LeSize.out | exact Nat.le_add_right_of_le LeSize.out | exact Nat.le_add_right_of_le (Nat.le_add_right_of_le LeSize.out) | (with_reducible exact Nat.le_refl _) | (simp; done) | (simp; omega)))⟩
    | some y =>
      simp only [whG, whK, whI, Option.isSome] at HWB
      have HWB := Lib.hid HWB
      go_wp2_with (first | (refine l_ltab rfl rfl rfl ?_; go_simp) | (go_at_call 11; (with_reducible refine (Up.run (HWA.out _ ?_)).mono ?_); (focus (repeat' (first | (with_reducible exact Below.refl _ _) | (with_reducible assumption) | (with_reducible refine Below.setCell ?_ ?_ _) | (with_reducible refine Below.alloc ?_ ?_ _) | (with_reducible refine Below.drew ?_) | (with_reducible refine Up.base _ ?_ ?_) | (with_reducible exact LeSize.out) | exact LeSize.out | exact Nat.le_add_right_of_le LeSize.out | exact Nat.le_add_right_of_le (Nat.le_add_right_of_le LeSize.out) | (with_reducible exact Nat.le_refl _) | (simp; done) | (simp; omega)))); clear HWA; rintro e w' ⟨rfl, uw, rfl⟩) | (go_at_call 11; (with_reducible refine (Up.run (HWB.out _ ?_)).mono ?_); (focus (repeat' (first | (with_reducible exact Below.refl _ _) | (with_reducible assumption) | (with_reducible refine Below.setCell ?_ ?_ _) | (with_reducible refine Below.alloc ?_ ?_ _) | (with_reducible refine Below.drew ?_) | (with_reducible refine Up.base _ ?_ ?_) | (with_reducible exact LeSize.out) | exact LeSize.out | exact Nat.le_add_right_of_le LeSize.out | exact Nat.le_add_right_of_le (Nat.le_add_right_of_le LeSize.out) | (with_reducible exact Nat.le_refl _) | (simp; done) | (simp; omega)))); rintro e w' ⟨rfl, uw2, rfl⟩))
      (refine wp_region_up (by kernel_rfl) (by kernel_rfl) ?_; (repeat (first | (go_big_quiet_want; refine q_ltab rfl rfl ?_; simp only [Act.put, List.setIfInBounds_toArray, List.set_cons_succ, List.set_cons_zero]; go_big_quiet_on) | go_big_quiet_step ((first | (go_at_call 12; (with_reducible refine Up.calls (HB1.out _ ?_)); (repeat' (first | (with_reducible exact Below.refl _ _) | (with_reducible assumption) | (with_reducible refine Below.setCell ?_ ?_ _) | (with_reducible refine Below.alloc ?_ ?_ _) | (with_reducible refine Below.drew ?_) | (with_reducible refine Up.base _ ?_ ?_) | (with_reducible exact LeSize.out) | exact LeSize.out | exact Nat.le_add_right_of_le LeSize.out | exact Nat.le_add_right_of_le (Nat.le_add_right_of_le LeSize.out) | (with_reducible exact Nat.le_refl _) | (simp; done) | (simp; omega)))) | (go_at_call 12; (with_reducible refine Up.calls (HB2.out _ ?_)); (repeat' (first | (with_reducible exact Below.refl _ _) | (with_reducible assumption) | (with_reducible refine Below.setCell ?_ ?_ _) | (with_reducible refine Below.alloc ?_ ?_ _) | (with_reducible refine Below.drew ?_) | (with_reducible refine Up.base _ ?_ ?_) | (with_reducible exact LeSize.out) | exact LeSize.out | exact Nat.le_add_right_of_le LeSize.out | exact Nat.le_add_right_of_le (Nat.le_add_right_of_le LeSize.out) | (with_reducible exact Nat.le_refl _) | (simp; done) | (simp; omega)))) | (go_at_call 12; (with_reducible refine Up.calls (HB3.out _ ?_)); (repeat' (first | (with_reducible exact Below.refl _ _) | (with_reducible assumption) | (with_reducible refine Below.setCell ?_ ?_ _) | (with_reducible refine Below.alloc ?_ ?_ _) | (with_reducible refine Below.drew ?_) | (with_reducible refine Up.base _ ?_ ?_) | (with_reducible exact LeSize.out) | exact LeSize.out | exact Nat.le_add_right_of_le LeSize.out | exact Nat.le_add_right_of_le (Nat.le_add_right_of_le LeSize.out) | (with_reducible exact Nat.le_refl _) | (simp; done) | (simp; omega)))) | (go_at_call 13; (with_reducible refine Up.calls (HON.out _ ?_)); (repeat' (first | (with_reducible exact Below.refl _ _) | (with_reducible assumption) | (with_reducible refine Below.setCell ?_ ?_ _) | (with_reducible refine Below.alloc ?_ ?_ _) | (with_reducible refine Below.drew ?_) | (with_reducible refine Up.base _ ?_ ?_) | (with_reducible exact LeSize.out) | exact LeSize.out | exact Nat.le_add_right_of_le LeSize.out | exact Nat.le_add_right_of_le (Nat.le_add_right_of_le LeSize.out) | (with_reducible exact Nat.le_refl _) | (simp; done) | (simp; omega)))) | (go_at_call 8; exact Up.pure (rhas_any _ _ _)) | (go_at_call 10; exact Up.calls (awake8_any _)) | fail)))); refine wpQuiet_nil ?_; rintro _ ⟨u, rfl⟩)
      go_wp2
      go_ret
      exact ⟨rfl, by (repeat' (first | (with_reducible exact Below.refl _ _) | (with_reducible assumption) | (with_reducible refine Below.setCell ?_ ?_ _) | (with_reducible refine Below.alloc ?_ ?_ _) | (with_reducible refine Below.drew ?_) | (with_reducible refine Up.base _ ?_ ?_) | (with_reducible exact LeSize.out) | exact LeSize.out | exact Nat.le_add_right_of_le LeSize.out | exact Nat.le_add_right_of_le (Nat.le_add_right_of_le LeSize.out) | (with_reducible exact Nat.le_refl _) | (simp; done) | (simp; omega)))⟩
  | some x =>
    cases B with
    | none =>
      have hbs : bs = false := by rw [HE]
      subst hbs
      simp only [whG, whK, whI, Option.isSome] at HWA HWB hon
      have HWA := Lib.hid HWA
      have HB1 := Lib.hid HB1
      have HB2 := Lib.hid HB2
      have HWB := Lib.hid HWB
      clear HE
      go_wp2_with (first | (refine l_ltab rfl rfl rfl ?_; go_simp) | (go_at_call 11; (with_reducible refine (Up.run (HWA.out _ ?_)).mono ?_); (focus (repeat' (first | (with_reducible exact Below.refl _ _) | (with_reducible assumption) | (with_reducible refine Below.setCell ?_ ?_ _) | (with_reducible refine Below.alloc ?_ ?_ _) | (with_reducible refine Below.drew ?_) | (with_reducible refine Up.base _ ?_ ?_) | (with_reducible exact LeSize.out) | exact LeSize.out | exact Nat.le_add_right_of_le LeSize.out | exact Nat.le_add_right_of_le (Nat.le_add_right_of_le LeSize.out) | (with_reducible exact Nat.le_refl _) | (simp; done) | (simp; omega)))); clear HWA; rintro e w' ⟨rfl, uw, rfl⟩) | (go_at_call 11; (with_reducible refine (Up.run (HWB.out _ ?_)).mono ?_); (focus (repeat' (first | (with_reducible exact Below.refl _ _) | (with_reducible assumption) | (with_reducible refine Below.setCell ?_ ?_ _) | (with_reducible refine Below.alloc ?_ ?_ _) | (with_reducible refine Below.drew ?_) | (with_reducible refine Up.base _ ?_ ?_) | (with_reducible exact LeSize.out) | exact LeSize.out | exact Nat.le_add_right_of_le LeSize.out | exact Nat.le_add_right_of_le (Nat.le_add_right_of_le LeSize.out) | (with_reducible exact Nat.le_refl _) | (simp; done) | (simp; omega)))); rintro e w' ⟨rfl, uw2, rfl⟩))
      (refine wp_region_up (by kernel_rfl) (by kernel_rfl) ?_; (repeat (first | (go_big_quiet_want; refine q_ltab rfl rfl ?_; simp only [Act.put, List.setIfInBounds_toArray, List.set_cons_succ, List.set_cons_zero]; go_big_quiet_on) | go_big_quiet_step ((first | (go_at_call 12; (with_reducible refine Up.calls (HB1.out _ ?_)); (repeat' (first | (with_reducible exact Below.refl _ _) | (with_reducible assumption) | (with_reducible refine Below.setCell ?_ ?_ _) | (with_reducible refine Below.alloc ?_ ?_ _) | (with_reducible refine Below.drew ?_) | (with_reducible refine Up.base _ ?_ ?_) | (with_reducible exact LeSize.out) | exact LeSize.out | exact Nat.le_add_right_of_le LeSize.out | exact Nat.le_add_right_of_le (Nat.le_add_right_of_le LeSize.out) | (with_reducible exact Nat.le_refl _) | (simp; done) | (simp; omega)))) | (go_at_call 12; (with_reducible refine Up.calls (HB2.out _ ?_)); (repeat' (first | (with_reducible exact Below.refl _ _) | (with_reducible assumption) | (with_reducible refine Below.setCell ?_ ?_ _) | (with_reducible refine Below.alloc ?_ ?_ _) | (with_reducible refine Below.drew ?_) | (with_reducible refine Up.base _ ?_ ?_) | (with_reducible exact LeSize.out) | exact LeSize.out | exact Nat.le_add_right_of_le LeSize.out | exact Nat.le_add_right_of_le (Nat.le_add_right_of_le LeSize.out) | (with_reducible exact Nat.le_refl _) | (simp; done) | (simp; omega)))) | (go_at_call 12; (with_reducible refine Up.calls (HB3.out _ ?_)); (repeat' (first | (with_reducible exact Below.refl _ _) | (with_reducible assumption) | (with_reducible refine Below.setCell ?_ ?_ _) | (with_reducible refine Below.alloc ?_ ?_ _) | (with_reducible refine Below.drew ?_) | (with_reducible refine Up.base _ ?_ ?_) | (with_reducible exact LeSize.out) | exact LeSize.out | exact Nat.le_add_right_of_le LeSize.out | exact Nat.le_add_right_of_le (Nat.le_add_right_of_le LeSize.out) | (with_reducible exact Nat.le_refl _) | (simp; done) | (simp; omega)))) | (go_at_call 13; (with_reducible refine Up.calls (HON.out _ ?_)); (repeat' (first | (with_reducible exact Below.refl _ _) | (with_reducible assumption) | (with_reducible refine Below.setCell ?_ ?_ _) | (with_reducible refine Below.alloc ?_ ?_ _) | (with_reducible refine Below.drew ?_) | (with_reducible refine Up.base _ ?_ ?_) | (with_reducible exact LeSize.out) | exact LeSize.out | exact Nat.le_add_right_of_le LeSize.out | exact Nat.le_add_right_of_le (Nat.le_add_right_of_le LeSize.out) | (with_reducible exact Nat.le_refl _) | (simp; done) | (simp; omega)))) | (go_at_call 8; exact Up.pure (rhas_any _ _ _)) | (go_at_call 10; exact Up.calls (awake8_any _)) | fail)))); refine wpQuiet_nil ?_; rintro _ ⟨u, rfl⟩)
      go_wp2
      go_ret
      exact ⟨rfl, by (repeat' (first | (with_reducible exact Below.refl _ _) | (with_reducible assumption) | (with_reducible refine Below.setCell ?_ ?_ _) | (with_reducible refine Below.alloc ?_ ?_ _) | (with_reducible refine Below.drew ?_) | (with_reducible refine Up.base _ ?_ ?_) | (with_reducible exact LeSize.out) | exact LeSize.out | exact Nat.le_add_right_of_le LeSize.out | exact Nat.le_add_right_of_le (Nat.le_add_right_of_le LeSize.out) | (with_reducible exact Nat.le_refl _) | (simp; done) | (simp; omega)))⟩
    | some y =>
      have HE2 : bs = (((x.g : Int) == (y.g : Int)) && ((x.k : Int) != (y.k : Int))) := HE
      clear HE
      simp only [whG, whK, whI, Option.isSome] at HWA HWB hon
      have HWA := Lib.hid HWA
      have HWB := Lib.hid HWB
      generalize (x.g : Int) = xg at *
      generalize (y.g : Int) = yg at *
      generalize (x.k : Int) = xk at *
      generalize (y.k : Int) = yk at *
      cases hg : (xg == yg) <;> cases hk : (xk != yk)
      all_goals
        simp only [hg, hk, Bool.and_true, Bool.and_false, Bool.true_and, Bool.false_and] at HE2
        subst HE2
        have HB1 := Lib.hid HB1
        have HB2 := Lib.hid HB2
        go_wp2_with (first | (refine l_ltab rfl rfl rfl ?_; go_simp) | (go_at_call 11; (with_reducible refine (Up.run (HWA.out _ ?_)).mono ?_); (focus (repeat' (first | (with_reducible exact Below.refl _ _) | (with_reducible assumption) | (with_reducible refine Below.setCell ?_ ?_ _) | (with_reducible refine Below.alloc ?_ ?_ _) | (with_reducible refine Below.drew ?_) | (with_reducible refine Up.base _ ?_ ?_) | (with_reducible exact LeSize.out) | exact LeSize.out | exact Nat.le_add_right_of_le LeSize.out | exact Nat.le_add_right_of_le (Nat.le_add_right_of_le LeSize.out) | (with_reducible exact Nat.le_refl _) | (simp; done) | (simp; omega)))); clear HWA; rintro e w' ⟨rfl, uw, rfl⟩) | (go_at_call 11; (with_reducible refine (Up.run (HWB.out _ ?_)).mono ?_); (focus (repeat' (first | (with_reducible exact Below.refl _ _) | (with_reducible assumption) | (with_reducible refine Below.setCell ?_ ?_ _) | (with_reducible refine Below.alloc ?_ ?_ _) | (with_reducible refine Below.drew ?_) | (with_reducible refine Up.base _ ?_ ?_) | (with_reducible exact LeSize.out) | exact LeSize.out | exact Nat.le_add_right_of_le LeSize.out | exact Nat.le_add_right_of_le (Nat.le_add_right_of_le LeSize.out) | (with_reducible exact Nat.le_refl _) | (simp; done) | (simp; omega)))); rintro e w' ⟨rfl, uw2, rfl⟩))
        (refine wp_region_up (by kernel_rfl) (by kernel_rfl) ?_; (repeat (first | (go_big_quiet_want; refine q_ltab rfl rfl ?_; simp only [Act.put, List.setIfInBounds_toArray, List.set_cons_succ, List.set_cons_zero]; go_big_quiet_on) | go_big_quiet_step ((first | (go_at_call 12; (with_reducible refine Up.calls (HB1.out _ ?_)); (repeat' (first | (with_reducible exact Below.refl _ _) | (with_reducible assumption) | (with_reducible refine Below.setCell ?_ ?_ _) | (with_reducible refine Below.alloc ?_ ?_ _) | (with_reducible refine Below.drew ?_) | (with_reducible refine Up.base _ ?_ ?_) | (with_reducible exact LeSize.out) | exact LeSize.out | exact Nat.le_add_right_of_le LeSize.out | exact Nat.le_add_right_of_le (Nat.le_add_right_of_le LeSize.out) | (with_reducible exact Nat.le_refl _) | (simp; done) | (simp; omega)))) | (go_at_call 12; (with_reducible refine Up.calls (HB2.out _ ?_)); (repeat' (first | (with_reducible exact Below.refl _ _) | (with_reducible assumption) | (with_reducible refine Below.setCell ?_ ?_ _) | (with_reducible refine Below.alloc ?_ ?_ _) | (with_reducible refine Below.drew ?_) | (with_reducible refine Up.base _ ?_ ?_) | (with_reducible exact LeSize.out) | exact LeSize.out | exact Nat.le_add_right_of_le LeSize.out | exact Nat.le_add_right_of_le (Nat.le_add_right_of_le LeSize.out) | (with_reducible exact Nat.le_refl _) | (simp; done) | (simp; omega)))) | (go_at_call 12; (with_reducible refine Up.calls (HB3.out _ ?_)); (repeat' (first | (with_reducible exact Below.refl _ _) | (with_reducible assumption) | (with_reducible refine Below.setCell ?_ ?_ _) | (with_reducible refine Below.alloc ?_ ?_ _) | (with_reducible refine Below.drew ?_) | (with_reducible refine Up.base _ ?_ ?_) | (with_reducible exact LeSize.out) | exact LeSize.out | exact Nat.le_add_right_of_le LeSize.out | exact Nat.le_add_right_of_le (Nat.le_add_right_of_le LeSize.out) | (with_reducible exact Nat.le_refl _) | (simp; done) | (simp; omega)))) | (go_at_call 13; (with_reducible refine Up.calls (HON.out _ ?_)); (repeat' (first | (with_reducible exact Below.refl _ _) | (with_reducible assumption) | (with_reducible refine Below.setCell ?_ ?_ _) | (with_reducible refine Below.alloc ?_ ?_ _) | (with_reducible refine Below.drew ?_) | (with_reducible refine Up.base _ ?_ ?_) | (with_reducible exact LeSize.out) | exact LeSize.out | exact Nat.le_add_right_of_le LeSize.out | exact Nat.le_add_right_of_le (Nat.le_add_right_of_le LeSize.out) | (with_reducible exact Nat.le_refl _) | (simp; done) | (simp; omega)))) | (go_at_call 8; exact Up.pure (rhas_any _ _ _)) | (go_at_call 10; exact Up.calls (awake8_any _)) | fail)))); refine wpQuiet_nil ?_; rintro _ ⟨u, rfl⟩)
        go_wp2
        go_ret
        exact ⟨rfl, by (repeat' (first | (with_reducible exact Below.refl _ _) | (with_reducible assumption) | (with_reducible refine Below.setCell ?_ ?_ _) | (with_reducible refine Below.alloc ?_ ?_ _) | (with_reducible refine Below.drew ?_) | (with_reducible refine Up.base _ ?_ ?_) | (with_reducible exact LeSize.out) | exact LeSize.out | exact Nat.le_add_right_of_le LeSize.out | exact Nat.le_add_right_of_le (Nat.le_add_right_of_le LeSize.out) | (with_reducible exact Nat.le_refl _) | (simp; done) | (simp; omega)))⟩
set_option maxRecDepth 100000 in
theorem PlanBeside_lifted (os : Os) (started : os.Started) (H : Type) (enc : TypeId × Value → H) :
    ReturnsInHanded {} Try.checked os 4 .any (Rows.planBesideSpec.pre6 enc Try.prog Try.f4 Rows.planBesideRow.domain false) (Rows.planBesideSpec.post enc Try.prog Try.f4 false true false false) := by
  refine returnsInHanded_of_change (C := Try.checked) own started (by kernel_rfl) Try.func4
    (ChangeSpec.witness6 (enc := enc) (C := Try.checked) false ⟨#[], #[.slice none 0 0, .int .i64 0, .int .i64 0], []⟩ 8 (by kernel_rfl) (by kernel_rfl) (by kernel_rfl) (by kernel_rfl)) ?_
  intro W base args ds gs before hval0 hW hcnd _
  have hval : ∀ (j : Nat) t v, Try.f4.params[j]? = some t → args[j]? = some v → Value.okWide Try.prog W .any base t v := hval0
  have hW' := hW
  obtain ⟨p, q, hA0, hV, rfl, hfz, hnd⟩ := hW
  have hA : DataW.TrodAll enc Try.prog W 0 (fun _ => true) true Try.f4.params.toList args.toList ds p := hA0
  rw [Try.params4] at hA hval
  obtain ⟨v0, vs0, d0, ds0, p0, q0, hargs, rfl, rfl, h0, r0⟩ := trodAll_cons hA
  obtain ⟨v1, vs1, d1, ds1, p1, q1, rfl, rfl, rfl, h1, r1⟩ := trodAll_cons r0
  obtain ⟨v2, vs2, d2, ds2, p2, q2, rfl, rfl, rfl, h2, r2⟩ := trodAll_cons r1
  obtain ⟨rfl, rfl, rfl⟩ := trodAll_nil r2
  obtain rfl : args = #[v0, v1, v2] := by cases args; simp_all
  obtain ⟨rfl, rfl⟩ := trodVars_none hV
  have k0 := h0
  have lt0 : ∀ x ∈ p0, x.block < W.heap.size := by obtain ⟨m, hm⟩ := k0; exact DataW.trod_lt m _ _ _ hm
  have k1 := h1
  have lt1 : ∀ x ∈ p1, x.block < W.heap.size := by obtain ⟨m, hm⟩ := k1; exact DataW.trod_lt m _ _ _ hm
  have k2 := h2
  have lt2 : ∀ x ∈ p2, x.block < W.heap.size := by obtain ⟨m, hm⟩ := k2; exact DataW.trod_lt m _ _ _ hm
  obtain ⟨a0, cap0, z0, rfl, hl0, hm0, hh0, hr0, iz0⟩ := open_ints1 Try.underlying22 Try.underlying3 (by kernel_rfl) (hval 0 22 v0 rfl rfl) k0
  obtain ⟨a1, rfl, w1⟩ := open_int1 Try.underlying3 (hval 1 3 v1 rfl rfl)
  obtain ⟨a2, rfl, w2⟩ := open_int1 Try.underlying3 (hval 2 3 v2 rfl rfl)
  clear hA0 hval0
  refine (planBeside_walk a0 cap0 z0 a1 a2 W ⟨hl0, hm0⟩ hh0 hr0 iz0 w1 w2).mono fun e W' ⟨he, bel⟩ => ?_
  subst he
  exact ⟨_, rfl, _, _, _, [], _, [], hW', trodAll_mk1 (shut_bool Try.underlying4 _), (trodAll_cons_mk (Below.trod laidOut (by kernel_rfl) (of_decide_eq_true (by kernel_rfl)) k0 bel lt0) (trodAll_cons_mk (Below.trod laidOut (by kernel_rfl) (of_decide_eq_true (by kernel_rfl)) k1 bel lt1) (trodAll_cons_mk (Below.trod laidOut (by kernel_rfl) (of_decide_eq_true (by kernel_rfl)) k2 bel lt2) trodAll_mk0))), rfl, bel.frame _, fun h => by cases h⟩

theorem PlanBeside_over : Rows.planBesideRow.holds Try.pinned (OpenSpec.ofChange Rows.planBesideSpec) :=
  OpenClaim.holds_of_wide 4 Try.f4 rfl rfl rfl rfl rfl rfl rfl ⟨rfl, rfl, rfl, rfl, rfl⟩ rfl rfl rfl rfl rfl (by kernel_rfl) Try.func4 (by kernel_rfl)
    (of_decide_eq_true (by kernel_rfl)) (by unfold Func.isWrapper; first | (rw [if_pos (by decide +kernel)]; kernel_rfl) | (rw [if_neg (by decide +kernel)]; exact ⟨rfl, rfl⟩))
    (fun os started H enc _ => PlanBeside_lifted os started H enc)

/-- The given statement. -/
theorem PlanBeside_holds : Rows.PlanBesideSaid := PlanBeside_over
#print axioms PlanBeside_holds
end Go.Proofs.Ytcgadkkjcbnfjaa
