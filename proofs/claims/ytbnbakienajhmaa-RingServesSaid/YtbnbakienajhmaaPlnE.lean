/- The contract of package plan: Following. -/
import Derived.Test.YtbnbakienajhmaaPlnK
namespace Go.Proofs.Ytbnbakienajhmaa
open Go.RowKit
set_option linter.unusedVariables false
attribute [local go_sem] IsBlk.cell IsBlk.frozen

theorem folZ_hit {f : Int → Bool} {n : Nat} {g : Int} {k : Nat} (hN : folN f n (grpZ n g) k = -1) (hk : k < n) (hh : f ((grpZ n g + 1 + k) % n) = true) : folZ f n g = (grpZ n g + 1 + k) % n := by
  unfold folZ
  have e1 : folN f n (grpZ n g) (k + 1) = (grpZ n g + 1 + k) % n := by unfold folN; rw [if_pos ⟨hN, hh⟩]
  have hp : 0 ≤ (grpZ n g + 1 + k) % n := Int.emod_nonneg _ (by omega)
  rw [show (n : Int).toNat = (k + 1) + (n - (k + 1)) by omega, folN_keep (by rw [e1]; omega), e1]
theorem folN_miss {f : Int → Bool} {n : Nat} {G : Int} {k : Nat} (hN : folN f n G k = -1) (hh : f ((G + 1 + k) % n) = false) : folN f n G (k + 1) = -1 := by
  unfold folN
  rw [if_neg, hN]
  rintro ⟨_, h2⟩
  rw [hh] at h2; cases h2
set_option maxHeartbeats 8000000 in
set_option maxRecDepth 100000 in
theorem pfol_any (T : Array Value) (t : Tab) (g want : Int) (w : World) (hg : InKind .i64 g) (hT : IsTab w T t) :
    Calls Try.prog 61 #[.agg T, .int .i64 g, .int .i64 want] w fun e w' => e = .returned (.int .i64 (folZ (wanZ t.gr want) t.gr.length g)) ∧ Below w.heap.size w w' := by
  haveI : Sz131 T := ⟨hT.size⟩
  have HT : Hid (∀ w', Below w.heap.size w w' → IsTab w' T t) := Lib.hid fun w' hb => hT.below hb (Nat.le_refl _)
  obtain ⟨ga, gcap, t104, lg⟩ : ∃ ga gcap, T[104]? = some (.slice ga t.gr.length gcap) ∧ t.gr.length ≤ 8 := by
    obtain ⟨gv, d, r, b, hTe, hI⟩ := hT
    obtain ⟨ga, gcap, H, rfl, _, _⟩ := hI.gr
    exact ⟨ga, gcap, by rw [hTe, arrF_get _ _ _ (by omega)]; rfl, hI.lg⟩
  have HM : Hid (∀ g w', Below w.heap.size w w' → Calls Try.prog 76 #[.agg T, .int .i64 g] w' fun e w'' => e = .returned (.int .i64 (memZ t.gr g)) ∧ Below w'.heap.size w' w'') := Lib.hid fun g w' hb => pmem_any T t g w' (HT.out w' hb)
  clear hT HT
  have HW : Hid (∀ g, wanZ t.gr want g = (bits .and .i64 (memZ t.gr g) want != 0)) := Lib.hid fun g => rfl
  generalize wanZ t.gr want = f at *
  generalize memZ t.gr = mz at *
  generalize t.gr.length = n at *
  obtain ⟨G, hG, hGb⟩ : ∃ G, G = grpZ n g ∧ (0 < n → 0 ≤ G ∧ G < n) := ⟨_, rfl, fun h => by unfold grpZ; split <;> omega⟩
  have HHIT : Hid (∀ k : Nat, folN f n G k = -1 → k < n → f ((G + 1 + k) % n) = true → folZ f n g = (G + 1 + k) % n) := Lib.hid fun k h1 h2 h3 => by rw [hG] at h1 h3 ⊢; exact folZ_hit h1 h2 h3
  have HEND : Hid (folN f n G n = -1 → folZ f n g = -1) := Lib.hid fun h => by unfold folZ; rw [← hG]; simpa using h
  obtain ⟨R, hR⟩ : ∃ R, folZ f n g = R := ⟨_, rfl⟩
  rw [hR] at HHIT HEND ⊢
  clear hR
  rcases (show g < 0 ∧ G = n - 1 ∨ (¬ g < 0 ∧ (n : Int) ≤ g ∧ G = n - 1) ∨ (¬ g < 0 ∧ ¬ (n : Int) ≤ g ∧ G = g) by unfold grpZ at hG; split at hG <;> omega) with ⟨h1, h2⟩ | ⟨h1, h2, h3⟩ | ⟨h1, h2, h3⟩
  · have HG := Lib.hid h2
    clear hG h2
    go_enter Try.func61, Try.ntmps61
    go_wp2
    rw [← HG.out]
    go_loopw [23] (fun i wr => ∃ k : Nat, k ≤ n ∧ i = .int .i64 k ∧ Hid (folN f n G k = -1) ∧ Below w.heap.size w wr ∧ IsBlk wr w.heap.size T 32) (fun i _ => n - (intOf i).toNat)
    case atStart => exact ⟨0, Nat.zero_le _, rfl, Lib.hid rfl, by (repeat' (first | (with_reducible exact Below.refl _ _) | (with_reducible assumption) | (with_reducible refine Below.setCell ?_ ?_ _) | (with_reducible refine Below.alloc ?_ ?_ _) | (with_reducible refine Below.drew ?_) | (with_reducible refine Up.base _ ?_ ?_) | (with_reducible exact LeSize.out) | exact LeSize.out | exact Nat.le_add_right_of_le LeSize.out | exact Nat.le_add_right_of_le (Nat.le_add_right_of_le LeSize.out) | (with_reducible exact Nat.le_refl _) | (simp; done) | (simp; omega))), inferInstance⟩
    case round =>
      obtain ⟨k, hk, rfl, hN, hb, iB⟩ := hrel
      haveI : LeSize w.heap.size wr := ⟨hb.size⟩
      by_cases hlt : k < n
      · have hn0 : ((n : Int) == 0) = false := by simp; omega
        obtain ⟨hg0, hg1⟩ := hGb (by omega)
        have hmod : (G + 1 + k).tmod n = (G + 1 + k) % n := Int.tmod_eq_emod_of_nonneg (by omega)
        have hx0 : 0 ≤ (G + 1 + k) % n := Int.emod_nonneg _ (by omega)
        have hx1 : (G + 1 + k) % n < n := Int.emod_lt_of_pos _ (by omega)
        have hh := HHIT.out k hN.out hlt
        have hmiss := fun h => folN_miss (f := f) (n := n) (G := G) (k := k) hN.out h
        generalize (G + 1 + k) % n = x at *
        have hw := HW.out x
        cases hfx : f x
        · have HN := Lib.hid (hmiss hfx)
          have hb0 : (bits .and .i64 (mz x) want != 0) = false := by rw [← hw, hfx]
          clear hw hfx hmiss hh
          go_wp2_with (first | (refine l_ltab rfl rfl rfl ?_; go_simp) | (go_at_call 76; refine (Up.run (HM.out _ _ (by (repeat' (first | (with_reducible exact Below.refl _ _) | (with_reducible assumption) | (with_reducible refine Below.setCell ?_ ?_ _) | (with_reducible refine Below.alloc ?_ ?_ _) | (with_reducible refine Below.drew ?_) | (with_reducible refine Up.base _ ?_ ?_) | (with_reducible exact LeSize.out) | exact LeSize.out | exact Nat.le_add_right_of_le LeSize.out | exact Nat.le_add_right_of_le (Nat.le_add_right_of_le LeSize.out) | (with_reducible exact Nat.le_refl _) | (simp; done) | (simp; omega)))))).mono ?_; rintro e w' ⟨rfl, upm, rfl⟩))
          go_roundw
          case rel => exact ⟨k + 1, by omega, by go_num, HN, by (repeat' (first | (with_reducible exact Below.refl _ _) | (with_reducible assumption) | (with_reducible refine Below.setCell ?_ ?_ _) | (with_reducible refine Below.alloc ?_ ?_ _) | (with_reducible refine Below.drew ?_) | (with_reducible refine Up.base _ ?_ ?_) | (with_reducible exact LeSize.out) | exact LeSize.out | exact Nat.le_add_right_of_le LeSize.out | exact Nat.le_add_right_of_le (Nat.le_add_right_of_le LeSize.out) | (with_reducible exact Nat.le_refl _) | (simp; done) | (simp; omega))), inferInstance⟩
          case measure => simp [intOf]; omega
        · have HN := Lib.hid (hh hfx)
          have hb0 : (bits .and .i64 (mz x) want != 0) = true := by rw [← hw, hfx]
          clear hw hfx hmiss hh
          go_wp2_with (first | (refine l_ltab rfl rfl rfl ?_; go_simp) | (go_at_call 76; refine (Up.run (HM.out _ _ (by (repeat' (first | (with_reducible exact Below.refl _ _) | (with_reducible assumption) | (with_reducible refine Below.setCell ?_ ?_ _) | (with_reducible refine Below.alloc ?_ ?_ _) | (with_reducible refine Below.drew ?_) | (with_reducible refine Up.base _ ?_ ?_) | (with_reducible exact LeSize.out) | exact LeSize.out | exact Nat.le_add_right_of_le LeSize.out | exact Nat.le_add_right_of_le (Nat.le_add_right_of_le LeSize.out) | (with_reducible exact Nat.le_refl _) | (simp; done) | (simp; omega)))))).mono ?_; rintro e w' ⟨rfl, upm, rfl⟩))
          go_ret
          exact ⟨ret_int HN.out.symm, by (repeat' (first | (with_reducible exact Below.refl _ _) | (with_reducible assumption) | (with_reducible refine Below.setCell ?_ ?_ _) | (with_reducible refine Below.alloc ?_ ?_ _) | (with_reducible refine Below.drew ?_) | (with_reducible refine Up.base _ ?_ ?_) | (with_reducible exact LeSize.out) | exact LeSize.out | exact Nat.le_add_right_of_le LeSize.out | exact Nat.le_add_right_of_le (Nat.le_add_right_of_le LeSize.out) | (with_reducible exact Nat.le_refl _) | (simp; done) | (simp; omega)))⟩
      · obtain rfl : k = n := by omega
        go_wp2
        go_ret
        exact ⟨ret_int (HEND.out hN.out).symm, by (repeat' (first | (with_reducible exact Below.refl _ _) | (with_reducible assumption) | (with_reducible refine Below.setCell ?_ ?_ _) | (with_reducible refine Below.alloc ?_ ?_ _) | (with_reducible refine Below.drew ?_) | (with_reducible refine Up.base _ ?_ ?_) | (with_reducible exact LeSize.out) | exact LeSize.out | exact Nat.le_add_right_of_le LeSize.out | exact Nat.le_add_right_of_le (Nat.le_add_right_of_le LeSize.out) | (with_reducible exact Nat.le_refl _) | (simp; done) | (simp; omega)))⟩
  · have HG := Lib.hid h3
    clear hG h3
    go_enter Try.func61, Try.ntmps61
    go_wp2
    rw [← HG.out]
    go_loopw [23] (fun i wr => ∃ k : Nat, k ≤ n ∧ i = .int .i64 k ∧ Hid (folN f n G k = -1) ∧ Below w.heap.size w wr ∧ IsBlk wr w.heap.size T 32) (fun i _ => n - (intOf i).toNat)
    case atStart => exact ⟨0, Nat.zero_le _, rfl, Lib.hid rfl, by (repeat' (first | (with_reducible exact Below.refl _ _) | (with_reducible assumption) | (with_reducible refine Below.setCell ?_ ?_ _) | (with_reducible refine Below.alloc ?_ ?_ _) | (with_reducible refine Below.drew ?_) | (with_reducible refine Up.base _ ?_ ?_) | (with_reducible exact LeSize.out) | exact LeSize.out | exact Nat.le_add_right_of_le LeSize.out | exact Nat.le_add_right_of_le (Nat.le_add_right_of_le LeSize.out) | (with_reducible exact Nat.le_refl _) | (simp; done) | (simp; omega))), inferInstance⟩
    case round =>
      obtain ⟨k, hk, rfl, hN, hb, iB⟩ := hrel
      haveI : LeSize w.heap.size wr := ⟨hb.size⟩
      by_cases hlt : k < n
      · have hn0 : ((n : Int) == 0) = false := by simp; omega
        obtain ⟨hg0, hg1⟩ := hGb (by omega)
        have hmod : (G + 1 + k).tmod n = (G + 1 + k) % n := Int.tmod_eq_emod_of_nonneg (by omega)
        have hx0 : 0 ≤ (G + 1 + k) % n := Int.emod_nonneg _ (by omega)
        have hx1 : (G + 1 + k) % n < n := Int.emod_lt_of_pos _ (by omega)
        have hh := HHIT.out k hN.out hlt
        have hmiss := fun h => folN_miss (f := f) (n := n) (G := G) (k := k) hN.out h
        generalize (G + 1 + k) % n = x at *
        have hw := HW.out x
        cases hfx : f x
        · have HN := Lib.hid (hmiss hfx)
          have hb0 : (bits .and .i64 (mz x) want != 0) = false := by rw [← hw, hfx]
          clear hw hfx hmiss hh
          go_wp2_with (first | (refine l_ltab rfl rfl rfl ?_; go_simp) | (go_at_call 76; refine (Up.run (HM.out _ _ (by (repeat' (first | (with_reducible exact Below.refl _ _) | (with_reducible assumption) | (with_reducible refine Below.setCell ?_ ?_ _) | (with_reducible refine Below.alloc ?_ ?_ _) | (with_reducible refine Below.drew ?_) | (with_reducible refine Up.base _ ?_ ?_) | (with_reducible exact LeSize.out) | exact LeSize.out | exact Nat.le_add_right_of_le LeSize.out | exact Nat.le_add_right_of_le (Nat.le_add_right_of_le LeSize.out) | (with_reducible exact Nat.le_refl _) | (simp; done) | (simp; omega)))))).mono ?_; rintro e w' ⟨rfl, upm, rfl⟩))
          go_roundw
          case rel => exact ⟨k + 1, by omega, by go_num, HN, by (repeat' (first | (with_reducible exact Below.refl _ _) | (with_reducible assumption) | (with_reducible refine Below.setCell ?_ ?_ _) | (with_reducible refine Below.alloc ?_ ?_ _) | (with_reducible refine Below.drew ?_) | (with_reducible refine Up.base _ ?_ ?_) | (with_reducible exact LeSize.out) | exact LeSize.out | exact Nat.le_add_right_of_le LeSize.out | exact Nat.le_add_right_of_le (Nat.le_add_right_of_le LeSize.out) | (with_reducible exact Nat.le_refl _) | (simp; done) | (simp; omega))), inferInstance⟩
          case measure => simp [intOf]; omega
        · have HN := Lib.hid (hh hfx)
          have hb0 : (bits .and .i64 (mz x) want != 0) = true := by rw [← hw, hfx]
          clear hw hfx hmiss hh
          go_wp2_with (first | (refine l_ltab rfl rfl rfl ?_; go_simp) | (go_at_call 76; refine (Up.run (HM.out _ _ (by (repeat' (first | (with_reducible exact Below.refl _ _) | (with_reducible assumption) | (with_reducible refine Below.setCell ?_ ?_ _) | (with_reducible refine Below.alloc ?_ ?_ _) | (with_reducible refine Below.drew ?_) | (with_reducible refine Up.base _ ?_ ?_) | (with_reducible exact LeSize.out) | exact LeSize.out | exact Nat.le_add_right_of_le LeSize.out | exact Nat.le_add_right_of_le (Nat.le_add_right_of_le LeSize.out) | (with_reducible exact Nat.le_refl _) | (simp; done) | (simp; omega)))))).mono ?_; rintro e w' ⟨rfl, upm, rfl⟩))
          go_ret
          exact ⟨ret_int HN.out.symm, by (repeat' (first | (with_reducible exact Below.refl _ _) | (with_reducible assumption) | (with_reducible refine Below.setCell ?_ ?_ _) | (with_reducible refine Below.alloc ?_ ?_ _) | (with_reducible refine Below.drew ?_) | (with_reducible refine Up.base _ ?_ ?_) | (with_reducible exact LeSize.out) | exact LeSize.out | exact Nat.le_add_right_of_le LeSize.out | exact Nat.le_add_right_of_le (Nat.le_add_right_of_le LeSize.out) | (with_reducible exact Nat.le_refl _) | (simp; done) | (simp; omega)))⟩
      · obtain rfl : k = n := by omega
        go_wp2
        go_ret
        exact ⟨ret_int (HEND.out hN.out).symm, by (repeat' (first | (with_reducible exact Below.refl _ _) | (with_reducible assumption) | (with_reducible refine Below.setCell ?_ ?_ _) | (with_reducible refine Below.alloc ?_ ?_ _) | (with_reducible refine Below.drew ?_) | (with_reducible refine Up.base _ ?_ ?_) | (with_reducible exact LeSize.out) | exact LeSize.out | exact Nat.le_add_right_of_le LeSize.out | exact Nat.le_add_right_of_le (Nat.le_add_right_of_le LeSize.out) | (with_reducible exact Nat.le_refl _) | (simp; done) | (simp; omega)))⟩
  · clear hG
    subst h3
    go_enter Try.func61, Try.ntmps61
    go_wp2
    go_loopw [23] (fun i wr => ∃ k : Nat, k ≤ n ∧ i = .int .i64 k ∧ Hid (folN f n G k = -1) ∧ Below w.heap.size w wr ∧ IsBlk wr w.heap.size T 32) (fun i _ => n - (intOf i).toNat)
    case atStart => exact ⟨0, Nat.zero_le _, rfl, Lib.hid rfl, by (repeat' (first | (with_reducible exact Below.refl _ _) | (with_reducible assumption) | (with_reducible refine Below.setCell ?_ ?_ _) | (with_reducible refine Below.alloc ?_ ?_ _) | (with_reducible refine Below.drew ?_) | (with_reducible refine Up.base _ ?_ ?_) | (with_reducible exact LeSize.out) | exact LeSize.out | exact Nat.le_add_right_of_le LeSize.out | exact Nat.le_add_right_of_le (Nat.le_add_right_of_le LeSize.out) | (with_reducible exact Nat.le_refl _) | (simp; done) | (simp; omega))), inferInstance⟩
    case round =>
      obtain ⟨k, hk, rfl, hN, hb, iB⟩ := hrel
      haveI : LeSize w.heap.size wr := ⟨hb.size⟩
      by_cases hlt : k < n
      · have hn0 : ((n : Int) == 0) = false := by simp; omega
        obtain ⟨hg0, hg1⟩ := hGb (by omega)
        have hmod : (G + 1 + k).tmod n = (G + 1 + k) % n := Int.tmod_eq_emod_of_nonneg (by omega)
        have hx0 : 0 ≤ (G + 1 + k) % n := Int.emod_nonneg _ (by omega)
        have hx1 : (G + 1 + k) % n < n := Int.emod_lt_of_pos _ (by omega)
        have hh := HHIT.out k hN.out hlt
        have hmiss := fun h => folN_miss (f := f) (n := n) (G := G) (k := k) hN.out h
        generalize (G + 1 + k) % n = x at *
        have hw := HW.out x
        cases hfx : f x
        · have HN := Lib.hid (hmiss hfx)
          have hb0 : (bits .and .i64 (mz x) want != 0) = false := by rw [← hw, hfx]
          clear hw hfx hmiss hh
          go_wp2_with (first | (refine l_ltab rfl rfl rfl ?_; go_simp) | (go_at_call 76; refine (Up.run (HM.out _ _ (by (repeat' (first | (with_reducible exact Below.refl _ _) | (with_reducible assumption) | (with_reducible refine Below.setCell ?_ ?_ _) | (with_reducible refine Below.alloc ?_ ?_ _) | (with_reducible refine Below.drew ?_) | (with_reducible refine Up.base _ ?_ ?_) | (with_reducible exact LeSize.out) | exact LeSize.out | exact Nat.le_add_right_of_le LeSize.out | exact Nat.le_add_right_of_le (Nat.le_add_right_of_le LeSize.out) | (with_reducible exact Nat.le_refl _) | (simp; done) | (simp; omega)))))).mono ?_; rintro e w' ⟨rfl, upm, rfl⟩))
          go_roundw
          case rel => exact ⟨k + 1, by omega, by go_num, HN, by (repeat' (first | (with_reducible exact Below.refl _ _) | (with_reducible assumption) | (with_reducible refine Below.setCell ?_ ?_ _) | (with_reducible refine Below.alloc ?_ ?_ _) | (with_reducible refine Below.drew ?_) | (with_reducible refine Up.base _ ?_ ?_) | (with_reducible exact LeSize.out) | exact LeSize.out | exact Nat.le_add_right_of_le LeSize.out | exact Nat.le_add_right_of_le (Nat.le_add_right_of_le LeSize.out) | (with_reducible exact Nat.le_refl _) | (simp; done) | (simp; omega))), inferInstance⟩
          case measure => simp [intOf]; omega
        · have HN := Lib.hid (hh hfx)
          have hb0 : (bits .and .i64 (mz x) want != 0) = true := by rw [← hw, hfx]
          clear hw hfx hmiss hh
          go_wp2_with (first | (refine l_ltab rfl rfl rfl ?_; go_simp) | (go_at_call 76; refine (Up.run (HM.out _ _ (by (repeat' (first | (with_reducible exact Below.refl _ _) | (with_reducible assumption) | (with_reducible refine Below.setCell ?_ ?_ _) | (with_reducible refine Below.alloc ?_ ?_ _) | (with_reducible refine Below.drew ?_) | (with_reducible refine Up.base _ ?_ ?_) | (with_reducible exact LeSize.out) | exact LeSize.out | exact Nat.le_add_right_of_le LeSize.out | exact Nat.le_add_right_of_le (Nat.le_add_right_of_le LeSize.out) | (with_reducible exact Nat.le_refl _) | (simp; done) | (simp; omega)))))).mono ?_; rintro e w' ⟨rfl, upm, rfl⟩))
          go_ret
          exact ⟨ret_int HN.out.symm, by (repeat' (first | (with_reducible exact Below.refl _ _) | (with_reducible assumption) | (with_reducible refine Below.setCell ?_ ?_ _) | (with_reducible refine Below.alloc ?_ ?_ _) | (with_reducible refine Below.drew ?_) | (with_reducible refine Up.base _ ?_ ?_) | (with_reducible exact LeSize.out) | exact LeSize.out | exact Nat.le_add_right_of_le LeSize.out | exact Nat.le_add_right_of_le (Nat.le_add_right_of_le LeSize.out) | (with_reducible exact Nat.le_refl _) | (simp; done) | (simp; omega)))⟩
      · obtain rfl : k = n := by omega
        go_wp2
        go_ret
        exact ⟨ret_int (HEND.out hN.out).symm, by (repeat' (first | (with_reducible exact Below.refl _ _) | (with_reducible assumption) | (with_reducible refine Below.setCell ?_ ?_ _) | (with_reducible refine Below.alloc ?_ ?_ _) | (with_reducible refine Below.drew ?_) | (with_reducible refine Up.base _ ?_ ?_) | (with_reducible exact LeSize.out) | exact LeSize.out | exact Nat.le_add_right_of_le LeSize.out | exact Nat.le_add_right_of_le (Nat.le_add_right_of_le LeSize.out) | (with_reducible exact Nat.le_refl _) | (simp; done) | (simp; omega)))⟩
end Go.Proofs.Ytbnbakienajhmaa
