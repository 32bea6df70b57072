/- The contract of Table: the walk. -/
import Derived.Test.YtbnbakienajhmaaTabP
import Derived.Deep.DeepCutAuto
namespace Go.Proofs.Ytbnbakienajhmaa
open Go.RowKit
set_option linter.unusedVariables false
attribute [local go_sem] IsBlk.cell IsBlk.frozen

def nilV : Value := .slice none 0 0
set_option maxHeartbeats 8000000 in
set_option maxRecDepth 100000 in
theorem ltable_own (a : Option Addr) (cap : Nat) (zs : List Int) (w : World) (hl : zs.length ≤ 9223372036854775807) (hz : Ints w a zs) :
    Calls Try.prog 7 #[.slice a zs.length cap] w fun e w' => ∃ T, e = .returned (.agg T) ∧ IsTab w' T (tabM zs) ∧ OwnDe w' w.heap.size T (tabM zs).de ∧ Below w.heap.size w w' := by
  have HZ : Hid (∀ w', Below w.heap.size w w' → Ints w' a zs) := Lib.hid fun w' hb => Row1.below hz hb (Nat.le_refl _)
  have HZL := Lib.hid hl
  have z := zeroTab
  have hz0 : TabZero.size = 131 := rfl
  clear hl hz
  go_enter Try.func7, Try.ntmps7
  obtain ⟨X, hX⟩ : ∃ X, (w.alloc (.cells TabZero 32)).alloc (.cells TabZero 32) = X := ⟨_, rfl⟩
  have hXs : w.heap.size + 1 + 1 = X.heap.size := by rw [← hX]; simp
  have hXb : X.heap[w.heap.size + 1]? = some (.cells TabZero 32) := by
    have := heap_alloc_here (w.alloc (.cells TabZero 32)) (.cells TabZero 32)
    rw [hX] at this; simpa using this
  have hXr : X.heap[w.heap.size]? = some (.cells TabZero 32) := by
    rw [← hX, Below.heap_alloc _ _ _ (by simp)]; exact heap_alloc_here _ _
  have hXw : Below w.heap.size w X := by rw [← hX]; (repeat' (first | (with_reducible exact Below.refl _ _) | (with_reducible assumption) | (with_reducible refine Below.setCell ?_ ?_ _) | (with_reducible refine Below.alloc ?_ ?_ _) | (with_reducible refine Below.drew ?_) | (with_reducible refine Up.base _ ?_ ?_) | (with_reducible exact LeSize.out) | exact LeSize.out | exact Nat.le_add_right_of_le LeSize.out | exact Nat.le_add_right_of_le (Nat.le_add_right_of_le LeSize.out) | (with_reducible exact Nat.le_refl _) | (simp; done) | (simp; omega)))
  have HRW : Hid (Calls Try.prog 25 #[.pointer (some ⟨w.heap.size + 1, 0, none⟩), .slice a zs.length cap] X fun e w' => e = .returned (.int .i64 (rowsM zs).1) ∧ ∃ vg, TB X w' (w.heap.size + 1) { tab0 with gr := (rowsM zs).2 } vg (.slice none 0 0) (.slice none 0 0) (.slice none 0 0)) := Lib.hid (by
    refine (lrows_any a cap zs (w.heap.size + 1) TabZero X HZL.out (fun w' hb => HZ.out _ (hXw.trans (hb.mono (by omega)))) hXb hXs rfl (by rw [tabZero_eq, arrF_get _ _ _ (by omega)]; rfl)).mono ?_
    rintro e w' ⟨rfl, hr⟩
    refine ⟨rfl, TB.rows hXs hr ?_ (rowsGo_lr zs _ _)⟩
    have := rowsM_bd zs; have := groupsN_bd zs; omega)
  have hn := rowsM_bd zs
  obtain ⟨R, hR⟩ : ∃ R, tabM zs = R := ⟨_, rfl⟩
  rw [hR]
  have HR := Lib.hid hR
  clear hR
  go_wp2_with (go_at_call 25; refine HRW.out.mono ?_; rintro e w' ⟨rfl, vg, htb⟩)
  generalize hgr : (rowsM zs).2 = gr at *
  generalize hnn : (rowsM zs).1 = n at *
  clear HRW
  go_loopw [5] (fun i wr => ∃ k : Nat, k ≤ n ∧ i = .int .i64 k ∧ TB X wr (w.heap.size + 1) ⟨ph1 zs k, gr, fun _ => 0, [], [], [], 0, 0, 0, 0, 0, fl1 k, 0, 0⟩ vg (.slice none 0 0) (.slice none 0 0) (.slice none 0 0)) (fun i _ => n - (intOf i).toNat)
  case atStart => exact ⟨0, Nat.zero_le _, rfl, by rw [show ph1 zs 0 = tab0.ph from rfl, show fl1 0 = tab0.fl from rfl]; exact htb⟩
  case round =>
    clear htb
    obtain ⟨k, hk, rfl, htb⟩ := hrel
    have hbw := htb.world hXw (by omega)
    haveI : LeSize w.heap.size wr := ⟨hbw.size⟩
    by_cases hlt : k < n
    · have hk8 : (k : Int) < 8 := by omega
      have HPh : Hid (∀ w', Below w.heap.size w w' → Calls Try.prog 26 #[.slice a zs.length cap, .int .i64 (10 + 12 * (k : Int))] w' fun e w'' => e = .returned (.agg (phC (phM zs (10 + 12 * k))).toArray) ∧ Below w'.heap.size w' w'') := Lib.hid fun w' h => by
        rw [show (10 + 12 * (k : Int)) = ((10 + 12 * k : Nat) : Int) by omega]; exact lphase_any a cap zs _ w' HZL.out (by omega) (HZ.out _ h)
      have HP1 := Lib.hid (ph1_succ zs k)
      generalize phM zs (10 + 12 * k) = x at *
      have HTB := Lib.hid htb
      haveI : IsBlk wr (w.heap.size + 1) (arrF 131 (tabAt ⟨ph1 zs k, gr, fun _ => 0, [], [], [], 0, 0, 0, 0, 0, fl1 k, 0, 0⟩ vg (.slice none 0 0) (.slice none 0 0) (.slice none 0 0))) 32 := ⟨htb.blk⟩
      have hsz : (arrF 131 (tabAt ⟨ph1 zs k, gr, fun _ => 0, [], [], [], 0, 0, 0, 0, 0, fl1 k, 0, 0⟩ vg (.slice none 0 0) (.slice none 0 0) (.slice none 0 0))).size = 131 := arrF_size _ _
      generalize arrF 131 (tabAt ⟨ph1 zs k, gr, fun _ => 0, [], [], [], 0, 0, 0, 0, 0, fl1 k, 0, 0⟩ vg (.slice none 0 0) (.slice none 0 0) (.slice none 0 0)) = C at *
      clear htb
      obtain ⟨xs, hxs⟩ : ∃ xs, (phC x).toArray = xs := ⟨_, rfl⟩
      have hx13 : xs.size = 13 := by rw [← hxs]; rfl
      have hx1 : xs.all (·.oneCell') = true := by rw [← hxs]; simp [phC, Value.oneCell']
      obtain ⟨V, hV⟩ : ∃ V, (spl C (k * 13) xs.toList)[121 + k]? = some V := ⟨_, Array.getElem?_eq_getElem (by rw [spl_size]; omega)⟩
      rw [hxs] at HPh
      have HXS : Hid (xs.toList = phC x) := Lib.hid (by rw [← hxs])
      clear hxs
      go_wp2_with (first | (go_at_call 26; refine (Up.run (HPh.out _ (by (repeat' (first | (with_reducible exact Below.refl _ _) | (with_reducible assumption) | (with_reducible refine Below.setCell ?_ ?_ _) | (with_reducible refine Below.alloc ?_ ?_ _) | (with_reducible refine Below.drew ?_) | (with_reducible refine Up.base _ ?_ ?_) | (with_reducible exact LeSize.out) | exact LeSize.out | exact Nat.le_add_right_of_le LeSize.out | exact Nat.le_add_right_of_le (Nat.le_add_right_of_le LeSize.out) | (with_reducible exact Nat.le_refl _) | (simp; done) | (simp; omega)))))).mono ?_; rintro e w' ⟨rfl, u, rfl⟩) | (refine wpList_store_part (o := k * 13) (cs := xs) 24 rfl rfl rfl rfl (by omega) (by rw [hx13]; kernel_rfl) hx1 ?_; go_simp))
      go_roundw
      case rel => exact ⟨k + 1, by omega, by go_num, by
        have h1 := ((HTB.out.below u.bel).putP (x := x) (p := k) (by omega)).putFl (k := k) (x := 1) (by omega)
        rw [← HXS.out] at h1
        rw [← HP1.out, ← fl1_succ]; exact h1⟩
      case measure => simp [intOf]; omega
    · obtain rfl : k = n := by omega
      obtain ⟨PH, hPH⟩ : ∃ x, ph1 zs k = x := ⟨_, rfl⟩
      obtain ⟨FL, hFL⟩ : ∃ x, fl1 k = x := ⟨_, rfl⟩
      have HPH := Lib.hid hPH
      have HFL := Lib.hid hFL
      rw [hPH, hFL] at htb
      clear hPH hFL
      go_wp2
      go_loopw [6] (fun i wr => ∃ p : Nat, p ≤ k ∧ i = .int .i64 p ∧ TB X wr (w.heap.size + 1) ⟨PH, gr, cfP gr zs p, [], [], [], 0, 0, 0, 0, 0, FL, 0, 0⟩ vg (.slice none 0 0) (.slice none 0 0) (.slice none 0 0)) (fun i _ => k - (intOf i).toNat)
      case atStart => exact ⟨0, Nat.zero_le _, rfl, htb⟩
      case round =>
        clear htb hbw
        obtain ⟨p, hp, rfl, htb⟩ := hrel
        by_cases hltp : p < k
        · go_wp2
          go_loopw [7] (fun i wr => ∃ q : Nat, q ≤ p ∧ i = .int .i64 q ∧ TB X wr (w.heap.size + 1) ⟨PH, gr, cfQ gr zs p (cfP gr zs p) q, [], [], [], 0, 0, 0, 0, 0, FL, 0, 0⟩ vg (.slice none 0 0) (.slice none 0 0) (.slice none 0 0)) (fun i _ => p - (intOf i).toNat)
          case atStart => exact ⟨0, Nat.zero_le _, rfl, htb⟩
          case round =>
            clear htb
            obtain ⟨q, hq, rfl, htb⟩ := hrel
            have hbw := htb.world hXw (by omega)
            haveI : LeSize w.heap.size wr := ⟨hbw.size⟩
            by_cases hltq : q < p
            · have hp8 : (p : Int) < 8 := by omega
              have hq8 : (q : Int) < 8 := by omega
              have HTB := Lib.hid htb
              have hT := htb.isTab
              haveI iB : IsBlk wr (w.heap.size + 1) _ _ := ⟨htb.blk⟩
              have hCF : cfQ gr zs p (cfP gr zs p) (q + 1) = cfS gr zs p q (cfQ gr zs p (cfP gr zs p) q) := rfl
              have HCF := Lib.hid hCF
              clear hCF
              generalize cfQ gr zs p (cfP gr zs p) q = CF at *
              have g1 := hT.cf p (by omega)
              have g2 := hT.cf q (by omega)
              simp only at g1 g2
              haveI hS : Sz131 (arrF 131 (tabAt ⟨PH, gr, CF, [], [], [], 0, 0, 0, 0, 0, FL, 0, 0⟩ vg (.slice none 0 0) (.slice none 0 0) (.slice none 0 0))) := ⟨arrF_size _ _⟩
              have hsz := hS.out
              have HB : Hid (∀ w', Below wr.heap.size wr w' → Calls Try.prog 17 #[.agg (arrF 131 (tabAt ⟨PH, gr, CF, [], [], [], 0, 0, 0, 0, 0, FL, 0, 0⟩ vg (.slice none 0 0) (.slice none 0 0) (.slice none 0 0))), .int .i64 p, .int .i64 q] w' fun e w'' => e = .returned (.bool (besideM gr p q)) ∧ Below w'.heap.size w' w'') := Lib.hid fun w' h => by have h2 := beside_any _ _ (p : Int) (q : Int) w' (hT.below h (Nat.le_refl _)); exact h2
              generalize arrF 131 (tabAt ⟨PH, gr, CF, [], [], [], 0, 0, 0, 0, 0, FL, 0, 0⟩ vg (.slice none 0 0) (.slice none 0 0) (.slice none 0 0)) = C at *
              have hfr : frI zs (110 + 8 * (p : Int) + (q : Int)) 9 = fr zs (110 + 8 * p + q) 9 := frI_of zs _ _ 9 (by omega)
              obtain ⟨f, hf⟩ : ∃ f, fr zs (110 + 8 * p + q) 9 = f := ⟨_, rfl⟩
              rw [hf] at hfr
              cases hbs : besideM gr p q
              · cases hfe : (f != 1)
                · have HC0 : Hid (cfQ gr zs p (cfP gr zs p) (q + 1) = CF) := Lib.hid (by rw [HCF.out]; unfold cfS cfC; rw [hbs, hf, hfe]; rfl)
                  rw [hbs] at HB
                  clear htb hT hf
                  go_wp2_with (first | (refine l_ltab rfl rfl rfl ?_; go_simp) | (go_at_call 27; refine (from_any _ _ _ _ _ _ HZL.out (by omega) (by omega) (HZ.out _ (by (repeat' (first | (with_reducible exact Below.refl _ _) | (with_reducible assumption) | (with_reducible refine Below.setCell ?_ ?_ _) | (with_reducible refine Below.alloc ?_ ?_ _) | (with_reducible refine Below.drew ?_) | (with_reducible refine Up.base _ ?_ ?_) | (with_reducible exact LeSize.out) | exact LeSize.out | exact Nat.le_add_right_of_le LeSize.out | exact Nat.le_add_right_of_le (Nat.le_add_right_of_le LeSize.out) | (with_reducible exact Nat.le_refl _) | (simp; done) | (simp; omega)))))).mono ?_; rintro e w' ⟨rfl, rfl⟩) | (go_at_call 17; refine (Up.run (HB.out _ (by (repeat' (first | (with_reducible exact Below.refl _ _) | (with_reducible assumption) | (with_reducible refine Below.setCell ?_ ?_ _) | (with_reducible refine Below.alloc ?_ ?_ _) | (with_reducible refine Below.drew ?_) | (with_reducible refine Up.base _ ?_ ?_) | (with_reducible exact LeSize.out) | exact LeSize.out | exact Nat.le_add_right_of_le LeSize.out | exact Nat.le_add_right_of_le (Nat.le_add_right_of_le LeSize.out) | (with_reducible exact Nat.le_refl _) | (simp; done) | (simp; omega)))))).mono ?_; rintro e w' ⟨rfl, u, rfl⟩))
                  go_roundw
                  case rel => exact ⟨q + 1, by omega, by go_num, by rw [HC0.out]; exact HTB.out.below (by (repeat' (first | (with_reducible exact Below.refl _ _) | (with_reducible assumption) | (with_reducible refine Below.setCell ?_ ?_ _) | (with_reducible refine Below.alloc ?_ ?_ _) | (with_reducible refine Below.drew ?_) | (with_reducible refine Up.base _ ?_ ?_) | (with_reducible exact LeSize.out) | exact LeSize.out | exact Nat.le_add_right_of_le LeSize.out | exact Nat.le_add_right_of_le (Nat.le_add_right_of_le LeSize.out) | (with_reducible exact Nat.le_refl _) | (simp; done) | (simp; omega))))⟩
                  case measure => simp [intOf]; omega
                · have HC0 : Hid (cfQ gr zs p (cfP gr zs p) (q + 1) = fset (fset CF p (withM (CF p) q)) q (withM (CF q) p)) := Lib.hid (by
                    rw [HCF.out]; unfold cfS cfC; rw [hbs, hf, hfe]; simp only [Bool.not_false, Bool.and_self, if_true]
                    rw [show fset CF p (withM (CF p) q) q = CF q by unfold fset; rw [if_neg (by omega)]])
                  rw [hbs] at HB
                  clear htb hT hf
                  have hpq : (p = q) = False := by simp; omega
                  have hpq' : p ≠ q := by omega
                  have g3 : ∀ v : Value, (C.setIfInBounds (105 + p) v)[105 + q]? = some (.int .i64 (CF q)) := fun v => by rw [Array.getElem?_setIfInBounds, if_neg (by omega)]; exact g2
                  go_wp2_with (first | (refine l_ltab rfl rfl rfl ?_; go_simp) | (go_at_call 27; refine (from_any _ _ _ _ _ _ HZL.out (by omega) (by omega) (HZ.out _ (by (repeat' (first | (with_reducible exact Below.refl _ _) | (with_reducible assumption) | (with_reducible refine Below.setCell ?_ ?_ _) | (with_reducible refine Below.alloc ?_ ?_ _) | (with_reducible refine Below.drew ?_) | (with_reducible refine Up.base _ ?_ ?_) | (with_reducible exact LeSize.out) | exact LeSize.out | exact Nat.le_add_right_of_le LeSize.out | exact Nat.le_add_right_of_le (Nat.le_add_right_of_le LeSize.out) | (with_reducible exact Nat.le_refl _) | (simp; done) | (simp; omega)))))).mono ?_; rintro e w' ⟨rfl, rfl⟩) | (go_at_call 17; refine (Up.run (HB.out _ (by (repeat' (first | (with_reducible exact Below.refl _ _) | (with_reducible assumption) | (with_reducible refine Below.setCell ?_ ?_ _) | (with_reducible refine Below.alloc ?_ ?_ _) | (with_reducible refine Below.drew ?_) | (with_reducible refine Up.base _ ?_ ?_) | (with_reducible exact LeSize.out) | exact LeSize.out | exact Nat.le_add_right_of_le LeSize.out | exact Nat.le_add_right_of_le (Nat.le_add_right_of_le LeSize.out) | (with_reducible exact Nat.le_refl _) | (simp; done) | (simp; omega)))))).mono ?_; rintro e w' ⟨rfl, u, rfl⟩) | (go_at_call 23; refine (Up.run (rwith_any _ _ _)).mono ?_; rintro e w' ⟨rfl, u, rfl⟩))
                  go_roundw
                  case rel => exact ⟨q + 1, by omega, by go_num, by
                    rw [HC0.out]
                    exact TB.putCf ((TB.putCf (HTB.out.below (by (repeat' (first | (with_reducible exact Below.refl _ _) | (with_reducible assumption) | (with_reducible refine Below.setCell ?_ ?_ _) | (with_reducible refine Below.alloc ?_ ?_ _) | (with_reducible refine Below.drew ?_) | (with_reducible refine Up.base _ ?_ ?_) | (with_reducible exact LeSize.out) | exact LeSize.out | exact Nat.le_add_right_of_le LeSize.out | exact Nat.le_add_right_of_le (Nat.le_add_right_of_le LeSize.out) | (with_reducible exact Nat.le_refl _) | (simp; done) | (simp; omega))))) (by omega)).below (Up.bel _)) (by omega)⟩
                  case measure => simp [intOf]; omega
              · have HC0 : Hid (cfQ gr zs p (cfP gr zs p) (q + 1) = CF) := Lib.hid (by rw [HCF.out]; unfold cfS cfC; rw [hbs]; rfl)
                rw [hbs] at HB
                clear htb hT hf
                go_wp2_with (first | (refine l_ltab rfl rfl rfl ?_; go_simp) | (go_at_call 27; refine (from_any _ _ _ _ _ _ HZL.out (by omega) (by omega) (HZ.out _ (by (repeat' (first | (with_reducible exact Below.refl _ _) | (with_reducible assumption) | (with_reducible refine Below.setCell ?_ ?_ _) | (with_reducible refine Below.alloc ?_ ?_ _) | (with_reducible refine Below.drew ?_) | (with_reducible refine Up.base _ ?_ ?_) | (with_reducible exact LeSize.out) | exact LeSize.out | exact Nat.le_add_right_of_le LeSize.out | exact Nat.le_add_right_of_le (Nat.le_add_right_of_le LeSize.out) | (with_reducible exact Nat.le_refl _) | (simp; done) | (simp; omega)))))).mono ?_; rintro e w' ⟨rfl, rfl⟩) | (go_at_call 17; refine (Up.run (HB.out _ (by (repeat' (first | (with_reducible exact Below.refl _ _) | (with_reducible assumption) | (with_reducible refine Below.setCell ?_ ?_ _) | (with_reducible refine Below.alloc ?_ ?_ _) | (with_reducible refine Below.drew ?_) | (with_reducible refine Up.base _ ?_ ?_) | (with_reducible exact LeSize.out) | exact LeSize.out | exact Nat.le_add_right_of_le LeSize.out | exact Nat.le_add_right_of_le (Nat.le_add_right_of_le LeSize.out) | (with_reducible exact Nat.le_refl _) | (simp; done) | (simp; omega)))))).mono ?_; rintro e w' ⟨rfl, u, rfl⟩))
                go_roundw
                case rel => exact ⟨q + 1, by omega, by go_num, by rw [HC0.out]; exact HTB.out.below (by (repeat' (first | (with_reducible exact Below.refl _ _) | (with_reducible assumption) | (with_reducible refine Below.setCell ?_ ?_ _) | (with_reducible refine Below.alloc ?_ ?_ _) | (with_reducible refine Below.drew ?_) | (with_reducible refine Up.base _ ?_ ?_) | (with_reducible exact LeSize.out) | exact LeSize.out | exact Nat.le_add_right_of_le LeSize.out | exact Nat.le_add_right_of_le (Nat.le_add_right_of_le LeSize.out) | (with_reducible exact Nat.le_refl _) | (simp; done) | (simp; omega))))⟩
                case measure => simp [intOf]; omega
            · obtain rfl : q = p := by omega
              go_wp2
              go_roundw
              case rel => exact ⟨q + 1, by omega, by go_num, htb⟩
              case measure => simp [intOf]; omega
        · obtain rfl : p = k := by omega
          obtain ⟨CF, hCF⟩ : ∃ x, cfP gr zs p = x := ⟨_, rfl⟩
          have HCF := Lib.hid hCF
          rw [hCF] at htb
          clear hCF
          have hbw := htb.world hXw (by omega)
          haveI : LeSize w.heap.size wr := ⟨hbw.size⟩
          obtain ⟨f, hf⟩ : ∃ f, fr zs 174 ((p : Int) + 1) = f := ⟨_, rfl⟩
          have hfb := fr_bd zs 174 (n := (p : Int) + 1) (by omega)
          rw [hf] at hfb
          have hfr : frI zs 174 ((p : Int) + 1) = f := (frI_of zs 174 174 _ rfl).trans hf
          obtain ⟨FL2, hFL2⟩ : ∃ x, (if f < p then fset FL f.toNat 2 else FL) = x := ⟨_, rfl⟩
          have HFL2 : Hid (flM zs p = FL2) := Lib.hid (by rw [← hFL2, ← HFL.out]; unfold flM; rw [hf])
          clear hf HFL
          have HTB := Lib.hid htb
          haveI iB : IsBlk wr (w.heap.size + 1) _ _ := ⟨htb.blk⟩
          have hsz := arrF_size 131 (tabAt ⟨PH, gr, CF, [], [], [], 0, 0, 0, 0, 0, FL, 0, 0⟩ vg (.slice none 0 0) (.slice none 0 0) (.slice none 0 0))
          generalize arrF 131 (tabAt ⟨PH, gr, CF, [], [], [], 0, 0, 0, 0, 0, FL, 0, 0⟩ vg (.slice none 0 0) (.slice none 0 0) (.slice none 0 0)) = C at *
          clear htb
          go_upto_if 80 with (go_at_call 27; refine (from_any _ _ _ _ _ _ HZL.out (by omega) (by omega) (HZ.out _ (by (repeat' (first | (with_reducible exact Below.refl _ _) | (with_reducible assumption) | (with_reducible refine Below.setCell ?_ ?_ _) | (with_reducible refine Below.alloc ?_ ?_ _) | (with_reducible refine Below.drew ?_) | (with_reducible refine Up.base _ ?_ ?_) | (with_reducible exact LeSize.out) | exact LeSize.out | exact Nat.le_add_right_of_le LeSize.out | exact Nat.le_add_right_of_le (Nat.le_add_right_of_le LeSize.out) | (with_reducible exact Nat.le_refl _) | (simp; done) | (simp; omega)))))).mono ?_; rintro e w' ⟨rfl, rfl⟩)
          go_cut [] (fun wx => TB X wx (w.heap.size + 1) ⟨PH, gr, CF, [], [], [], 0, 0, 0, 0, 0, FL2, 0, 0⟩ vg (.slice none 0 0) (.slice none 0 0) (.slice none 0 0))
          case first =>
            by_cases hff : f < p
            · obtain ⟨m, rfl⟩ := Int.eq_ofNat_of_zero_le hfb.1
              have hm8 : (m : Int) < 8 := by omega
              have hm : m < 8 := by omega
              rw [if_pos hff] at hFL2
              have HF := Lib.hid hFL2
              obtain ⟨V, hV⟩ : ∃ V, C[121 + m]? = some V := ⟨_, Array.getElem?_eq_getElem (by omega)⟩
              clear hFL2
              go_wp2
              go_meet
              rw [← HF.out]
              exact TB.putFl HTB.out (by omega)
            · rw [if_neg hff] at hFL2
              have HF := Lib.hid hFL2
              clear hFL2
              go_wp2
              go_meet
              rw [← HF.out]
              exact HTB.out
          case rest =>
            clear HTB iB hFL2 hbw hfb hfr hsz
            have hbw := hcut.world hXw (by omega)
            haveI : LeSize w.heap.size _ := ⟨hbw.size⟩
            obtain ⟨kd, hkd⟩ : ∃ k : Nat, k = (fr zs 175 9).toNat := ⟨_, rfl⟩
            have hfd := fr_bd zs 175 (n := 9) (by omega)
            have hfdE : frI zs 175 9 = (kd : Int) := by rw [frI_of zs 175 175 9 rfl]; omega
            have HKD := Lib.hid hkd
            have hkd8 : kd ≤ 8 := by omega
            clear hkd hfd
            go_wp2_with (go_at_call 27; refine (from_any _ _ _ _ _ _ HZL.out (by omega) (by omega) (HZ.out _ (by (repeat' (first | (with_reducible exact Below.refl _ _) | (with_reducible assumption) | (with_reducible refine Below.setCell ?_ ?_ _) | (with_reducible refine Below.alloc ?_ ?_ _) | (with_reducible refine Below.drew ?_) | (with_reducible refine Up.base _ ?_ ?_) | (with_reducible exact LeSize.out) | exact LeSize.out | exact Nat.le_add_right_of_le LeSize.out | exact Nat.le_add_right_of_le (Nat.le_add_right_of_le LeSize.out) | (with_reducible exact Nat.le_refl _) | (simp; done) | (simp; omega)))))).mono ?_; rintro e w' ⟨rfl, rfl⟩)
            go_loopw [9] (fun i wr => ∃ m : Nat, m ≤ kd ∧ i = .int .i64 ((kd : Int) - m) ∧ ∃ vd, TB X wr (w.heap.size + 1) ⟨PH, gr, CF, deM zs p kd m, [], [], 0, 0, 0, 0, 0, FL2, 0, 0⟩ vg vd (.slice none 0 0) (.slice none 0 0)) (fun i _ => (intOf i).toNat)
            case atStart => exact ⟨0, Nat.zero_le _, by simp, _, hcut⟩
            case round =>
              clear hcut hbw
              obtain ⟨m, hm, rfl, vd, htb⟩ := hrel
              have hbw := htb.world hXw (by omega)
              haveI : LeSize w.heap.size wr := ⟨hbw.size⟩
              by_cases hltm : m < kd
              · have hpos : 0 < (kd : Int) - m := by omega
                have HD0 : Hid (∀ w', Below w.heap.size w w' → Calls Try.prog 28 #[.slice a zs.length cap, .int .i64 (180 + 8 * ((kd : Int) - m)), .int .i64 p] w' fun e w'' => e = .returned (.agg (detC (detM zs (180 + 8 * (kd - m)) p)).toArray) ∧ Below w'.heap.size w' w'') := Lib.hid fun w' h => by
                  rw [show 180 + 8 * ((kd : Int) - m) = ((180 + 8 * (kd - m) : Nat) : Int) by omega]; exact ldet_any a cap zs _ p w' HZL.out (by omega) (by omega) (HZ.out _ h)
                have HDS := Lib.hid (deM_succ zs p kd m)
                have hdl := deM_len zs p kd m
                generalize detM zs (180 + 8 * (kd - m)) p = x at *
                generalize deM zs p kd m = DE at *
                have HD : Hid (∀ w', Below w.heap.size w w' → Calls Try.prog 28 #[.slice a zs.length cap, .int .i64 (180 + 8 * ((kd : Int) - m)), .int .i64 p] w' fun e w'' => e = .returned (.agg #[.int .i64 x.ph, .float .f64 x.on, .float .f64 x.off, .float .f64 x.dl, .float .f64 x.ex, .int .i64 x.mon, .int .i64 x.mof]) ∧ Below w'.heap.size w' w'') := Lib.hid fun w' h => HD0.out w' h
                clear HD0
                obtain ⟨da, dl, dc, rfl⟩ := htb.de.slice
                have HTB := Lib.hid htb
                haveI iB : IsBlk wr (w.heap.size + 1) _ _ := ⟨htb.blk⟩
                have t113 : (arrF 131 (tabAt ⟨PH, gr, CF, DE, [], [], 0, 0, 0, 0, 0, FL2, 0, 0⟩ vg (.slice da dl dc) (.slice none 0 0) (.slice none 0 0)))[113]? = some (.slice da dl dc) := by rw [arrF_get _ _ _ (by omega)]; rfl
                generalize arrF 131 (tabAt ⟨PH, gr, CF, DE, [], [], 0, 0, 0, 0, 0, FL2, 0, 0⟩ vg (.slice da dl dc) (.slice none 0 0) (.slice none 0 0)) = C at *
                clear htb
                go_wp2
                (refine wp_region_noPanic ?_; refine wp_region_envF [] [0, 1, 2, 3, 4, 5, 6, 7, 8] [9, 10, 11] [8] [] noRc (by kernel_rfl) (by kernel_rfl) (fun _ _ _ _ _ h => (h : False).elim) noRc_stable ?_; simp only [pickO, List.filterMap_cons, List.filterMap_nil, List.getElem?_cons_succ, List.getElem?_cons_zero]; refine wpAddr_nil ?_)
                (repeat (first | (refine wpEH_skip rfl rfl ?_; simp only [Act.put, List.setIfInBounds_toArray, List.set_cons_succ, List.set_cons_zero]) | (refine wpEH_want rfl rfl ?_; intro Z hZs hZi hZn K hK; (first | (go_big_quiet_op; (first | go_big_quiet_on | go_big_quiet_call ((first | (go_at_call 28; exact UpZ.calls hZs (HD.out _ (by (repeat' (first | (with_reducible exact Below.refl _ _) | (with_reducible assumption) | (with_reducible refine Below.setCell ?_ ?_ _) | (with_reducible refine Below.alloc ?_ ?_ _) | (with_reducible refine Below.drew ?_) | (with_reducible refine Up.base _ ?_ ?_) | (with_reducible exact LeSize.out) | exact LeSize.out | exact Nat.le_add_right_of_le LeSize.out | exact Nat.le_add_right_of_le (Nat.le_add_right_of_le LeSize.out) | (with_reducible exact Nat.le_refl _) | (simp; done) | (simp; omega)))))) | fail))))); clear hZs hZi hZn Z)))
                (refine wpEH_build 1 (.cells #[.int .i64 x.ph, .float .f64 x.on, .float .f64 x.off, .float .f64 x.dl, .float .f64 x.ex, .int .i64 x.mon, .int .i64 x.mof] 73) rfl rfl (fun w => (by simp [go_sem] <;> rfl)) ?_; intro q8 p8 hq8 hp8; simp only [Act.put, List.setIfInBounds_toArray, List.set_cons_succ, List.set_cons_zero])
                (refine wpEH_nil ?_; intro u hinv; have hO8 := (hp8 _ (hinv 8 _ rfl)).out; have lO8 := laid_le hO8; clear hinv; clear hp8 p8; go_simp)
                have HTU := Lib.hid (HTB.out.below u.bel)
                have hbs := HTU.out.lt
                have own : OwnK 73 7 detC u.w (w.heap.size + 1 + 1) (.slice da dl dc) DE := HTU.out.de
                refine wpList_app_own detC_len 56 _ 28 Try.underlying28 info_det rfl (by decide) (by decide) rfl _ _ rfl (w.heap.size + 1 + 1) rfl own (b := q8) x (by simp [detC, Value.oneCell']) rfl (fun j y hj => laid_cell hO8 j (by simpa [detC] using hj)) (by omega) hbs ?_
                intro v' w1 hown' hg
                obtain ⟨a', n', cap', rfl⟩ := hown'.slice
                have HTA := Lib.hid (HTU.out.appDe hg hown' (by omega))
                clear own
                haveI : IsBlk w1 (w.heap.size + 1) C 32 := ⟨by rw [hg.block _ hbs (fun e => HTU.out.de.ne (Nat.lt_succ_self _) e.symm)]; exact (inferInstance : IsBlk u.w (w.heap.size + 1) C 32).out⟩
                clear hown' hg HTU HTB HD
                go_wp2
                refine NoPanic.normal ?_
                go_wp2
                go_roundw
                case rel => exact ⟨m + 1, by omega, by congr 1; omega, _, by rw [HDS.out]; exact HTA.out⟩
                case measure => simp [intOf]; omega
              · obtain rfl : m = kd := by omega
                obtain ⟨DE, hDE⟩ : ∃ x, deM zs p m m = x := ⟨_, rfl⟩
                have HDE : Hid (deM zs p (fr zs 175 9).toNat (fr zs 175 9).toNat = DE) := Lib.hid (by rw [← HKD.out]; exact hDE)
                rw [hDE] at htb
                clear hDE HKD
                obtain ⟨kr, hkr⟩ : ∃ k : Nat, k = (fr zs 176 4 % 3).toNat := ⟨_, rfl⟩
                have hfd := fr_bd zs 176 (n := 4) (by omega)
                have hfrE : frI zs 176 4 = fr zs 176 4 := frI_of zs 176 176 4 rfl
                have hrem : Int.tmod (fr zs 176 4) 3 = (kr : Int) := by rw [Int.tmod_eq_emod_of_nonneg hfd.1]; omega
                have HKR := Lib.hid hkr
                have hkr8 : kr ≤ 2 := by omega
                clear hkr
                obtain ⟨f176, hf176⟩ : ∃ x, fr zs 176 4 = x := ⟨_, rfl⟩
                rw [hf176] at hfd hfrE hrem HKR
                have HF176 := Lib.hid hf176
                clear hf176
                go_wp2_with (go_at_call 27; refine (from_any _ _ _ _ _ _ HZL.out (by omega) (by omega) (HZ.out _ (by (repeat' (first | (with_reducible exact Below.refl _ _) | (with_reducible assumption) | (with_reducible refine Below.setCell ?_ ?_ _) | (with_reducible refine Below.alloc ?_ ?_ _) | (with_reducible refine Below.drew ?_) | (with_reducible refine Up.base _ ?_ ?_) | (with_reducible exact LeSize.out) | exact LeSize.out | exact Nat.le_add_right_of_le LeSize.out | exact Nat.le_add_right_of_le (Nat.le_add_right_of_le LeSize.out) | (with_reducible exact Nat.le_refl _) | (simp; done) | (simp; omega)))))).mono ?_; rintro e w' ⟨rfl, rfl⟩)
                go_loopw [10] (fun i wr => ∃ m : Nat, m ≤ kr ∧ i = .int .i64 ((kr : Int) - m) ∧ ∃ vr, TB X wr (w.heap.size + 1) ⟨PH, gr, CF, DE, raM gr zs p kr m, [], 0, 0, 0, 0, 0, FL2, 0, 0⟩ vg vd vr (.slice none 0 0)) (fun i _ => (intOf i).toNat)
                case atStart => exact ⟨0, Nat.zero_le _, by simp, _, htb⟩
                case round =>
                  clear htb hbw
                  obtain ⟨m, hm, rfl, vr, htb⟩ := hrel
                  have hbw := htb.world hXw (by omega)
                  haveI : LeSize w.heap.size wr := ⟨hbw.size⟩
                  by_cases hltm : m < kr
                  · have hpos : 0 < (kr : Int) - m := by omega
                    have hT := htb.isTab
                    obtain ⟨da, dl, dc, rfl⟩ := htb.ra.slice
                    have HTB := Lib.hid htb
                    haveI iB : IsBlk wr (w.heap.size + 1) _ _ := ⟨htb.blk⟩
                    haveI hS : Sz131 (arrF 131 (tabAt ⟨PH, gr, CF, DE, raM gr zs p kr m, [], 0, 0, 0, 0, 0, FL2, 0, 0⟩ vg vd (.slice da dl dc) (.slice none 0 0))) := ⟨arrF_size _ _⟩
                    have t114 : (arrF 131 (tabAt ⟨PH, gr, CF, DE, raM gr zs p kr m, [], 0, 0, 0, 0, 0, FL2, 0, 0⟩ vg vd (.slice da dl dc) (.slice none 0 0)))[114]? = some (.slice da dl dc) := by rw [arrF_get _ _ _ (by omega)]; rfl
                    have HD0 : Hid (∀ w', Below w.heap.size w w' → IsTab w' (arrF 131 (tabAt ⟨PH, gr, CF, DE, raM gr zs p kr m, [], 0, 0, 0, 0, 0, FL2, 0, 0⟩ vg vd (.slice da dl dc) (.slice none 0 0))) ⟨PH, gr, CF, DE, raM gr zs p kr m, [], 0, 0, 0, 0, 0, FL2, 0, 0⟩ → Calls Try.prog 29 #[.agg (arrF 131 (tabAt ⟨PH, gr, CF, DE, raM gr zs p kr m, [], 0, 0, 0, 0, 0, FL2, 0, 0⟩ vg vd (.slice da dl dc) (.slice none 0 0))), .slice a zs.length cap, .int .i64 (260 + 16 * ((kr : Int) - m)), .int .i64 p] w' fun e w'' => e = .returned (.agg (rlC (rlM gr zs (260 + 16 * (kr - m)) p)).toArray) ∧ Below w'.heap.size w' w'') := Lib.hid fun w' h h2 => by
                      have h3 := lrail_any _ _ a cap zs (260 + 16 * (kr - m)) p w' h2 HZL.out (by omega) (by omega) (HZ.out _ h)
                      rw [show 260 + 16 * ((kr : Int) - m) = ((260 + 16 * (kr - m) : Nat) : Int) by omega]; exact h3
                    have HTT : Hid (∀ w', Below wr.heap.size wr w' → IsTab w' (arrF 131 (tabAt ⟨PH, gr, CF, DE, raM gr zs p kr m, [], 0, 0, 0, 0, 0, FL2, 0, 0⟩ vg vd (.slice da dl dc) (.slice none 0 0))) ⟨PH, gr, CF, DE, raM gr zs p kr m, [], 0, 0, 0, 0, 0, FL2, 0, 0⟩) := Lib.hid fun w' h => hT.below h (Nat.le_refl _)
                    have HDS := Lib.hid (raM_succ gr zs p kr m)
                    have hdl := raM_len gr zs p kr m
                    generalize arrF 131 (tabAt ⟨PH, gr, CF, DE, raM gr zs p kr m, [], 0, 0, 0, 0, 0, FL2, 0, 0⟩ vg vd (.slice da dl dc) (.slice none 0 0)) = C at *
                    generalize rlM gr zs (260 + 16 * (kr - m)) p = x at *
                    generalize raM gr zs p kr m = RA at *
                    have HD : Hid (∀ w', Below wr.heap.size wr w' → Calls Try.prog 29 #[.agg C, .slice a zs.length cap, .int .i64 (260 + 16 * ((kr : Int) - m)), .int .i64 p] w' fun e w'' => e = .returned (.agg #[.int .i64 x.bars, .int .i64 x.clr, .int .i64 x.dwl, .int .i64 x.ext, .int .i64 x.dly, .int .i64 x.grn, .int .i64 x.foot, .int .i64 x.hold, .int .i64 x.stay, .int .i64 x.most, .int .i64 x.lim]) ∧ Below w'.heap.size w' w'') := Lib.hid fun w' h => HD0.out w' (hbw.trans (h.mono hbw.size)) (HTT.out w' h)
                    clear HD0 HTT hT htb
                    go_wp2
                    (refine wp_region_noPanic ?_; refine wp_region_envF [] [0, 1, 2, 3, 4, 5, 6, 7, 8, 9] [10, 11, 12] [9] [] noRc (by kernel_rfl) (by kernel_rfl) (fun _ _ _ _ _ h => (h : False).elim) noRc_stable ?_; simp only [pickO, List.filterMap_cons, List.filterMap_nil, List.getElem?_cons_succ, List.getElem?_cons_zero]; refine wpAddr_nil ?_)
                    (repeat (first | (refine wpEH_skip rfl rfl ?_; simp only [Act.put, List.setIfInBounds_toArray, List.set_cons_succ, List.set_cons_zero]) | (refine wpEH_want rfl rfl ?_; intro Z hZs hZi hZn K hK; (first | (refine z_ltab rfl rfl ?_; simp only [Act.put, List.setIfInBounds_toArray, List.set_cons_succ, List.set_cons_zero]; go_big_quiet_on) | (go_big_quiet_op; (first | go_big_quiet_on | go_big_quiet_call ((first | (go_at_call 29; exact UpZ.calls hZs (HD.out _ (by (repeat' (first | (with_reducible exact Below.refl _ _) | (with_reducible assumption) | (with_reducible refine Below.setCell ?_ ?_ _) | (with_reducible refine Below.alloc ?_ ?_ _) | (with_reducible refine Below.drew ?_) | (with_reducible refine Up.base _ ?_ ?_) | (with_reducible exact LeSize.out) | exact LeSize.out | exact Nat.le_add_right_of_le LeSize.out | exact Nat.le_add_right_of_le (Nat.le_add_right_of_le LeSize.out) | (with_reducible exact Nat.le_refl _) | (simp; done) | (simp; omega)))))) | fail))))); clear hZs hZi hZn Z)))
                    (refine wpEH_build 1 (.cells #[.int .i64 x.bars, .int .i64 x.clr, .int .i64 x.dwl, .int .i64 x.ext, .int .i64 x.dly, .int .i64 x.grn, .int .i64 x.foot, .int .i64 x.hold, .int .i64 x.stay, .int .i64 x.most, .int .i64 x.lim] 76) rfl rfl (fun w => (by simp [go_sem] <;> rfl)) ?_; intro q9 p9 hq9 hp9; simp only [Act.put, List.setIfInBounds_toArray, List.set_cons_succ, List.set_cons_zero])
                    (refine wpEH_nil ?_; intro u hinv; have hO9 := (hp9 _ (hinv 9 _ rfl)).out; have lO9 := laid_le hO9; clear hinv; clear hp9 p9; go_simp)
                    have HTU := Lib.hid (HTB.out.below u.bel)
                    have hbs := HTU.out.lt
                    have own : OwnK 76 11 rlC u.w (w.heap.size + 1 + 1) (.slice da dl dc) RA := HTU.out.ra
                    refine wpList_app_own rlC_len 88 _ 29 Try.underlying29 info_rail rfl (by decide) (by decide) rfl _ _ rfl (w.heap.size + 1 + 1) rfl own (b := q9) x (by simp [rlC, Value.oneCell']) rfl (fun j y hj => laid_cell hO9 j (by simpa [rlC] using hj)) (by omega) hbs ?_
                    intro v' w1 hown' hg
                    obtain ⟨a', n', cap', rfl⟩ := hown'.slice
                    have HTA := Lib.hid (HTU.out.appRa hg hown' (by omega))
                    haveI : IsBlk w1 (w.heap.size + 1) C 32 := ⟨by rw [hg.block _ hbs (fun e => own.ne (Nat.lt_succ_self _) e.symm)]; exact (inferInstance : IsBlk u.w (w.heap.size + 1) C 32).out⟩
                    clear own hown' hg HTU HTB HD
                    go_wp2
                    refine NoPanic.normal ?_
                    go_wp2
                    go_roundw
                    case rel => exact ⟨m + 1, by omega, by congr 1; omega, _, by rw [HDS.out]; exact HTA.out⟩
                    case measure => simp [intOf]; omega
                  · obtain rfl : m = kr := by omega
                    obtain ⟨RA, hRA⟩ : ∃ x, raM gr zs p m m = x := ⟨_, rfl⟩
                    have hral : RA.length = m := by rw [← hRA]; exact raM_len gr zs p m m
                    have HRAL := Lib.hid hral
                    have HRA : Hid (raM gr zs p (f176 % 3).toNat (f176 % 3).toNat = RA) := Lib.hid (by rw [← HKR.out]; exact hRA)
                    rw [hRA] at htb
                    clear hRA HKR hral
                    obtain ⟨kb, hkb⟩ : ∃ k : Nat, k = (fr zs 177 3).toNat := ⟨_, rfl⟩
                    have hfd := fr_bd zs 177 (n := 3) (by omega)
                    have hfbE : frI zs 177 3 = (kb : Int) := by rw [frI_of zs 177 177 3 rfl]; omega
                    have HKB := Lib.hid hkb
                    have hkb8 : kb ≤ 2 := by omega
                    clear hkb hfd
                    go_wp2_with (go_at_call 27; refine (from_any _ _ _ _ _ _ HZL.out (by omega) (by omega) (HZ.out _ (by (repeat' (first | (with_reducible exact Below.refl _ _) | (with_reducible assumption) | (with_reducible refine Below.setCell ?_ ?_ _) | (with_reducible refine Below.alloc ?_ ?_ _) | (with_reducible refine Below.drew ?_) | (with_reducible refine Up.base _ ?_ ?_) | (with_reducible exact LeSize.out) | exact LeSize.out | exact Nat.le_add_right_of_le LeSize.out | exact Nat.le_add_right_of_le (Nat.le_add_right_of_le LeSize.out) | (with_reducible exact Nat.le_refl _) | (simp; done) | (simp; omega)))))).mono ?_; rintro e w' ⟨rfl, rfl⟩)
                    go_loopw [11] (fun i wr => ∃ m : Nat, m ≤ kb ∧ i = .int .i64 ((kb : Int) - m) ∧ ∃ vb, TB X wr (w.heap.size + 1) ⟨PH, gr, CF, DE, RA, buM zs p kb m, 0, 0, 0, 0, 0, FL2, 0, 0⟩ vg vd vr vb) (fun i _ => (intOf i).toNat)
                    case atStart => exact ⟨0, Nat.zero_le _, by simp, _, htb⟩
                    case round =>
                      clear htb hbw
                      obtain ⟨m, hm, rfl, vb, htb⟩ := hrel
                      have hbw := htb.world hXw (by omega)
                      haveI : LeSize w.heap.size wr := ⟨hbw.size⟩
                      by_cases hltm : m < kb
                      · have hpos : 0 < (kb : Int) - m := by omega
                        have r2 := run_shl1 p hn.2.1
                        have bp : (1 : Int) ≤ 2 ^ p ∧ (2 : Int) ^ p ≤ 256 := by
                          rcases (show p = 1 ∨ p = 2 ∨ p = 3 ∨ p = 4 ∨ p = 5 ∨ p = 6 ∨ p = 7 ∨ p = 8 by omega) with rfl | rfl | rfl | rfl | rfl | rfl | rfl | rfl <;> decide
                        have hf1 : frI zs (330 + 2 * ((kb : Int) - m)) 256 = fr zs (330 + 2 * (kb - m)) 256 := frI_of zs _ _ _ (by omega)
                        have hf2 : frI zs (331 + 2 * ((kb : Int) - m)) 30 = fr zs (331 + 2 * (kb - m)) 30 := frI_of zs _ _ _ (by omega)
                        have hb2 := fr_bd zs (331 + 2 * (kb - m)) (n := 30) (by omega)
                        obtain ⟨da, dl, dc, rfl⟩ := htb.bu.slice
                        have HTB := Lib.hid htb
                        haveI iB : IsBlk wr (w.heap.size + 1) _ _ := ⟨htb.blk⟩
                        have t115 : (arrF 131 (tabAt ⟨PH, gr, CF, DE, RA, buM zs p kb m, 0, 0, 0, 0, 0, FL2, 0, 0⟩ vg vd vr (.slice da dl dc)))[115]? = some (.slice da dl dc) := by rw [arrF_get _ _ _ (by omega)]; rfl
                        have HDS := Lib.hid (buM_succ zs p kb m)
                        have hdl := buM_len zs p kb m
                        generalize arrF 131 (tabAt ⟨PH, gr, CF, DE, RA, buM zs p kb m, 0, 0, 0, 0, 0, FL2, 0, 0⟩ vg vd vr (.slice da dl dc)) = C at *
                        have HX : Hid (buX zs p (kb - m) = ⟨if 1 < bits .and .i64 (fr zs (330 + 2 * (kb - m)) 256) (2 ^ p - 1) then bits .and .i64 (fr zs (330 + 2 * (kb - m)) 256) (2 ^ p - 1) else 1, 1 + fr zs (331 + 2 * (kb - m)) 30⟩) := Lib.hid rfl
                        generalize buX zs p (kb - m) = x at *
                        generalize buM zs p kb m = BU at *
                        generalize fr zs (330 + 2 * (kb - m)) 256 = f1 at *
                        generalize fr zs (331 + 2 * (kb - m)) 30 = f2 at *
                        clear htb
                        go_wp2
                        (refine wp_region_noPanic ?_; refine wp_region_envF [] [0, 1, 2, 3, 4, 5, 6, 7, 8, 9, 10, 11, 12, 13, 14, 15, 16, 17, 18, 19, 20] [21, 22, 23] [20] [] noRc (by kernel_rfl) (by kernel_rfl) (fun _ _ _ _ _ h => (h : False).elim) noRc_stable ?_; simp only [pickO, List.filterMap_cons, List.filterMap_nil, List.getElem?_cons_succ, List.getElem?_cons_zero]; refine wpAddr_nil ?_)
                        (repeat (first | (refine wpEH_skip rfl rfl ?_; simp only [Act.put, List.setIfInBounds_toArray, List.set_cons_succ, List.set_cons_zero]) | (refine wpEH_want rfl rfl ?_; intro Z hZs hZi hZn K hK; (first | (go_big_quiet_op; (first | go_big_quiet_on | go_big_quiet_call ((first | (go_at_call 27; exact UpZ.pure (from_any _ _ _ _ _ _ HZL.out (by omega) (by omega) (HZ.out _ (by (repeat' (first | (with_reducible exact Below.refl _ _) | (with_reducible assumption) | (with_reducible refine Below.setCell ?_ ?_ _) | (with_reducible refine Below.alloc ?_ ?_ _) | (with_reducible refine Below.drew ?_) | (with_reducible refine Up.base _ ?_ ?_) | (with_reducible exact LeSize.out) | exact LeSize.out | exact Nat.le_add_right_of_le LeSize.out | exact Nat.le_add_right_of_le (Nat.le_add_right_of_le LeSize.out) | (with_reducible exact Nat.le_refl _) | (simp; done) | (simp; omega))))))) | fail))))); clear hZs hZi hZn Z)))
                        (refine wpEH_build 1 (.cells #[.int .i64 (if 1 < bits .and .i64 f1 (2 ^ p - 1) then bits .and .i64 f1 (2 ^ p - 1) else 1), .int .i64 (1 + f2)] 79) rfl rfl (fun w => (by simp [go_sem] <;> rfl)) ?_; intro q20 p20 hq20 hp20; simp only [Act.put, List.setIfInBounds_toArray, List.set_cons_succ, List.set_cons_zero])
                        (refine wpEH_nil ?_; intro u hinv; have hO20 := (hp20 _ (hinv 20 _ rfl)).out; have lO20 := laid_le hO20; clear hinv; clear hp20 p20; go_simp)
                        generalize (if 1 < bits .and .i64 f1 (2 ^ p - 1) then bits .and .i64 f1 (2 ^ p - 1) else 1) = bz at *
                        have HTU := Lib.hid (HTB.out.below u.bel)
                        have hbs := HTU.out.lt
                        have own : OwnK 79 2 busC u.w (w.heap.size + 1 + 1) (.slice da dl dc) BU := HTU.out.bu
                        refine wpList_app_own busC_len 16 _ 30 Try.underlying30 info_bus rfl (by decide) (by decide) rfl _ _ rfl (w.heap.size + 1 + 1) rfl own (b := q20) x (by simp [busC, Value.oneCell']) rfl (fun j y hj => laid_cell hO20 j (by rw [HX.out] at hj; simpa [busC] using hj)) (by omega) hbs ?_
                        intro v' w1 hown' hg
                        obtain ⟨a', n', cap', rfl⟩ := hown'.slice
                        have HTA := Lib.hid (HTU.out.appBu hg hown' (by omega))
                        haveI : IsBlk w1 (w.heap.size + 1) C 32 := ⟨by rw [hg.block _ hbs (fun e => own.ne (Nat.lt_succ_self _) e.symm)]; exact (inferInstance : IsBlk u.w (w.heap.size + 1) C 32).out⟩
                        clear own hown' hg HTU HTB
                        go_wp2
                        refine NoPanic.normal ?_
                        go_wp2
                        go_roundw
                        case rel => exact ⟨m + 1, by omega, by congr 1; omega, _, by rw [HDS.out]; exact HTA.out⟩
                        case measure => simp [intOf]; omega
                      · obtain rfl : m = kb := by omega
                        obtain ⟨BU, hBU⟩ : ∃ x, buM zs p m m = x := ⟨_, rfl⟩
                        have HBU : Hid (buM zs p (fr zs 177 3).toNat (fr zs 177 3).toNat = BU) := Lib.hid (by rw [← HKB.out]; exact hBU)
                        rw [hBU] at htb
                        clear hBU HKB
                        have e178 : frI zs 178 12 = fr zs 178 12 := frI_of zs 178 178 12 rfl
                        have e179 : frI zs 179 40 = fr zs 179 40 := frI_of zs 179 179 40 rfl
                        have e180 : frI zs 180 8 = fr zs 180 8 := frI_of zs 180 180 8 rfl
                        have e181 : frI zs 181 8 = fr zs 181 8 := frI_of zs 181 181 8 rfl
                        have e182 : frI zs 182 12 = fr zs 182 12 := frI_of zs 182 182 12 rfl
                        have e183 : frI zs 183 4 = fr zs 183 4 := frI_of zs 183 183 4 rfl
                        have HE : Hid (tabM zs = ⟨PH, gr, CF, DE, RA, BU, fr zs 178 12, fr zs 179 40, fr zs 180 8, fr zs 181 8, fr zs 182 12, FL2, if RA.length = 0 then 0 else winM ⟨PH, gr, CF, DE, RA, BU, fr zs 178 12, fr zs 179 40, fr zs 180 8, fr zs 181 8, fr zs 182 12, FL2, 0, fr zs 183 4⟩ p, fr zs 183 4⟩) := Lib.hid (by
                          have hW : tabW zs = ⟨PH, gr, CF, DE, RA, BU, fr zs 178 12, fr zs 179 40, fr zs 180 8, fr zs 181 8, fr zs 182 12, FL2, 0, fr zs 183 4⟩ := by
                            unfold tabW
                            simp only [hnn, hgr, HF176.out, HPH.out, HCF.out, HDE.out, HRA.out, HBU.out, HFL2.out]
                          unfold tabM
                          rw [hW, hnn])
                        generalize fr zs 178 12 = s0 at *
                        generalize fr zs 179 40 = s1 at *
                        generalize fr zs 180 8 = s2 at *
                        generalize fr zs 181 8 = s3 at *
                        generalize fr zs 182 12 = s4 at *
                        generalize fr zs 183 4 = sh at *
                        have HTB := Lib.hid htb
                        haveI iB : IsBlk wr (w.heap.size + 1) _ _ := ⟨htb.blk⟩
                        have HSZ := Lib.hid (arrF_size 131 (tabAt ⟨PH, gr, CF, DE, RA, BU, 0, 0, 0, 0, 0, FL2, 0, 0⟩ vg vd vr vb))
                        have t116 : ∃ v, (arrF 131 (tabAt ⟨PH, gr, CF, DE, RA, BU, 0, 0, 0, 0, 0, FL2, 0, 0⟩ vg vd vr vb))[116]? = some v := ⟨_, arrF_get _ _ _ (by omega)⟩
                        generalize arrF 131 (tabAt ⟨PH, gr, CF, DE, RA, BU, 0, 0, 0, 0, 0, FL2, 0, 0⟩ vg vd vr vb) = C at *
                        have hc : ∀ i, i < 131 → ∃ v, C[i]? = some v := fun i hi => ⟨_, Array.getElem?_eq_getElem (by rw [HSZ.out]; exact hi)⟩
                        obtain ⟨c116, h116⟩ := hc 116 (by omega)
                        obtain ⟨c117, h117⟩ := hc 117 (by omega)
                        obtain ⟨c118, h118⟩ := hc 118 (by omega)
                        obtain ⟨c119, h119⟩ := hc 119 (by omega)
                        obtain ⟨c120, h120⟩ := hc 120 (by omega)
                        obtain ⟨c130, h130⟩ := hc 130 (by omega)
                        clear hc t116 htb
                        go_wp2_with (go_at_call 27; refine (from_any _ _ _ _ _ _ HZL.out (by omega) (by omega) (HZ.out _ (by (repeat' (first | (with_reducible exact Below.refl _ _) | (with_reducible assumption) | (with_reducible refine Below.setCell ?_ ?_ _) | (with_reducible refine Below.alloc ?_ ?_ _) | (with_reducible refine Below.drew ?_) | (with_reducible refine Up.base _ ?_ ?_) | (with_reducible exact LeSize.out) | exact LeSize.out | exact Nat.le_add_right_of_le LeSize.out | exact Nat.le_add_right_of_le (Nat.le_add_right_of_le LeSize.out) | (with_reducible exact Nat.le_refl _) | (simp; done) | (simp; omega)))))).mono ?_; rintro e w' ⟨rfl, rfl⟩)
                        have htb0 := ((((((HTB.out.putExt (x := s0)).putBud (x := s1)).putStart (x := s2)).putRev (x := s3)).putLeast (x := s4)).putShare (x := sh))
                        clear HTB iB h116 h117 h118 h119 h120 h130 HSZ
                        generalize (((((wr.setCell ⟨w.heap.size + 1, 116, none⟩ (.int .i64 s0)).setCell ⟨w.heap.size + 1, 117, none⟩ (.int .i64 s1)).setCell ⟨w.heap.size + 1, 118, none⟩ (.int .i64 s2)).setCell ⟨w.heap.size + 1, 119, none⟩ (.int .i64 s3)).setCell ⟨w.heap.size + 1, 120, none⟩ (.int .i64 s4)).setCell ⟨w.heap.size + 1, 130, none⟩ (.int .i64 sh) = W7 at *
                        obtain ⟨T0, hT0⟩ : ∃ x, (⟨PH, gr, CF, DE, RA, BU, s0, s1, s2, s3, s4, FL2, 0, sh⟩ : Tab) = x := ⟨_, rfl⟩
                        go_loopw [12] (fun i wr => ∃ q : Nat, q ≤ p ∧ (RA.length = 0 → q = 0) ∧ i = .int .i64 q ∧ TB X wr (w.heap.size + 1) ⟨PH, gr, CF, DE, RA, BU, s0, s1, s2, s3, s4, FL2, winM T0 q, sh⟩ vg vd vr vb) (fun i _ => p - (intOf i).toNat)
                        case atStart => exact ⟨0, Nat.zero_le _, fun _ => rfl, rfl, htb0⟩
                        case round =>
                          clear htb0 hbw
                          obtain ⟨q, hq, hq0, rfl, htb⟩ := hrel
                          have hbw := htb.world hXw (by omega)
                          haveI : LeSize w.heap.size wr := ⟨hbw.size⟩
                          have hT := htb.isTab
                          have hown : OwnK 76 11 rlC wr (w.heap.size + 1 + 1) vr RA := htb.ra
                          obtain ⟨xa, xc, rfl, _⟩ := OwnK.opened rlC_len hown
                          have hone := tab_one ⟨PH, gr, CF, DE, RA, BU, s0, s1, s2, s3, s4, FL2, winM T0 q, sh⟩ vg vd (.slice xa RA.length xc) vb (by obtain ⟨hs, h1, _⟩ := htb.gr; have h1' : OwnK 92 2 prC wr (w.heap.size + 1 + 1) vg hs := h1; obtain ⟨_, _, _, rfl⟩ := h1'.slice; rfl) (by obtain ⟨_, _, _, rfl⟩ := htb.de.slice; rfl) rfl (by obtain ⟨_, _, _, rfl⟩ := htb.bu.slice; rfl)
                          have HTB := Lib.hid htb
                          haveI iB : IsBlk wr (w.heap.size + 1) _ _ := ⟨htb.blk⟩
                          haveI iR : IsBlk wr w.heap.size TabZero 32 := ⟨by rw [htb.bel.block _ (by omega)]; exact hXr⟩
                          haveI hS : Sz131 (arrF 131 (tabAt ⟨PH, gr, CF, DE, RA, BU, s0, s1, s2, s3, s4, FL2, winM T0 q, sh⟩ vg vd (.slice xa RA.length xc) vb)) := ⟨arrF_size _ _⟩
                          have t114 : (arrF 131 (tabAt ⟨PH, gr, CF, DE, RA, BU, s0, s1, s2, s3, s4, FL2, winM T0 q, sh⟩ vg vd (.slice xa RA.length xc) vb))[114]? = some (.slice xa RA.length xc) := by rw [arrF_get _ _ _ (by omega)]; rfl
                          have t129 : (arrF 131 (tabAt ⟨PH, gr, CF, DE, RA, BU, s0, s1, s2, s3, s4, FL2, winM T0 q, sh⟩ vg vd (.slice xa RA.length xc) vb))[129]? = some (.int .i64 (winM T0 q)) := by rw [arrF_get _ _ _ (by omega)]; rfl
                          have HW : Hid (∀ w', Below wr.heap.size wr w' → Calls Try.prog 30 #[.agg (arrF 131 (tabAt ⟨PH, gr, CF, DE, RA, BU, s0, s1, s2, s3, s4, FL2, winM T0 q, sh⟩ vg vd (.slice xa RA.length xc) vb)), .int .i64 q] w' fun e w'' => e = .returned (.int .i64 (waitZ T0 q)) ∧ Below w'.heap.size w' w'') := Lib.hid fun w' h => by
                            have h2 := rwait_any _ _ (q : Int) w' (hT.below h (Nat.le_refl _))
                            rw [waitZ_win _ _ _ _ _ _ _ _ _ _ _ _ _ _ _ _ hT0] at h2; exact h2
                          obtain ⟨C, hC⟩ : ∃ C, arrF 131 (tabAt ⟨PH, gr, CF, DE, RA, BU, s0, s1, s2, s3, s4, FL2, winM T0 q, sh⟩ vg vd (.slice xa RA.length xc) vb) = C := ⟨_, rfl⟩
                          have HC := Lib.hid hC
                          rw [hC] at iB hS t114 t129 HW hone
                          have HONE := Lib.hid hone
                          clear hC hT htb hown hone
                          by_cases hlq : q < p ∧ RA.length ≠ 0
                          · obtain ⟨h1, h2⟩ := hlq
                            have hra : (0 : Int) < RA.length := by omega
                            have HWM : Hid (winM T0 (q + 1) = max (winM T0 q) (waitZ T0 q)) := Lib.hid rfl
                            generalize winM T0 q = w0 at *
                            generalize waitZ T0 q = w1 at *
                            go_wp2
                            (refine wp_region_up_tail 7 (by kernel_rfl) (by kernel_rfl) ?_; simp only [List.take_succ_cons, List.take_zero, List.drop_succ_cons, List.drop_zero]; (repeat (first | (go_big_quiet_want; refine q_ltab rfl rfl ?_; simp only [Act.put, List.setIfInBounds_toArray, List.set_cons_succ, List.set_cons_zero]; go_big_quiet_on) | go_big_quiet_step ((first | (go_at_call 30; exact Up.calls (HW.out _ (by (repeat' (first | (with_reducible exact Below.refl _ _) | (with_reducible assumption) | (with_reducible refine Below.setCell ?_ ?_ _) | (with_reducible refine Below.alloc ?_ ?_ _) | (with_reducible refine Below.drew ?_) | (with_reducible refine Up.base _ ?_ ?_) | (with_reducible exact LeSize.out) | exact LeSize.out | exact Nat.le_add_right_of_le LeSize.out | exact Nat.le_add_right_of_le (Nat.le_add_right_of_le LeSize.out) | (with_reducible exact Nat.le_refl _) | (simp; done) | (simp; omega)))))) | fail)))); refine wpQuiet_nil ?_; rintro _ ⟨u, rfl⟩)
                            obtain ⟨mx, hmx⟩ : ∃ x, (if w0 < w1 then w1 else w0) = x := ⟨_, rfl⟩
                            have HMX : Hid (max w0 w1 = mx) := Lib.hid (by rw [← hmx]; split <;> omega)
                            rw [hmx]
                            clear hmx
                            go_wp2
                            go_roundw
                            case rel => exact ⟨q + 1, by omega, fun h => absurd h h2, by go_num, by rw [HWM.out, HMX.out]; exact TB.putWin (HTB.out.below (Up.bel _))⟩
                            case measure => simp [intOf]; omega
                          · have HFIN : Hid (⟨PH, gr, CF, DE, RA, BU, s0, s1, s2, s3, s4, FL2, winM T0 q, sh⟩ = R) := Lib.hid (by
                              rw [← HR.out, HE.out, hT0]
                              congr 1
                              by_cases hz : RA.length = 0
                              · rw [if_pos hz, hq0 hz]; rfl
                              · rw [if_neg hz, show q = p by omega])
                            have HQ : Hid (q < p → RA.length = 0) := Lib.hid fun h => by by_cases hz : RA.length = 0; exact hz; exact absurd ⟨h, hz⟩ hlq
                            have HSET : Hid ((wr.setCells w.heap.size 0 C.toList).heap[w.heap.size]? = some (.cells C 32)) := Lib.hid (by rw [heap_sets_same _ iR.out, spl_all (by rw [hS.out]; rfl)])
                            have HTAB : Hid (IsTab (wr.setCells w.heap.size 0 C.toList) C R) := Lib.hid (by
                              have h := (HTB.out.other (k := w.heap.size) (i := 0) (vs := C.toList) (by omega)).isTab
                              rw [HC.out, HFIN.out] at h; exact h)
                            have HDE : Hid (OwnDe (wr.setCells w.heap.size 0 C.toList) w.heap.size C R.de) := Lib.hid (by
                              have h := (HTB.out.other (k := w.heap.size) (i := 0) (vs := C.toList) (by omega)).ownDe
                              rw [HC.out, HFIN.out] at h; exact h.less (by omega))
                            clear hlq hq0 HE
                            by_cases h1 : q < p
                            · have hz := HQ.out h1
                              rw [hz] at t114
                              have Hz := Lib.hid hz
                              clear hz
                              go_wp2_with (first | (refine l_ltab rfl rfl rfl ?_; go_simp) | (refine wpList_store_part (o := 0) (cs := C) 32 rfl rfl rfl rfl (by rw [hS.out]; exact Nat.le_refl _) (by rw [hS.out]; kernel_rfl) HONE.out ?_; go_simp))
                              refine bodyPost_ret (results_cell_row (p := 2) (ty := 32) rfl _ _ w.heap.size 32 C (0, 0) _ rfl HSET.out Try.underlying32 rfl (by rw [hS.out]; kernel_rfl)) rfl ?_
                              exact ⟨C, rfl, HTAB.out, HDE.out, below_setCells _ _ hbw (Nat.le_refl _)⟩
                            · have hpq : (p : Int) ≤ q := by omega
                              go_wp2_with (first | (refine l_ltab rfl rfl rfl ?_; go_simp) | (refine wpList_store_part (o := 0) (cs := C) 32 rfl rfl rfl rfl (by rw [hS.out]; exact Nat.le_refl _) (by rw [hS.out]; kernel_rfl) HONE.out ?_; go_simp))
                              refine bodyPost_ret (results_cell_row (p := 2) (ty := 32) rfl _ _ w.heap.size 32 C (0, 0) _ rfl HSET.out Try.underlying32 rfl (by rw [hS.out]; kernel_rfl)) rfl ?_
                              exact ⟨C, rfl, HTAB.out, HDE.out, below_setCells _ _ hbw (Nat.le_refl _)⟩
theorem ltable_any (a : Option Addr) (cap : Nat) (zs : List Int) (w : World) (hl : zs.length ≤ 9223372036854775807) (hz : Ints w a zs) :
    Calls Try.prog 7 #[.slice a zs.length cap] w fun e w' => ∃ T, e = .returned (.agg T) ∧ IsTab w' T (tabM zs) ∧ Below w.heap.size w w' :=
  (ltable_own a cap zs w hl hz).mono fun e w' ⟨T, h1, h2, _, h4⟩ => ⟨T, h1, h2, h4⟩
end Go.Proofs.Ytbnbakienajhmaa
