/- Rings: the answers' Green, Reds; Clash; the laws' Rings. Rings: rings of a table, by any numbers. Plain laws of a table by numbers: each phase stands once; conflicts are symmetric. Plain laws of a tick of the rings: who begins, who ends. -/
import Derived.Test.YtbnbakienajhmaaRngB
import Derived.Test.YtbnbakienajhmaaPlnA
import Derived.Test.YtbnbakienajhmaaTabO
import Derived.Test.YtbnbakienajhmaaRngI
namespace Go.Proofs.Ytbnbakienajhmaa
section
section
open Go.RowKit
set_option linter.unusedVariables false
attribute [local go_sem] IsBlk.cell IsBlk.frozen ruA_0 ruA_1 ruA_2 ruA_3 ruA_4 ruA_5 ruA_6 ruA_7 ruA_8

set_option maxHeartbeats 1000000 in
theorem rref_red (o : Rn) (w : World) : Calls Try.prog 47 #[.agg (RuA o)] w fun e w' => e = .returned (.bool (redM o)) ∧ Below w.heap.size w w' := by
  unfold redM RuA
  cases n1 : (o.c == 1) <;> cases n2 : (o.c == 2) <;> cases n3 : (o.c == 3)
  all_goals (try (exfalso; simp at n1 n2 n3; omega))
  all_goals
    have m1 : (o.c != 1) = !(o.c == 1) := rfl
    have m2 : (o.c != 2) = !(o.c == 2) := rfl
    have m3 : (o.c != 3) = !(o.c == 3) := rfl
    rw [n1] at m1
    rw [n2] at m2
    rw [n3] at m3
    go_enter Try.func47, Try.ntmps47
    go_wp2
    go_ret
    exact ⟨rfl, by (repeat' (first | (with_reducible exact Below.refl _ _) | (with_reducible assumption) | (with_reducible refine Below.setCell ?_ ?_ _) | (with_reducible refine Below.alloc ?_ ?_ _) | (with_reducible refine Below.drew ?_) | (with_reducible refine Up.base _ ?_ ?_) | (with_reducible exact LeSize.out) | exact LeSize.out | exact Nat.le_add_right_of_le LeSize.out | exact Nat.le_add_right_of_le (Nat.le_add_right_of_le LeSize.out) | (with_reducible exact Nat.le_refl _) | (simp; done) | (simp; omega)))⟩
set_option maxHeartbeats 4000000 in
set_option maxRecDepth 100000 in
theorem rref_green (R : Array Value) (rn : Nat → Rn) (w : World) (hR : IsRuns R rn) :
    Calls Try.prog 18 #[.agg R] w fun e w' => e = .returned (.int .i64 (grnN rn 8)) ∧ Below w.heap.size w w' := by
  have HC : Hid (∀ k, k < 8 → R[k * 12]? = some (.int .i64 (rn k).c)) := Lib.hid fun k hk => hR.2 k hk 0 (by omega)
  clear hR
  go_enter Try.func18, Try.ntmps18
  go_wp2
  go_loopw [3, 4] (fun s i wr => ∃ k : Nat, k ≤ 8 ∧ i = .int .i64 k ∧ s = .int .i64 (grnN rn k) ∧ IsBlk wr w.heap.size R 46 ∧ Below w.heap.size w wr) (fun _ i _ => 8 - (intOf i).toNat)
  case atStart => exact ⟨0, Nat.zero_le _, rfl, rfl, inferInstance, by (repeat' (first | (with_reducible exact Below.refl _ _) | (with_reducible assumption) | (with_reducible refine Below.setCell ?_ ?_ _) | (with_reducible refine Below.alloc ?_ ?_ _) | (with_reducible refine Below.drew ?_) | (with_reducible refine Up.base _ ?_ ?_) | (with_reducible exact LeSize.out) | exact LeSize.out | exact Nat.le_add_right_of_le LeSize.out | exact Nat.le_add_right_of_le (Nat.le_add_right_of_le LeSize.out) | (with_reducible exact Nat.le_refl _) | (simp; done) | (simp; omega)))⟩
  case round =>
    obtain ⟨k, hk, rfl, rfl, iR, hb⟩ := hrel
    haveI : LeSize w.heap.size wr := ⟨hb.size⟩
    by_cases hlt : k < 8
    · have hc := HC.out k hlt
      have HS := Lib.hid (grnN_s rn k rfl)
      have hkI : (k : Int) < 8 := by omega
      generalize rn k = r at *
      generalize grnN rn k = s0 at *
      cases hcc : (r.c == 1)
      all_goals
        rw [hcc] at HS
        go_wp2_with (go_at_call 23; refine (Up.run (rwith_any _ _ _)).mono ?_; rintro e w' ⟨rfl, urw, rfl⟩)
        go_roundw
        case rel => exact ⟨k + 1, by omega, by go_num, by rw [HS.out]; rfl, inferInstance, by (repeat' (first | (with_reducible exact Below.refl _ _) | (with_reducible assumption) | (with_reducible refine Below.setCell ?_ ?_ _) | (with_reducible refine Below.alloc ?_ ?_ _) | (with_reducible refine Below.drew ?_) | (with_reducible refine Up.base _ ?_ ?_) | (with_reducible exact LeSize.out) | exact LeSize.out | exact Nat.le_add_right_of_le LeSize.out | exact Nat.le_add_right_of_le (Nat.le_add_right_of_le LeSize.out) | (with_reducible exact Nat.le_refl _) | (simp; done) | (simp; omega)))⟩
        case measure => simp [intOf]; omega
    · obtain rfl : k = 8 := by omega
      go_wp2
      go_ret
      exact ⟨rfl, by (repeat' (first | (with_reducible exact Below.refl _ _) | (with_reducible assumption) | (with_reducible refine Below.setCell ?_ ?_ _) | (with_reducible refine Below.alloc ?_ ?_ _) | (with_reducible refine Below.drew ?_) | (with_reducible refine Up.base _ ?_ ?_) | (with_reducible exact LeSize.out) | exact LeSize.out | exact Nat.le_add_right_of_le LeSize.out | exact Nat.le_add_right_of_le (Nat.le_add_right_of_le LeSize.out) | (with_reducible exact Nat.le_refl _) | (simp; done) | (simp; omega)))⟩
def rdsN (r : Nat → Rn) : Nat → Int
  | 0 => 0
  | n + 1 => if redM (r n) then withM (rdsN r n) n else rdsN r n
theorem rdsN_s (r : Nat → Rn) (n : Nat) {b : Bool} (h : redM (r n) = b) : rdsN r (n + 1) = if b then withM (rdsN r n) n else rdsN r n := by subst h; rfl
set_option maxHeartbeats 4000000 in
set_option maxRecDepth 100000 in
theorem rref_reds (R : Array Value) (rn : Nat → Rn) (w : World) (hR : IsRuns R rn) :
    Calls Try.prog 16 #[.agg R] w fun e w' => e = .returned (.int .i64 (rdsN rn 8)) ∧ Below w.heap.size w w' := by
  have HRU : Hid (∀ k, k < 8 → IsRu R (k * 12) (rn k)) := Lib.hid fun k hk => ⟨fun j hj => hR.2 k hk j hj⟩
  clear hR
  go_enter Try.func16, Try.ntmps16
  go_wp2
  go_loopw [3, 4] (fun s i wr => ∃ k : Nat, k ≤ 8 ∧ i = .int .i64 k ∧ s = .int .i64 (rdsN rn k) ∧ IsBlk wr w.heap.size R 46 ∧ Below w.heap.size w wr) (fun _ i _ => 8 - (intOf i).toNat)
  case atStart => exact ⟨0, Nat.zero_le _, rfl, rfl, inferInstance, by (repeat' (first | (with_reducible exact Below.refl _ _) | (with_reducible assumption) | (with_reducible refine Below.setCell ?_ ?_ _) | (with_reducible refine Below.alloc ?_ ?_ _) | (with_reducible refine Below.drew ?_) | (with_reducible refine Up.base _ ?_ ?_) | (with_reducible exact LeSize.out) | exact LeSize.out | exact Nat.le_add_right_of_le LeSize.out | exact Nat.le_add_right_of_le (Nat.le_add_right_of_le LeSize.out) | (with_reducible exact Nat.le_refl _) | (simp; done) | (simp; omega)))⟩
  case round =>
    obtain ⟨k, hk, rfl, rfl, iR, hb⟩ := hrel
    haveI : LeSize w.heap.size wr := ⟨hb.size⟩
    by_cases hlt : k < 8
    · haveI := HRU.out k hlt
      have HS := Lib.hid (rdsN_s rn k rfl)
      have hkI : (k : Int) < 8 := by omega
      have HC : Hid (∀ w', Calls Try.prog 47 #[.agg (RuA (rn k))] w' fun e w'' => e = .returned (.bool (redM (rn k))) ∧ Below w'.heap.size w' w'') := Lib.hid fun w' => rref_red _ w'
      generalize rdsN rn k = s0 at *
      cases hcc : redM (rn k)
      all_goals
        rw [hcc] at HS HC
        generalize rn k = r at *
        go_wp2_with (first | (refine l_ru rfl rfl rfl ?_; go_simp) | (go_at_call 47; refine (Up.run (HC.out _)).mono ?_; rintro e w' ⟨rfl, urd, rfl⟩) | (go_at_call 23; refine (Up.run (rwith_any _ _ _)).mono ?_; rintro e w' ⟨rfl, urw, rfl⟩))
        go_roundw
        case rel => exact ⟨k + 1, by omega, by go_num, by rw [HS.out]; rfl, inferInstance, by (repeat' (first | (with_reducible exact Below.refl _ _) | (with_reducible assumption) | (with_reducible refine Below.setCell ?_ ?_ _) | (with_reducible refine Below.alloc ?_ ?_ _) | (with_reducible refine Below.drew ?_) | (with_reducible refine Up.base _ ?_ ?_) | (with_reducible exact LeSize.out) | exact LeSize.out | exact Nat.le_add_right_of_le LeSize.out | exact Nat.le_add_right_of_le (Nat.le_add_right_of_le LeSize.out) | (with_reducible exact Nat.le_refl _) | (simp; done) | (simp; omega)))⟩
        case measure => simp [intOf]; omega
    · obtain rfl : k = 8 := by omega
      go_wp2
      go_ret
      exact ⟨rfl, by (repeat' (first | (with_reducible exact Below.refl _ _) | (with_reducible assumption) | (with_reducible refine Below.setCell ?_ ?_ _) | (with_reducible refine Below.alloc ?_ ?_ _) | (with_reducible refine Below.drew ?_) | (with_reducible refine Up.base _ ?_ ?_) | (with_reducible exact LeSize.out) | exact LeSize.out | exact Nat.le_add_right_of_le LeSize.out | exact Nat.le_add_right_of_le (Nat.le_add_right_of_le LeSize.out) | (with_reducible exact Nat.le_refl _) | (simp; done) | (simp; omega)))⟩
def clashM (t : Tab) (p q : Nat) : Bool := hasM (t.cf p) q || hasM (t.cf q) p
set_option maxHeartbeats 4000000 in
set_option maxRecDepth 100000 in
theorem clash_any (T : Array Value) (t : Tab) (p q : Nat) (w : World) (hT : IsTab w T t) (hp : p < 8) (hq : q < 8) :
    Calls Try.prog 15 #[.agg T, .int .i64 p, .int .i64 q] w fun e w' => e = .returned (.bool (clashM t p q)) ∧ Below w.heap.size w w' := by
  have c1 := hT.cf p hp
  have c2 := hT.cf q hq
  have hpI : (p : Int) < 8 := by omega
  have hqI : (q : Int) < 8 := by omega
  unfold clashM
  generalize t.cf p = cp at *
  generalize t.cf q = cq at *
  clear hT
  have H1 : Hid (∀ w', Calls Try.prog 14 #[.int .i64 cp, .int .i64 q] w' fun e w'' => e = .returned (.bool (hasM cp q)) ∧ w' = w'') := Lib.hid fun w' => rhas_any _ _ w'
  have H2 : Hid (∀ w', Calls Try.prog 14 #[.int .i64 cq, .int .i64 p] w' fun e w'' => e = .returned (.bool (hasM cq p)) ∧ w' = w'') := Lib.hid fun w' => rhas_any _ _ w'
  cases h1 : hasM cp q
  all_goals
    rw [h1] at H1
    go_enter Try.func15, Try.ntmps15
    go_wp2_with (go_at_call 14; first | (with_reducible refine (H1.out _).mono ?_; rintro e w' ⟨rfl, rfl⟩) | (with_reducible refine (H2.out _).mono ?_; rintro e w' ⟨rfl, rfl⟩))
    go_ret
    exact ⟨by simp, by (repeat' (first | (with_reducible exact Below.refl _ _) | (with_reducible assumption) | (with_reducible refine Below.setCell ?_ ?_ _) | (with_reducible refine Below.alloc ?_ ?_ _) | (with_reducible refine Below.drew ?_) | (with_reducible refine Up.base _ ?_ ?_) | (with_reducible exact LeSize.out) | exact LeSize.out | exact Nat.le_add_right_of_le LeSize.out | exact Nat.le_add_right_of_le (Nat.le_add_right_of_le LeSize.out) | (with_reducible exact Nat.le_refl _) | (simp; done) | (simp; omega)))⟩
end
end
section
section
open Go.RowKit
set_option linter.unusedVariables false
attribute [local go_sem] IsBlk.cell IsBlk.frozen

def ringG (t : Tab) (g : Int) : Int := g % (t.gr.length : Int)
def ringP (t : Tab) (g k a : Int) : Int := a % (((rowZ t.gr (ringG t g) k).length : Int) + 1) - 1
set_option maxHeartbeats 8000000 in
set_option maxRecDepth 100000 in
theorem lrings_any (T : Array Value) (t : Tab) (g a0 a1 : Int) (x : Bool) (w : World) (hT : IsTab w T t) (hn : 1 ≤ t.gr.length) :
    Calls Try.prog 11 #[.agg T, .agg #[.int .i64 g, .int .i64 a0, .int .i64 a1, .bool x]] w fun e w' => e = .returned (.agg #[.int .i64 (ringG t g), .int .i64 (ringP t g 0 a0), .int .i64 (ringP t g 1 a1), .bool x]) ∧ Below w.heap.size w w' := by
  obtain ⟨gv, d, r, b, hTe, hI⟩ := hT
  obtain ⟨ga, gcap, H, rfl, hrow, hints⟩ := hI.gr
  have t104 : T[104]? = some (.slice ga t.gr.length gcap) := by rw [hTe, arrF_get _ _ _ (by omega)]; rfl
  have lg := hI.lg
  have lr := Lib.hid hI.lr
  clear hI hTe hints
  have hG0 : 0 ≤ ringG t g := Int.emod_nonneg _ (by omega)
  have hG1 : ringG t g < t.gr.length := Int.emod_lt_of_pos _ (by omega)
  obtain ⟨n, hgn⟩ := Int.eq_ofNat_of_zero_le hG0
  have hnl : n < t.gr.length := by omega
  have hP0 : ringP t g 0 a0 = a0 % (((rowOf t.gr n 0).length : Int) + 1) - 1 := by unfold ringP rowZ; rw [if_pos (by omega), hgn]; rfl
  have hP1 : ringP t g 1 a1 = a1 % (((rowOf t.gr n 1).length : Int) + 1) - 1 := by unfold ringP rowZ; rw [if_pos (by omega), hgn]; rfl
  have HPG : Hid (∀ w', Calls Try.prog 22 #[.int .i64 g, .int .i64 t.gr.length] w' fun e w'' => e = .returned (.int .i64 n) ∧ w' = w'') := Lib.hid fun w' => by rw [← hgn]; exact place_any g t.gr.length w' (by omega) (by omega)
  have hl0 := lr.out n 0
  have hl1 := lr.out n 1
  have HPL0 : Hid (∀ w', Calls Try.prog 22 #[.int .i64 a0, .int .i64 (((rowOf t.gr n 0).length : Int) + 1)] w' fun e w'' => e = .returned (.int .i64 (a0 % (((rowOf t.gr n 0).length : Int) + 1))) ∧ w' = w'') := Lib.hid fun w' => place_any a0 _ w' (by omega) (by omega)
  have HPL1 : Hid (∀ w', Calls Try.prog 22 #[.int .i64 a1, .int .i64 (((rowOf t.gr n 1).length : Int) + 1)] w' fun e w'' => e = .returned (.int .i64 (a1 % (((rowOf t.gr n 1).length : Int) + 1))) ∧ w' = w'') := Lib.hid fun w' => place_any a1 _ w' (by omega) (by omega)
  have hm0 : 0 ≤ a0 % (((rowOf t.gr n 0).length : Int) + 1) ∧ a0 % (((rowOf t.gr n 0).length : Int) + 1) ≤ 8 := ⟨Int.emod_nonneg _ (by omega), by have := Int.emod_lt_of_pos a0 (show 0 < ((rowOf t.gr n 0).length : Int) + 1 by omega); omega⟩
  have hm1 : 0 ≤ a1 % (((rowOf t.gr n 1).length : Int) + 1) ∧ a1 % (((rowOf t.gr n 1).length : Int) + 1) ≤ 8 := ⟨Int.emod_nonneg _ (by omega), by have := Int.emod_lt_of_pos a1 (show 0 < ((rowOf t.gr n 1).length : Int) + 1 by omega); omega⟩
  rw [hP0, hP1, hgn]
  generalize a0 % (((rowOf t.gr n 0).length : Int) + 1) = z0 at *
  generalize a1 % (((rowOf t.gr n 1).length : Int) + 1) = z1 at *
  obtain ⟨gb, goff, rfl, hgb, hgc⟩ := hrow.resolve_left (by omega)
  have hc0 : w.cell? ⟨gb, goff + n * 2, none⟩ = some (.slice (H n 0).1 (rowOf t.gr n 0).length (H n 0).2) := hgc n hnl 0 (by omega)
  have hc1 : w.cell? ⟨gb, goff + n * 2 + 1, none⟩ = some (.slice (H n 1).1 (rowOf t.gr n 1).length (H n 1).2) := hgc n hnl 1 (by omega)
  have e0 : ((t.gr.length : Int) == 0) = false := beq_eq_false_iff_ne.2 (by omega)
  have hnI : (n : Int) < t.gr.length := by omega
  generalize (rowOf t.gr n 0).length = l0 at *
  generalize (rowOf t.gr n 1).length = l1 at *
  generalize (H n 0).1 = A0 at *
  generalize (H n 1).1 = A1 at *
  generalize (H n 0).2 = C0 at *
  generalize (H n 1).2 = C1 at *
  generalize t.gr.length = L at *
  haveI : LeSize (gb + 1) w := ⟨hgb⟩
  clear hgc hrow hP0 hP1 hG0 hG1 hgn lr
  go_enter Try.func11, Try.ntmps11
  go_wp2_with (go_at_call 22; refine (HPG.out _).mono ?_; rintro e w' ⟨rfl, rfl⟩)
  go_loopw [7] (fun i wr => ∃ k : Int, (0 ≤ k ∧ k ≤ 2) ∧ i = .int .i64 k ∧ Below w.heap.size w wr ∧ LeSize (w.heap.size + 1 + 1 + 1 + 1) wr ∧ IsBlk wr w.heap.size T 32 ∧ IsBlk wr (w.heap.size + 1) #[.int .i64 g, .int .i64 a0, .int .i64 a1, .bool x] 36 ∧ IsBlk wr (w.heap.size + 1 + 1) #[.int .i64 0, .int .i64 0, .int .i64 0, .bool false] 36 ∧ ∃ b0 b1, IsBlk wr (w.heap.size + 1 + 1 + 1) #[.int .i64 n, .int .i64 b0, .int .i64 b1, .bool x] 36 ∧ ((k = 0 ∧ b0 = 0 ∧ b1 = 0) ∨ (k = 1 ∧ b0 = z0 - 1 ∧ b1 = 0) ∨ (k = 2 ∧ b0 = z0 - 1 ∧ b1 = z1 - 1))) (fun i _ => 2 - (intOf i).toNat)
  case atStart => exact ⟨0, by omega, rfl, by (repeat' (first | (with_reducible exact Below.refl _ _) | (with_reducible assumption) | (with_reducible refine Below.setCell ?_ ?_ _) | (with_reducible refine Below.alloc ?_ ?_ _) | (with_reducible refine Below.drew ?_) | (with_reducible refine Up.base _ ?_ ?_) | (with_reducible exact LeSize.out) | exact LeSize.out | exact Nat.le_add_right_of_le LeSize.out | exact Nat.le_add_right_of_le (Nat.le_add_right_of_le LeSize.out) | (with_reducible exact Nat.le_refl _) | (simp; done) | (simp; omega))), inferInstance, inferInstance, inferInstance, inferInstance, 0, 0, ⟨IsBlk.out⟩, .inl ⟨rfl, rfl, rfl⟩⟩
  case round =>
    obtain ⟨k, hk, rfl, hb, iS, iT, iG, iZ, b0, b1, iO, hcs⟩ := hrel
    haveI : LeSize w.heap.size wr := ⟨hb.size⟩
    haveI : LeSize (gb + 1) wr := ⟨by have := hb.size; omega⟩
    have hd0 : wr.cell? ⟨gb, goff + n * 2, none⟩ = some (.slice A0 l0 C0) := by rw [hb.cell (p := ⟨gb, goff + n * 2, none⟩) hgb]; exact hc0
    have hd1 : wr.cell? ⟨gb, goff + n * 2 + 1, none⟩ = some (.slice A1 l1 C1) := by rw [hb.cell (p := ⟨gb, goff + n * 2 + 1, none⟩) hgb]; exact hc1
    haveI a1' : Apart w.heap.size (w.heap.size + 1 + 1 + 1) := ⟨by omega⟩
    haveI a2' : Apart (w.heap.size + 1) (w.heap.size + 1 + 1 + 1) := ⟨by omega⟩
    haveI a3' : Apart (w.heap.size + 1 + 1) (w.heap.size + 1 + 1 + 1) := ⟨by omega⟩
    rcases hcs with ⟨rfl, rfl, rfl⟩ | ⟨rfl, rfl, rfl⟩ | ⟨rfl, rfl, rfl⟩
    · have HPL := HPL0
      clear HPL0 HPL1 HPG
      go_wp2
      (refine wp_region_up_tail 18 (by kernel_rfl) (by kernel_rfl) ?_; simp only [List.take_succ_cons, List.take_zero, List.drop_succ_cons, List.drop_zero]; (repeat (first | go_big_quiet_step ((first | (go_at_call 22; exact Up.pure (HPL.out _)) | fail)))); refine wpQuiet_nil ?_; rintro _ ⟨u, rfl⟩)
      go_wp2
      go_roundw
      case rel => exact ⟨1, by omega, rfl, by (repeat' (first | (with_reducible exact Below.refl _ _) | (with_reducible assumption) | (with_reducible refine Below.setCell ?_ ?_ _) | (with_reducible refine Below.alloc ?_ ?_ _) | (with_reducible refine Below.drew ?_) | (with_reducible refine Up.base _ ?_ ?_) | (with_reducible exact LeSize.out) | exact LeSize.out | exact Nat.le_add_right_of_le LeSize.out | exact Nat.le_add_right_of_le (Nat.le_add_right_of_le LeSize.out) | (with_reducible exact Nat.le_refl _) | (simp; done) | (simp; omega))), inferInstance, inferInstance, inferInstance, inferInstance, z0 - 1, 0, ⟨IsBlk.out⟩, .inr (.inl ⟨rfl, rfl, rfl⟩)⟩
      case measure => simp [intOf]
    · have HPL := HPL1
      clear HPL0 HPL1 HPG
      go_wp2
      (refine wp_region_up_tail 18 (by kernel_rfl) (by kernel_rfl) ?_; simp only [List.take_succ_cons, List.take_zero, List.drop_succ_cons, List.drop_zero]; (repeat (first | go_big_quiet_step ((first | (go_at_call 22; exact Up.pure (HPL.out _)) | fail)))); refine wpQuiet_nil ?_; rintro _ ⟨u, rfl⟩)
      go_wp2
      go_roundw
      case rel => exact ⟨2, by omega, rfl, by (repeat' (first | (with_reducible exact Below.refl _ _) | (with_reducible assumption) | (with_reducible refine Below.setCell ?_ ?_ _) | (with_reducible refine Below.alloc ?_ ?_ _) | (with_reducible refine Below.drew ?_) | (with_reducible refine Up.base _ ?_ ?_) | (with_reducible exact LeSize.out) | exact LeSize.out | exact Nat.le_add_right_of_le LeSize.out | exact Nat.le_add_right_of_le (Nat.le_add_right_of_le LeSize.out) | (with_reducible exact Nat.le_refl _) | (simp; done) | (simp; omega))), inferInstance, inferInstance, inferInstance, inferInstance, z0 - 1, z1 - 1, ⟨IsBlk.out⟩, .inr (.inr ⟨rfl, rfl, rfl⟩)⟩
      case measure => simp [intOf]
    · go_wp2
      go_returns
      exact ⟨rfl, by (repeat' (first | (with_reducible exact Below.refl _ _) | (with_reducible assumption) | (with_reducible refine Below.setCell ?_ ?_ _) | (with_reducible refine Below.alloc ?_ ?_ _) | (with_reducible refine Below.drew ?_) | (with_reducible refine Up.base _ ?_ ?_) | (with_reducible exact LeSize.out) | exact LeSize.out | exact Nat.le_add_right_of_le LeSize.out | exact Nat.le_add_right_of_le (Nat.le_add_right_of_le LeSize.out) | (with_reducible exact Nat.le_refl _) | (simp; done) | (simp; omega)))⟩
end
end
section
set_option linter.unusedVariables false

/-! ### Who stands in a table's rows -/
theorem fillR_app (a m k : Nat) : fillR a m ++ fillR (a + m) k = fillR a (m + k) := by
  unfold fillR
  rw [List.range_add, List.map_append, List.map_map]
  congr 1
  refine List.map_congr_left fun i _ => ?_
  show ((a + m + i : Nat) : Int) = ((a + (m + i) : Nat) : Int)
  omega
theorem fillR_len (a m : Nat) : (fillR a m).length = m := by simp [fillR]
theorem fillR_get {a m i : Nat} (h : i < m) : (fillR a m).getD i 0 = ((a + i : Nat) : Int) := by simp [fillR, List.getD, h]
theorem spI_fill (a m g k : Nat) (h : a + m ≤ 8) : ∀ n, n ≤ m → (spI (fillR a m) g k n).map (·.p) = fillR a n
  | 0, _ => rfl
  | n + 1, hn => by
    rw [spI_succ, List.map_append, spI_fill a m g k h n (by omega), fillR_get (by omega), ← fillR_app a n 1]
    have : okP ((a + n : Nat) : Int) = true := by unfold okP; simp; omega
    rw [if_pos this]
    simp [fillR]
theorem rowOf_app {l : List (List Int × List Int)} (x : List Int × List Int) {i : Nat} (h : i < l.length) (j : Nat) : rowOf (l ++ [x]) i j = rowOf l i j := by
  unfold rowOf; rw [List.getElem?_append_left h]
theorem spK_app {l : List (List Int × List Int)} (x : List Int × List Int) {i : Nat} (h : i < l.length) (n : Nat) : spK (l ++ [x]) i n = spK l i n := by
  unfold spK
  have : (fun k => spI (rowOf (l ++ [x]) i k) i k (rowOf (l ++ [x]) i k).length) = fun k => spI (rowOf l i k) i k (rowOf l i k).length := funext fun k => by rw [rowOf_app x h]
  rw [this]
theorem spG_app {l : List (List Int × List Int)} (x : List Int × List Int) : ∀ n, n ≤ l.length → spG (l ++ [x]) n = spG l n
  | 0, _ => rfl
  | n + 1, h => by rw [spG_succ, spG_succ, spG_app x n (by omega), spK_app x (by omega)]
theorem spots_rows (zs : List Int) (k : Nat) (hk : k ≤ 3) : ∀ g, g ≤ k → (spG (rowsGo zs k g).2 g).map (·.p) = fillR 0 (rowsGo zs k g).1
  | 0, _ => rfl
  | g + 1, h => by
    have ih := spots_rows zs k hk g (by omega)
    obtain ⟨b1, b2, b3⟩ := rowsGo_bd zs k hk g (by omega)
    obtain ⟨c1, c2, c3⟩ := rowsGo_bd zs k hk (g + 1) h
    simp only [rowsGo] at c1 c2 c3 ⊢
    generalize rowsGo zs k g = q at *
    generalize fillN (rw0 zs g) q.1 (8 - (k - 1 - g)) = m0 at *
    generalize fillN (rw1 zs g m0) (q.1 + m0) (8 - (k - 1 - g)) = m1 at *
    have e0 : rowOf (q.2 ++ [(fillR q.1 m0, fillR (q.1 + m0) m1)]) g 0 = fillR q.1 m0 := by unfold rowOf; rw [List.getElem?_append_right (by omega), b3]; simp
    have e1 : rowOf (q.2 ++ [(fillR q.1 m0, fillR (q.1 + m0) m1)]) g 1 = fillR (q.1 + m0) m1 := by unfold rowOf; rw [List.getElem?_append_right (by omega), b3]; simp
    rw [spG_succ, spG_app _ _ (by omega), List.map_append, ih, spK_succ, spK_succ, e0, e1, fillR_len, fillR_len]
    have e2 : spK (q.2 ++ [(fillR q.1 m0, fillR (q.1 + m0) m1)]) g 0 = [] := rfl
    rw [e2, List.nil_append, List.map_append, spI_fill _ _ _ _ (by omega) _ (Nat.le_refl _), spI_fill _ _ _ _ (by omega) _ (Nat.le_refl _)]
    have := fillR_app 0 q.1 m0
    rw [Nat.zero_add] at this
    rw [← List.append_assoc, this]
    have := fillR_app 0 (q.1 + m0) m1
    rw [Nat.zero_add] at this
    rw [this]
theorem mem_fill {n : Nat} {a : Int} : a ∈ fillR 0 n ↔ 0 ≤ a ∧ a < n := by
  unfold fillR
  simp only [List.mem_map, List.mem_range]
  constructor
  · rintro ⟨i, hi, rfl⟩; omega
  · intro h; exact ⟨a.toNat, by omega, by omega⟩
theorem spots_p (zs : List Int) : (spotsM (tabM zs).gr).map (·.p) = fillR 0 (rowsM zs).1 := by
  have hb := rowsM_bd zs
  have hg := groupsN_bd zs
  show (spG (rowsM zs).2 (rowsM zs).2.length).map (·.p) = _
  rw [hb.2.2]
  exact spots_rows zs (groupsN zs) hg.2 (groupsN zs) (Nat.le_refl _)
theorem fillR_lt (a m : Nat) : (fillR a m).Pairwise (· < ·) := by
  unfold fillR
  refine List.Pairwise.map _ (fun i j h => ?_) List.pairwise_lt_range
  omega
theorem find_own : ∀ (l : List Spot), (l.map (·.p)).Pairwise (· < ·) → ∀ s ∈ l, l.find? (fun x => x.p == s.p) = some s
  | [], _, s, h => by cases h
  | x :: l, hp, s, hs => by
    rw [List.map_cons, List.pairwise_cons] at hp
    rcases List.mem_cons.1 hs with rfl | hs
    · rw [List.find?_cons_of_pos (by simp)]
    · have hlt : x.p < s.p := hp.1 _ (List.mem_map.2 ⟨s, hs, rfl⟩)
      rw [List.find?_cons_of_neg (by simp; omega)]
      exact find_own l hp.2 s hs
theorem where_spot (zs : List Int) {s : Spot} (h : s ∈ spotsM (tabM zs).gr) : whereM (tabM zs).gr s.p = some s := by
  unfold whereM
  exact find_own _ (by rw [spots_p]; exact fillR_lt _ _) s h
theorem spot_in {gr : List (List Int × List Int)} {g k i : Nat} (hg : g < gr.length) (hk : k < 2) (hi : i < (rowOf gr g k).length) (hp : okP ((rowOf gr g k).getD i 0) = true) : (⟨g, k, i, (rowOf gr g k).getD i 0⟩ : Spot) ∈ spotsM gr := by
  unfold spotsM spG
  refine List.mem_flatMap.2 ⟨g, by simpa using hg, ?_⟩
  unfold spK
  refine List.mem_flatMap.2 ⟨k, by simpa using hk, ?_⟩
  unfold spI
  refine List.mem_filterMap.2 ⟨i, by simpa using hi, ?_⟩
  rw [if_pos hp]
theorem beside_rows (zs : List Int) {g i j : Nat} (hg : g < (tabM zs).gr.length) (hi : i < (rowOf (tabM zs).gr g 0).length) (hj : j < (rowOf (tabM zs).gr g 1).length) (hp : okP ((rowOf (tabM zs).gr g 0).getD i 0) = true) (hq : okP ((rowOf (tabM zs).gr g 1).getD j 0) = true) :
    besideM (tabM zs).gr ((rowOf (tabM zs).gr g 0).getD i 0) ((rowOf (tabM zs).gr g 1).getD j 0) = true ∧ besideM (tabM zs).gr ((rowOf (tabM zs).gr g 1).getD j 0) ((rowOf (tabM zs).gr g 0).getD i 0) = true ∧ (rowOf (tabM zs).gr g 0).getD i 0 ≠ (rowOf (tabM zs).gr g 1).getD j 0 := by
  have h1 := where_spot zs (spot_in hg (by omega : 0 < 2) hi hp)
  have h2 := where_spot zs (spot_in hg (by omega : 1 < 2) hj hq)
  simp only at h1 h2
  refine ⟨by unfold besideM; rw [h1, h2]; simp, by unfold besideM; rw [h1, h2]; simp, fun e => ?_⟩
  rw [e, h2] at h1
  simp at h1
/-! ### Conflicts -/
theorem hasM_with (s p q : Int) : hasM (withM s p) q = (hasM s q || (decide (0 ≤ q ∧ q < 8) && decide (p = q))) := by
  unfold withM
  rw [hasM_pack]
  unfold hasM oneM
  by_cases hq : 0 ≤ q ∧ q < 8
  · have e : ((q.toNat : Nat) : Int) = q := by omega
    simp only [hq, and_self, decide_true, Bool.true_and, e]
  · simp [hq]
def SymC (cf : Nat → Int) : Prop := ∀ a b : Nat, a < 8 → b < 8 → hasM (cf a) b = hasM (cf b) a
theorem symC_S {gr : List (List Int × List Int)} {zs : List Int} {p q : Nat} {cf : Nat → Int} (h : SymC cf) (hpq : q < p) (hp : p < 8) : SymC (cfS gr zs p q cf) := by
  unfold cfS
  split
  · intro a b ha hb
    have hq' : (0 : Int) ≤ q ∧ (q : Int) < 8 := by omega
    have hp' : (0 : Int) ≤ p ∧ (p : Int) < 8 := by omega
    have key : ∀ x y : Nat, x < 8 → y < 8 → hasM ((fset (fset cf p (withM (cf p) q)) q (withM (fset cf p (withM (cf p) q) q) p)) x) y = (hasM (cf x) y || (decide (x = p) && decide (y = q)) || (decide (x = q) && decide (y = p))) := fun x y hx hy => by
      have hy' : (0 : Int) ≤ y ∧ (y : Int) < 8 := by omega
      unfold fset
      by_cases h1 : x = q
      · subst h1
        have hne : x ≠ p := by omega
        rw [if_pos rfl, if_neg hne, hasM_with]
        simp only [hy', and_self, decide_true, Bool.true_and, hne, decide_false, Bool.false_and, Bool.or_false]
        congr 1
        rw [Bool.eq_iff_iff]; simp only [decide_eq_true_eq]; omega
      · rw [if_neg h1]
        by_cases h2 : x = p
        · subst h2
          rw [if_pos rfl, hasM_with]
          simp only [hy', and_self, decide_true, Bool.true_and, h1, decide_false, Bool.false_and, Bool.or_false]
          congr 1
          rw [Bool.eq_iff_iff]; simp only [decide_eq_true_eq]; omega
        · rw [if_neg h2]
          simp [h1, h2]
    rw [key a b ha hb, key b a hb ha, h a b ha hb, Bool.or_assoc, Bool.or_assoc]
    congr 1
    rw [Bool.or_comm, Bool.and_comm (decide (a = q)), Bool.and_comm (decide (a = p))]
  · exact h
theorem symC_Q {gr : List (List Int × List Int)} {zs : List Int} {p : Nat} {cf : Nat → Int} (h : SymC cf) (hp : p < 8) : ∀ q, q ≤ p → SymC (cfQ gr zs p cf q)
  | 0, _ => h
  | q + 1, hq => symC_S (symC_Q h hp q (by omega)) (by omega) hp
theorem symC_P {gr : List (List Int × List Int)} {zs : List Int} : ∀ n, n ≤ 8 → SymC (cfP gr zs n)
  | 0, _ => fun _ _ _ _ => by simp [cfP]; unfold hasM bitM; simp
  | n + 1, h => symC_Q (symC_P n (by omega)) (by omega) n (Nat.le_refl _)
theorem tab_sym (zs : List Int) : SymC (tabM zs).cf := symC_P (rowsM zs).1 (rowsM_bd zs).2.1
end
section
section
open Go.RowKit
set_option linter.unusedVariables false

theorem andNot_pack (f g : Nat → Bool) : bits .andNot .i64 (packM f) (packM g) = packM fun i => f i && !g i := by
  rw [bits_andNot]
  unfold packM
  rw [toNat_small (packN_lt _), toNat_small (packN_lt _)]
  have hp : packN g < 2 ^ 64 := by have := packN_lt g; omega
  have e : packN f &&& (2 ^ 64 - (packN g + 1)) = packN (fun i => f i && !g i) := Nat.eq_of_testBit_eq fun i => by
    rw [Nat.testBit_and, Nat.testBit_two_pow_sub_succ hp, packN_test, packN_test, packN_test]
    by_cases hi : i < 8
    · have : i < 64 := by omega
      simp [hi, this]
    · simp [hi]
  rw [e, wrap_small (packN_lt _)]
theorem andNot_zero {e g : Int} (he : 0 ≤ e ∧ e ≤ 255) (hg : 0 ≤ g ∧ g ≤ 255) (h : ∀ q : Nat, q < 8 → hasM e q = true → hasM g q = true) : bits .andNot .i64 e g = 0 := by
  rw [← pack_of he, ← pack_of hg, andNot_pack, pack_zero]
  intro i hi
  have := h i hi
  rw [hasM_nat _ hi, hasM_nat _ hi] at this
  cases hb : bitM e i
  · rfl
  · rw [this hb]; rfl
theorem and_zero2 {e g : Int} (he : 0 ≤ e ∧ e ≤ 255) (hg : 0 ≤ g ∧ g ≤ 255) (h : ∀ q : Nat, q < 8 → hasM e q = true → hasM g q = false) : bits .and .i64 e g = 0 := by
  rw [← pack_of he, ← pack_of hg, and_pack, pack_zero]
  intro i hi
  have := h i hi
  rw [hasM_nat _ hi, hasM_nat _ hi] at this
  cases hb : bitM e i
  · rfl
  · rw [this hb]; rfl
theorem or_zero2 {e g : Int} (he : 0 ≤ e ∧ e ≤ 255) (hg : 0 ≤ g ∧ g ≤ 255) (h : bits .or .i64 e g = 0) : e = 0 := by
  rw [← pack_of he, ← pack_of hg, or_pack, pack_zero] at h
  rw [← pack_of he, pack_zero]
  intro i hi
  have := h i hi
  cases hb : bitM e i
  · rfl
  · rw [hb] at this; simp at this
theorem hasM_zero (q : Int) : hasM 0 q = false := by unfold hasM bitM; simp
theorem grn_has (rn : Nat → Rn) (q : Nat) : ∀ n, n ≤ 8 → hasM (grnN rn n) q = (decide (q < n) && ((rn q).c == 1))
  | 0, _ => by unfold grnN; rw [hasM_zero]; simp
  | n + 1, h => by
    rw [grnN_s rn n rfl]
    have ih := grn_has rn q n (by omega)
    cases hc : ((rn n).c == 1)
    · simp only [Bool.false_eq_true, if_false]
      rw [ih, Bool.eq_iff_iff]
      simp only [Bool.and_eq_true, decide_eq_true_eq]
      constructor
      · rintro ⟨h1, h2⟩; exact ⟨by omega, h2⟩
      · rintro ⟨h1, h2⟩
        refine ⟨?_, h2⟩
        by_cases he : q = n
        · subst he; rw [hc] at h2; cases h2
        · omega
    · simp only [if_true]
      rw [hasM_with, ih, Bool.eq_iff_iff]
      simp only [Bool.or_eq_true, Bool.and_eq_true, decide_eq_true_eq]
      constructor
      · rintro (⟨h1, h2⟩ | ⟨h1, h2⟩)
        · exact ⟨by omega, h2⟩
        · have : q = n := by omega
          subst this; exact ⟨by omega, hc⟩
      · rintro ⟨h1, h2⟩
        by_cases he : q = n
        · subst he; exact .inr ⟨by omega, rfl⟩
        · exact .inl ⟨by omega, h2⟩
theorem grn_bd (rn : Nat → Rn) : ∀ n, 0 ≤ grnN rn n ∧ grnN rn n ≤ 255
  | 0 => by unfold grnN; omega
  | n + 1 => by
    unfold grnN
    split
    · exact packM_bd _
    · exact grn_bd rn n
theorem rds_has (rn : Nat → Rn) (q : Nat) : ∀ n, n ≤ 8 → q < n → redM (rn q) = true → hasM (withM 0 q) q = true := fun n hn hq h => by
  rw [hasM_with]; simp; omega
def bgP (t : Tab) (rn : Nat → Rn) (g k : Int) (o : On1) : Bool := !o.bu && (decide (0 ≤ o.nx) && mayM t rn (atZ t.gr g k o.nx).toNat)
def enP (t : Tab) (rn : Nat → Rn) (want : Int) (o : On1) : Bool := o.bu && endsM t rn want o
theorem stepC_st (t : Tab) (rn : Nat → Rn) (g want k : Int) (o : On1) (a st en : Int) : (stepC t rn g want k o a st en).1 = if bgP t rn g k o = true then withM st (atZ t.gr g k o.nx) else st := by
  unfold stepC bgP
  cases o.bu
  · by_cases h : 0 ≤ o.nx
    · cases hm : mayM t rn (atZ t.gr g k o.nx).toNat <;> simp [h]
    · simp [h]
  · simp
theorem stepC_en (t : Tab) (rn : Nat → Rn) (g want k : Int) (o : On1) (a st en : Int) : (stepC t rn g want k o a st en).2.1 = if enP t rn want o = true then withM en o.ph else en := by
  unfold stepC enP
  cases o.bu
  · by_cases h : 0 ≤ o.nx
    · cases hm : mayM t rn (atZ t.gr g k o.nx).toNat <;> simp [h]
    · simp [h]
  · simp
/-- Where the next place of a ring is. -/
theorem atZ_pos {t : Tab} {n k : Nat} {want a : Int} (hn : n < t.gr.length) (hk : k < 2) (h : 0 ≤ nextZ (rowZ t.gr n k) want a) : ∃ i : Nat, i < (rowOf t.gr n k).length ∧ atZ t.gr n k (nextZ (rowZ t.gr n k) want a) = (rowOf t.gr n k).getD i 0 ∧ okP ((rowOf t.gr n k).getD i 0) = true := by
  have hr : rowZ t.gr n k = rowOf t.gr n k := by unfold rowZ; rw [if_pos (by omega)]; rfl
  obtain ⟨i, hi, hl, hh⟩ := nextZ_in h
  obtain ⟨h1, h2, _⟩ := atZ_next h
  rw [hr] at hl hh
  have ho := hasM_ok hh
  have hok : okP ((rowOf t.gr n k).getD i 0) = true := by
    generalize (rowOf t.gr n k).getD i 0 = p at *
    unfold okP; simp; exact ho
  refine ⟨i, hl, ?_, hok⟩
  unfold atZ
  rw [hi, hr, atR_in hl, if_neg]
  intro hz
  have := of_one ((rowOf t.gr n k).getD i 0)
  rw [hz, hok] at this
  simp at this
theorem two_len {l : List Int} (hp : l.Pairwise (· < ·)) {a b : Int} (h : ∀ x ∈ l, x = a ∨ x = b) : l.length ≤ 2 := by
  match l, hp, h with
  | [], _, _ => simp
  | [_], _, _ => simp
  | [_, _], _, _ => simp
  | x :: y :: z :: r, hp, h =>
    exfalso
    rw [List.pairwise_cons, List.pairwise_cons] at hp
    have h1 := hp.1 y (by simp)
    have h2 := hp.2.1 z (by simp)
    rcases h x (by simp) with e1 | e1 <;> rcases h y (by simp) with e2 | e2 <;> rcases h z (by simp) with e3 | e3 <;> omega
theorem listM_lt (s : Int) : (listM s).Pairwise (· < ·) := by
  unfold listM setL
  refine List.Pairwise.map _ (fun i j h => ?_) (List.Pairwise.filter _ List.pairwise_lt_range)
  simpa using h
/-- What a tick of the rings keeps. -/
structure MayOk (t : Tab) (rn : Nat → Rn) (want g g' : Int) (cr : Bool) (st en : Int) : Prop where
  grp : cr = true → g' = g
  apart : st ≠ 0 → bits .and .i64 en st = 0 ∧ cr = false
  ends : bits .andNot .i64 en (grnN rn 8) = 0
  len : (listM st).length ≤ 2
  may : ∀ p ∈ listM st, hasM want p = true ∧ mayM t rn p.toNat = true
  beside : ∀ i, 0 < i → i < (listM st).length → besideM t.gr ((listM st).getD i 0) ((listM st).getD 0 0) = true
theorem red_not1 {r : Rn} (h : redM r = true) : (r.c == 1) = false := by
  unfold redM at h; cases hc : (r.c == 1)
  · rfl
  · rw [hc] at h; simp at h
theorem step_ok (zs : List Int) (rn : Nat → Rn) (n : Nat) (want a0 a1 : Int) (hn : n < (tabM zs).gr.length) :
    MayOk (tabM zs) rn want n n (stCr (tabM zs) rn n want a0 a1) (stS2 (tabM zs) rn n want a0 a1).1 (stEn (tabM zs) rn n want a0 a1) := by
  have hst : (stS2 (tabM zs) rn n want a0 a1).1 = if bgP (tabM zs) rn n 1 (ringO (tabM zs) rn n want 1 a1) = true then withM (if bgP (tabM zs) rn n 0 (ringO (tabM zs) rn n want 0 a0) = true then withM 0 (atZ (tabM zs).gr n 0 (ringO (tabM zs) rn n want 0 a0).nx) else 0) (atZ (tabM zs).gr n 1 (ringO (tabM zs) rn n want 1 a1).nx) else (if bgP (tabM zs) rn n 0 (ringO (tabM zs) rn n want 0 a0) = true then withM 0 (atZ (tabM zs).gr n 0 (ringO (tabM zs) rn n want 0 a0).nx) else 0) := by
    unfold stS2 stS1; rw [stepC_st, stepC_st]
  have hen : (stS2 (tabM zs) rn n want a0 a1).2.1 = if enP (tabM zs) rn want (ringO (tabM zs) rn n want 1 a1) = true then withM (if enP (tabM zs) rn want (ringO (tabM zs) rn n want 0 a0) = true then withM 0 (ringO (tabM zs) rn n want 0 a0).ph else 0) (ringO (tabM zs) rn n want 1 a1).ph else (if enP (tabM zs) rn want (ringO (tabM zs) rn n want 0 a0) = true then withM 0 (ringO (tabM zs) rn n want 0 a0).ph else 0) := by
    unfold stS2 stS1; rw [stepC_en, stepC_en]
  -- who begins
  have hB : ∀ k : Nat, k < 2 → ∀ a, bgP (tabM zs) rn n k (ringO (tabM zs) rn n want k a) = true → ∃ i : Nat, i < (rowOf (tabM zs).gr n k).length ∧ atZ (tabM zs).gr n k (ringO (tabM zs) rn n want k a).nx = (rowOf (tabM zs).gr n k).getD i 0 ∧ okP ((rowOf (tabM zs).gr n k).getD i 0) = true ∧ hasM want (atZ (tabM zs).gr n k (ringO (tabM zs) rn n want k a).nx) = true ∧ mayM (tabM zs) rn (atZ (tabM zs).gr n k (ringO (tabM zs) rn n want k a).nx).toNat = true := fun k hk a h => by
    unfold bgP at h
    simp only [Bool.and_eq_true, decide_eq_true_eq] at h
    obtain ⟨_, h1, h2⟩ := h
    obtain ⟨i, hi, he, ho⟩ := atZ_pos hn hk h1
    exact ⟨i, hi, he, ho, (atZ_next h1).2.2, h2⟩
  have hE : ∀ k : Nat, ∀ a, enP (tabM zs) rn want (ringO (tabM zs) rn n want k a) = true → 0 ≤ (ringO (tabM zs) rn n want k a).ph ∧ (ringO (tabM zs) rn n want k a).ph < 8 ∧ ((rn (ringO (tabM zs) rn n want k a).ph.toNat).c == 1) = true := fun k a h => by
    unfold enP at h
    simp only [Bool.and_eq_true] at h
    have hb : (ringO (tabM zs) rn n want k a).bu = (decide (0 ≤ (ringO (tabM zs) rn n want k a).ph) && !redM (rn (ringO (tabM zs) rn n want k a).ph.toNat)) := rfl
    have hp : (ringO (tabM zs) rn n want k a).ph = -1 ∨ (0 ≤ (ringO (tabM zs) rn n want k a).ph ∧ (ringO (tabM zs) rn n want k a).ph < 8) := atR_ok _ _
    rw [h.1] at hb
    have h0 : 0 ≤ (ringO (tabM zs) rn n want k a).ph := by
      have := hb.symm
      simp only [Bool.and_eq_true, decide_eq_true_eq] at this
      exact this.1
    have h2 := h.2
    unfold endsM at h2
    simp only [Bool.and_eq_true] at h2
    exact ⟨h0, by omega, h2.1⟩
  have hB0 := hB 0 (by omega) a0
  have hB1 := hB 1 (by omega) a1
  have hE0 := hE 0 a0
  have hE1 := hE 1 a1
  clear hB hE
  simp only [show ((0 : Nat) : Int) = 0 from rfl, show ((1 : Nat) : Int) = 1 from rfl] at hB0 hB1 hE0 hE1
  have hO0 : stEn (tabM zs) rn n want a0 a1 = if stCr (tabM zs) rn n want a0 a1 = true then grnN rn 8 else (stS2 (tabM zs) rn n want a0 a1).2.1 := rfl
  have hC : stCr (tabM zs) rn n want a0 a1 = true → bits .or .i64 (stS2 (tabM zs) rn n want a0 a1).1 (stS2 (tabM zs) rn n want a0 a1).2.1 = 0 := fun h => by
    unfold stCr at h
    simp only [Bool.and_eq_true, beq_iff_eq] at h
    exact h.1.1.1
  rw [hO0]
  generalize stCr (tabM zs) rn n want a0 a1 = cr at *
  generalize (stS2 (tabM zs) rn n want a0 a1).1 = st at *
  generalize (stS2 (tabM zs) rn n want a0 a1).2.1 = en at *
  generalize ringO (tabM zs) rn n want 0 a0 = o0 at *
  generalize ringO (tabM zs) rn n want 1 a1 = o1 at *
  generalize bgP (tabM zs) rn n 0 o0 = B0 at *
  generalize bgP (tabM zs) rn n 1 o1 = B1 at *
  generalize enP (tabM zs) rn want o0 = E0 at *
  generalize enP (tabM zs) rn want o1 = E1 at *
  generalize atZ (tabM zs).gr n 0 o0.nx = P0 at *
  generalize atZ (tabM zs).gr n 1 o1.nx = P1 at *
  have bst : 0 ≤ st ∧ st ≤ 255 := by
    rw [hst]; split
    · exact packM_bd _
    · split
      · exact packM_bd _
      · omega
  have ben : 0 ≤ en ∧ en ≤ 255 := by
    rw [hen]; split
    · exact packM_bd _
    · split
      · exact packM_bd _
      · omega
  have bgr := grn_bd rn 8
  have mst : ∀ q, hasM st q = true → (B0 = true ∧ q = P0) ∨ (B1 = true ∧ q = P1) := fun q h => by
    rw [hst] at h
    cases B0 <;> cases B1 <;> simp only [Bool.false_eq_true, if_false, if_true, hasM_with, hasM_zero, Bool.or_eq_true, Bool.and_eq_true, decide_eq_true_eq, false_or] at h
    · exact .inr ⟨rfl, h.2.symm⟩
    · exact .inl ⟨rfl, h.2.symm⟩
    · rcases h with h | h
      · exact .inl ⟨rfl, h.2.symm⟩
      · exact .inr ⟨rfl, h.2.symm⟩
  have men : ∀ q : Nat, q < 8 → hasM en q = true → ((rn q).c == 1) = true := fun q hq h => by
    have : (E0 = true ∧ (q : Int) = o0.ph) ∨ (E1 = true ∧ (q : Int) = o1.ph) := by
      rw [hen] at h
      cases E0 <;> cases E1 <;> simp only [Bool.false_eq_true, if_false, if_true, hasM_with, hasM_zero, Bool.or_eq_true, Bool.and_eq_true, decide_eq_true_eq, false_or] at h
      · exact .inr ⟨rfl, h.2.symm⟩
      · exact .inl ⟨rfl, h.2.symm⟩
      · rcases h with h | h
        · exact .inl ⟨rfl, h.2.symm⟩
        · exact .inr ⟨rfl, h.2.symm⟩
    rcases this with ⟨h1, h2⟩ | ⟨h1, h2⟩
    · have := (hE0 h1).2.2; rw [← h2, Int.toNat_natCast] at this; exact this
    · have := (hE1 h1).2.2; rw [← h2, Int.toNat_natCast] at this; exact this
  have hmay : ∀ q, hasM st q = true → hasM want q = true ∧ mayM (tabM zs) rn q.toNat = true := fun q h => by
    rcases mst q h with ⟨h1, rfl⟩ | ⟨h1, rfl⟩
    · obtain ⟨_, _, _, _, h5, h6⟩ := hB0 h1; exact ⟨h5, h6⟩
    · obtain ⟨_, _, _, _, h5, h6⟩ := hB1 h1; exact ⟨h5, h6⟩
  have hlen : (listM st).length ≤ 2 := two_len (listM_lt st) (a := P0) (b := P1) fun x hx => (mst x (mem_listM.1 hx)).imp And.right And.right
  refine ⟨fun _ => rfl, fun h => ?_, ?_, hlen, fun p hp => hmay p (mem_listM.1 hp), fun i hi0 hi => ?_⟩
  · have hcr : cr = false := by
      cases hc : cr
      · rfl
      · exact absurd (or_zero2 bst ben (hC hc)) h
    refine ⟨?_, hcr⟩
    rw [hcr]
    simp only [Bool.false_eq_true, if_false]
    refine and_zero2 ben bst fun q hq he => ?_
    cases hs : hasM st q
    · rfl
    · have h1 := (hmay q hs).2
      unfold mayM at h1
      simp only [Bool.and_eq_true] at h1
      have := red_not1 h1.1.1
      rw [Int.toNat_natCast, men q hq he] at this
      cases this
  · cases cr
    · simp only [Bool.false_eq_true, if_false]
      refine andNot_zero ben bgr fun q hq he => ?_
      rw [grn_has rn q 8 (Nat.le_refl _), men q hq he]
      simp [hq]
    · simp only [if_true]
      exact andNot_zero bgr bgr fun q hq he => he
  · obtain rfl : i = 1 := by omega
    have hlt := listM_lt st
    have m0 : (listM st).getD 0 0 ∈ listM st := by rw [List.getD_eq_getElem?_getD, List.getElem?_eq_getElem (by omega)]; exact List.getElem_mem _
    have m1 : (listM st).getD 1 0 ∈ listM st := by rw [List.getD_eq_getElem?_getD, List.getElem?_eq_getElem hi]; exact List.getElem_mem _
    have hl : (listM st).getD 0 0 < (listM st).getD 1 0 := by
      have := List.pairwise_iff_getElem.1 hlt 0 1 (by omega) hi (by omega)
      rw [List.getD_eq_getElem?_getD, List.getD_eq_getElem?_getD, List.getElem?_eq_getElem (show 0 < (listM st).length by omega), List.getElem?_eq_getElem hi]
      exact this
    have c0 := mst _ (mem_listM.1 m0)
    have c1 := mst _ (mem_listM.1 m1)
    generalize (listM st).getD 0 0 = x at *
    generalize (listM st).getD 1 0 = y at *
    have hbb : B0 = true → B1 = true → besideM (tabM zs).gr P0 P1 = true ∧ besideM (tabM zs).gr P1 P0 = true := fun h0 h1 => by
      obtain ⟨i0, hi0, e0, k0, _, _⟩ := hB0 h0
      obtain ⟨i1, hi1, e1, k1, _, _⟩ := hB1 h1
      have := beside_rows zs hn hi0 hi1 k0 k1
      rw [e0, e1]
      exact ⟨this.1, this.2.1⟩
    rcases c0 with ⟨h0, rfl⟩ | ⟨h0, rfl⟩ <;> rcases c1 with ⟨h1, rfl⟩ | ⟨h1, rfl⟩
    · omega
    · exact (hbb h0 h1).2
    · exact (hbb h1 h0).1
    · omega
theorem cross_ok (t : Tab) (rn : Nat → Rn) (want g g' : Int) (cr : Bool) (h : cr = true → g' = g) : MayOk t rn want g g' cr 0 0 := by
  have hl : listM 0 = [] := by decide +kernel
  refine ⟨h, fun h => absurd rfl h, andNot_zero (by omega) (grn_bd rn 8) fun q _ h => ?_, by rw [hl]; simp, fun p hp => ?_, fun i _ hi => ?_⟩
  · rw [hasM_zero] at h; cases h
  · rw [hl] at hp; cases hp
  · rw [hl] at hi; simp at hi
end
end
end Go.Proofs.Ytbnbakienajhmaa
