/- The contracts of package ring: greens, rests, settled. The contracts of package ring: rests, settled. The contracts of package ring: settled. The contracts of package ring: at. The contracts of package ring: Now. -/
import Derived.Test.YtbnbakienajhmaaRngA
import Derived.Test.YtbnbakienajhmaaSetN
import Derived.Test.YtbnbakienajhmaaPlnK
namespace Go.Proofs.Ytbnbakienajhmaa
section
open Go.RowKit
set_option linter.unusedVariables false
attribute [local go_sem] IsBlk.cell IsBlk.frozen ruA_0 ruA_1 ruA_2 ruA_3 ruA_4 ruA_5 ruA_6 ruA_7 ruA_8

/-- The green ones of the first n. -/
def grnN (r : Nat → Rn) : Nat → Int
  | 0 => 0
  | n + 1 => if (r n).c == 1 then withM (grnN r n) n else grnN r n
theorem grnN_s (r : Nat → Rn) (n : Nat) {b : Bool} (h : ((r n).c == 1) = b) : grnN r (n + 1) = if b then withM (grnN r n) n else grnN r n := by subst h; rfl
set_option maxHeartbeats 4000000 in
set_option maxRecDepth 100000 in
theorem ring_greens (R : Array Value) (rn : Nat → Rn) (w : World) (hR : IsRuns R rn) :
    Calls Try.prog 45 #[.agg R] w fun e w' => e = .returned (.int .i64 (grnN rn 8)) ∧ Below w.heap.size w w' := by
  have HX : Hid (∀ k, k < 8 → ∀ w, Sem.run Try.prog (Instr.index 46 (.agg R) (.int .i64 (k : Nat))) w = .ok (.agg (RuA (rn k))) w) := Lib.hid fun k hk w' => run_index_run hR hk w'
  haveI : Sz96 R := ⟨hR.1⟩
  clear hR
  go_enter Try.func45, Try.ntmps45
  go_wp2_with (refine l_lruns rfl rfl rfl ?_; go_simp)
  go_loopw [3, 7] (fun s i wr => ∃ k : Nat, k ≤ 8 ∧ i = .int .i64 k ∧ s = .int .i64 (grnN rn k) ∧ Below w.heap.size w wr) (fun _ i _ => 8 - (intOf i).toNat)
  case atStart => exact ⟨0, Nat.zero_le _, rfl, rfl, by (repeat' (first | (with_reducible exact Below.refl _ _) | (with_reducible assumption) | (with_reducible refine Below.setCell ?_ ?_ _) | (with_reducible refine Below.alloc ?_ ?_ _) | (with_reducible refine Below.drew ?_) | (with_reducible refine Up.base _ ?_ ?_) | (with_reducible exact LeSize.out) | exact LeSize.out | exact Nat.le_add_right_of_le LeSize.out | exact Nat.le_add_right_of_le (Nat.le_add_right_of_le LeSize.out) | (with_reducible exact Nat.le_refl _) | (simp; done) | (simp; omega)))⟩
  case round =>
    obtain ⟨k, hk, rfl, rfl, hb⟩ := hrel
    haveI : LeSize w.heap.size wr := ⟨hb.size⟩
    by_cases hlt : k < 8
    · have hix := HX.out k hlt
      have HS := Lib.hid (grnN_s rn k rfl)
      have hkI : (k : Int) < 8 := by omega
      generalize rn k = r at *
      generalize grnN rn k = s0 at *
      cases hc : (r.c == 1)
      all_goals
        rw [hc] at HS
        go_wp2_with (first | (refine l_newRu rfl rfl rfl rfl inferInstance rfl ?_; go_simp) | (go_at_call 42; refine (swith_any _ _ _).mono ?_; rintro e w' ⟨rfl, rfl⟩))
        go_roundw
        case rel => exact ⟨k + 1, by omega, by go_num, by rw [HS.out]; rfl, by (repeat' (first | (with_reducible exact Below.refl _ _) | (with_reducible assumption) | (with_reducible refine Below.setCell ?_ ?_ _) | (with_reducible refine Below.alloc ?_ ?_ _) | (with_reducible refine Below.drew ?_) | (with_reducible refine Up.base _ ?_ ?_) | (with_reducible exact LeSize.out) | exact LeSize.out | exact Nat.le_add_right_of_le LeSize.out | exact Nat.le_add_right_of_le (Nat.le_add_right_of_le LeSize.out) | (with_reducible exact Nat.le_refl _) | (simp; done) | (simp; omega)))⟩
        case measure => simp [intOf]; omega
    · obtain rfl : k = 8 := by omega
      go_wp2
      go_ret
      exact ⟨rfl, by (repeat' (first | (with_reducible exact Below.refl _ _) | (with_reducible assumption) | (with_reducible refine Below.setCell ?_ ?_ _) | (with_reducible refine Below.alloc ?_ ?_ _) | (with_reducible refine Below.drew ?_) | (with_reducible refine Up.base _ ?_ ?_) | (with_reducible exact LeSize.out) | exact LeSize.out | exact Nat.le_add_right_of_le LeSize.out | exact Nat.le_add_right_of_le (Nat.le_add_right_of_le LeSize.out) | (with_reducible exact Nat.le_refl _) | (simp; done) | (simp; omega)))⟩
end
section
open Go.RowKit
set_option linter.unusedVariables false
attribute [local go_sem] IsBlk.cell IsBlk.frozen ruA_0 ruA_1 ruA_2 ruA_3 ruA_4 ruA_5 ruA_6 ruA_7 ruA_8

def restsM (p : Phs) (r : Rn) : Bool := p.rest && decide (p.min ≤ r.t) && !(r.fs == 1 || r.fs == 2) && (r.l == 0)
def PqV (p : Phs) : Value := .agg #[.bool p.on, .int .i64 p.min, .int .i64 p.gap, .int .i64 p.max, .int .i64 p.top, .int .i64 p.step, .int .i64 p.yel, .int .i64 p.red, .int .i64 p.walk, .int .i64 p.blinks, .int .i64 p.recl, .bool p.lock, .bool p.rest]
set_option maxHeartbeats 4000000 in
set_option maxRecDepth 100000 in
theorem ring_rests (p : Phs) (r : Rn) (w : World) :
    Calls Try.prog 40 #[PqV p, .agg (RuA r)] w fun e w' => e = .returned (.bool (restsM p r)) ∧ Below w.heap.size w w' := by
  unfold restsM PqV
  cases n1 : (r.fs == 1) <;> cases n2 : (r.fs == 2)
  all_goals (try (exfalso; simp at n1 n2; omega))
  all_goals
    cases n3 : p.rest <;> cases n4 : decide (p.min ≤ r.t) <;> cases n5 : (r.l == 0)
    all_goals
      go_enter Try.func40, Try.ntmps40
      go_wp2
      go_ret
      exact ⟨rfl, by (repeat' (first | (with_reducible exact Below.refl _ _) | (with_reducible assumption) | (with_reducible refine Below.setCell ?_ ?_ _) | (with_reducible refine Below.alloc ?_ ?_ _) | (with_reducible refine Below.drew ?_) | (with_reducible refine Up.base _ ?_ ?_) | (with_reducible exact LeSize.out) | exact LeSize.out | exact Nat.le_add_right_of_le LeSize.out | exact Nat.le_add_right_of_le (Nat.le_add_right_of_le LeSize.out) | (with_reducible exact Nat.le_refl _) | (simp; done) | (simp; omega)))⟩
end
section
open Go.RowKit
set_option linter.unusedVariables false
attribute [local go_sem] IsBlk.cell IsBlk.frozen

def settM (ph nx : Int) (bu : Bool) (rn : Nat → Rn) : Bool := decide (nx < 0) && (!bu || (((rn ph.toNat).c == 1) && (rn ph.toNat).d))
set_option maxHeartbeats 4000000 in
set_option maxRecDepth 100000 in
theorem ring_settled (ph nx : Int) (bu : Bool) (R : Array Value) (rn : Nat → Rn) (w : World) (hR : IsRuns R rn) (hb : bu = true → 0 ≤ ph ∧ ph < 8) :
    Calls Try.prog 46 #[.agg #[.int .i64 ph, .int .i64 nx, .bool bu], .agg R] w fun e w' => e = .returned (.bool (settM ph nx bu rn)) ∧ Below w.heap.size w w' := by
  haveI : Sz96 R := ⟨hR.1⟩
  unfold settM
  cases n1 : decide (nx < 0)
  · clear hR hb
    go_enter Try.func46, Try.ntmps46
    go_wp2
    go_ret
    exact ⟨rfl, by (repeat' (first | (with_reducible exact Below.refl _ _) | (with_reducible assumption) | (with_reducible refine Below.setCell ?_ ?_ _) | (with_reducible refine Below.alloc ?_ ?_ _) | (with_reducible refine Below.drew ?_) | (with_reducible refine Up.base _ ?_ ?_) | (with_reducible exact LeSize.out) | exact LeSize.out | exact Nat.le_add_right_of_le LeSize.out | exact Nat.le_add_right_of_le (Nat.le_add_right_of_le LeSize.out) | (with_reducible exact Nat.le_refl _) | (simp; done) | (simp; omega)))⟩
  · cases bu
    · clear hR hb
      go_enter Try.func46, Try.ntmps46
      go_wp2
      go_ret
      exact ⟨rfl, by (repeat' (first | (with_reducible exact Below.refl _ _) | (with_reducible assumption) | (with_reducible refine Below.setCell ?_ ?_ _) | (with_reducible refine Below.alloc ?_ ?_ _) | (with_reducible refine Below.drew ?_) | (with_reducible refine Up.base _ ?_ ?_) | (with_reducible exact LeSize.out) | exact LeSize.out | exact Nat.le_add_right_of_le LeSize.out | exact Nat.le_add_right_of_le (Nat.le_add_right_of_le LeSize.out) | (with_reducible exact Nat.le_refl _) | (simp; done) | (simp; omega)))⟩
    · obtain ⟨h0, h8⟩ := hb rfl
      obtain ⟨k, rfl⟩ := Int.eq_ofNat_of_zero_le h0
      have hk : k < 8 := by omega
      have c0 := hR.2 k hk 0 (by omega)
      have c7 := hR.2 k hk 7 (by omega)
      rw [Int.toNat_natCast]
      generalize rn k = r at *
      simp only [RuA, Nat.add_zero, List.getElem?_toArray, List.getElem?_cons_zero, List.getElem?_cons_succ] at c0 c7
      clear hR hb
      cases n2 : (r.c == 1) <;> cases n3 : r.d
      all_goals
        rw [n3] at c7
        go_enter Try.func46, Try.ntmps46
        go_wp2
        go_ret
        exact ⟨rfl, by (repeat' (first | (with_reducible exact Below.refl _ _) | (with_reducible assumption) | (with_reducible refine Below.setCell ?_ ?_ _) | (with_reducible refine Below.alloc ?_ ?_ _) | (with_reducible refine Below.drew ?_) | (with_reducible refine Up.base _ ?_ ?_) | (with_reducible exact LeSize.out) | exact LeSize.out | exact Nat.le_add_right_of_le LeSize.out | exact Nat.le_add_right_of_le (Nat.le_add_right_of_le LeSize.out) | (with_reducible exact Nat.le_refl _) | (simp; done) | (simp; omega)))⟩
end
section
open Go.RowKit
set_option linter.unusedVariables false
attribute [local go_sem] IsBlk.cell IsBlk.frozen

/-- The phase at a place of a row; -1. -/
def atR (r : List Int) (i : Int) : Int := if 0 ≤ i ∧ i < r.length ∧ ofM [r.getD i.toNat 0] ≠ 0 then r.getD i.toNat 0 else -1
def atZ (gr : List (List Int × List Int)) (g k i : Int) : Int := atR (rowZ gr g k) i
theorem atR_out {r : List Int} {i : Int} (h : ¬ (0 ≤ i ∧ i < r.length)) : atR r i = -1 := by
  unfold atR; rw [if_neg]; exact fun h2 => h ⟨h2.1, h2.2.1⟩
theorem atR_in {r : List Int} {n : Nat} (h : n < r.length) : atR r n = if ofM [r.getD n 0] = 0 then -1 else r.getD n 0 := by
  unfold atR
  rw [Int.toNat_natCast]
  by_cases h2 : ofM [r.getD n 0] = 0
  · rw [if_pos h2, if_neg (fun h3 => h3.2.2 h2)]
  · rw [if_neg h2, if_pos ⟨by omega, by omega, h2⟩]
set_option maxHeartbeats 8000000 in
set_option maxRecDepth 100000 in
theorem ring_at (T : Array Value) (t : Tab) (g k i : Int) (w : World) (hT : IsTab w T t) :
    Calls Try.prog 43 #[.agg T, .int .i64 g, .int .i64 k, .int .i64 i] w fun e w' => e = .returned (.int .i64 (atZ t.gr g k i)) ∧ Below w.heap.size w w' := by
  haveI : Sz131 T := ⟨hT.size⟩
  obtain ⟨gv, d, r, b, hTe, hI⟩ := hT
  obtain ⟨ga, gcap, H, rfl, hrow, hints⟩ := hI.gr
  have t104 : T[104]? = some (.slice ga t.gr.length gcap) := by rw [hTe, arrF_get _ _ _ (by omega)]; rfl
  have lg := hI.lg
  have lr := hI.lr
  clear hI hTe
  unfold atZ rowZ
  by_cases h : 0 ≤ g ∧ g < t.gr.length ∧ 0 ≤ k ∧ k ≤ 1
  · rw [if_pos h]
    obtain ⟨n, rfl⟩ := Int.eq_ofNat_of_zero_le h.1
    obtain ⟨m, rfl⟩ := Int.eq_ofNat_of_zero_le h.2.2.1
    have hn : n < t.gr.length := by omega
    have hm : m < 2 := by omega
    simp only [Int.toNat_natCast]
    obtain ⟨gb, goff, rfl, hgb, hgc⟩ := hrow.resolve_left (by omega)
    have hck : w.cell? ⟨gb, goff + n * 2 + m, none⟩ = some (.slice (H n m).1 (rowOf t.gr n m).length (H n m).2) := hgc n hn m hm
    haveI : LeSize (gb + 1) w := ⟨hgb⟩
    have h1 : (n : Int) < t.gr.length := h.2.1
    have h2 : (m : Int) ≤ 1 := h.2.2.2
    have h3 : (m : Int) < 2 := by omega
    have hi0 := hints n hn m hm
    have hl := lr n m
    generalize rowOf t.gr n m = row at *
    generalize (H n m).1 = A at *
    generalize (H n m).2 = c at *
    clear hgc hrow hints h lr
    have HI := Lib.hid hi0
    clear hi0
    by_cases hi : 0 ≤ i ∧ i < row.length
    · obtain ⟨j, rfl⟩ := Int.eq_ofNat_of_zero_le hi.1
      have hj : j < row.length := by omega
      have hjI : (j : Int) < row.length := hi.2
      rw [atR_in hj]
      obtain ⟨rb, roff, rfl, hrb, hrc⟩ := HI.out.cell (by omega)
      haveI : LeSize (rb + 1) w := ⟨hrb⟩
      have cj := hrc j hj
      generalize row.getD j 0 = x at *
      clear hrc hi
      by_cases hz : ofM [x] = 0
      · have e1 : (ofM [x] == 0) = true := by simp [hz]
        rw [if_pos hz]
        have HZ := Lib.hid hz
        clear hz
        go_enter Try.func43, Try.ntmps43
        go_wp2_with (go_at_call 58; refine (sof_any _ 1 [x] _ (by simp) (ints_new _ (by simp) rfl)).mono ?_; rintro e w' ⟨rfl, rfl⟩)
        go_ret
        exact ⟨rfl, by (repeat' (first | (with_reducible exact Below.refl _ _) | (with_reducible assumption) | (with_reducible refine Below.setCell ?_ ?_ _) | (with_reducible refine Below.alloc ?_ ?_ _) | (with_reducible refine Below.drew ?_) | (with_reducible refine Up.base _ ?_ ?_) | (with_reducible exact LeSize.out) | exact LeSize.out | exact Nat.le_add_right_of_le LeSize.out | exact Nat.le_add_right_of_le (Nat.le_add_right_of_le LeSize.out) | (with_reducible exact Nat.le_refl _) | (simp; done) | (simp; omega)))⟩
      · have e1 : (ofM [x] == 0) = false := by simp [hz]
        rw [if_neg hz]
        have HZ := Lib.hid hz
        clear hz
        go_enter Try.func43, Try.ntmps43
        go_wp2_with (go_at_call 58; refine (sof_any _ 1 [x] _ (by simp) (ints_new _ (by simp) rfl)).mono ?_; rintro e w' ⟨rfl, rfl⟩)
        go_ret
        exact ⟨rfl, by (repeat' (first | (with_reducible exact Below.refl _ _) | (with_reducible assumption) | (with_reducible refine Below.setCell ?_ ?_ _) | (with_reducible refine Below.alloc ?_ ?_ _) | (with_reducible refine Below.drew ?_) | (with_reducible refine Up.base _ ?_ ?_) | (with_reducible exact LeSize.out) | exact LeSize.out | exact Nat.le_add_right_of_le LeSize.out | exact Nat.le_add_right_of_le (Nat.le_add_right_of_le LeSize.out) | (with_reducible exact Nat.le_refl _) | (simp; done) | (simp; omega)))⟩
    · rw [atR_out hi]
      rcases (show i < 0 ∨ (0 ≤ i ∧ (row.length : Int) ≤ i) by omega) with h5 | ⟨h5, h6⟩
      all_goals
        clear hi
        go_enter Try.func43, Try.ntmps43
        go_wp2
        go_ret
        exact ⟨rfl, by (repeat' (first | (with_reducible exact Below.refl _ _) | (with_reducible assumption) | (with_reducible refine Below.setCell ?_ ?_ _) | (with_reducible refine Below.alloc ?_ ?_ _) | (with_reducible refine Below.drew ?_) | (with_reducible refine Up.base _ ?_ ?_) | (with_reducible exact LeSize.out) | exact LeSize.out | exact Nat.le_add_right_of_le LeSize.out | exact Nat.le_add_right_of_le (Nat.le_add_right_of_le LeSize.out) | (with_reducible exact Nat.le_refl _) | (simp; done) | (simp; omega)))⟩
  · rw [if_neg h, atR_out (by simp)]
    clear hrow hints
    rcases (show g < 0 ∨ (0 ≤ g ∧ (t.gr.length : Int) ≤ g) ∨ (0 ≤ g ∧ g < t.gr.length ∧ k < 0) ∨ (0 ≤ g ∧ g < t.gr.length ∧ 0 ≤ k ∧ 1 < k) by omega) with h1 | ⟨h1, h2⟩ | ⟨h1, h2, h3⟩ | ⟨h1, h2, h3, h4⟩
    all_goals
      clear h
      go_enter Try.func43, Try.ntmps43
      go_wp2
      go_ret
      exact ⟨rfl, by (repeat' (first | (with_reducible exact Below.refl _ _) | (with_reducible assumption) | (with_reducible refine Below.setCell ?_ ?_ _) | (with_reducible refine Below.alloc ?_ ?_ _) | (with_reducible refine Below.drew ?_) | (with_reducible refine Up.base _ ?_ ?_) | (with_reducible exact LeSize.out) | exact LeSize.out | exact Nat.le_add_right_of_le LeSize.out | exact Nat.le_add_right_of_le (Nat.le_add_right_of_le LeSize.out) | (with_reducible exact Nat.le_refl _) | (simp; done) | (simp; omega)))⟩
end
section
open Go.RowKit
set_option linter.unusedVariables false
attribute [local go_sem] IsBlk.cell IsBlk.frozen

set_option maxHeartbeats 8000000 in
set_option maxRecDepth 100000 in
theorem ring_now0 (T : Array Value) (t : Tab) (g a0 a1 : Int) (x : Bool) (w : World) (hT : IsTab w T t) :
    Calls Try.prog 36 #[.agg T, .agg #[.int .i64 g, .int .i64 a0, .int .i64 a1, .bool x], .int .i64 0] w fun e w' => e = .returned (.int .i64 (atZ t.gr g 0 a0)) ∧ Below w.heap.size w w' := by
  haveI : Sz131 T := ⟨hT.size⟩
  have HT : Hid (∀ w', Below w.heap.size w w' → IsTab w' T t) := Lib.hid fun w' hb => hT.below hb (Nat.le_refl _)
  clear hT
  go_enter Try.func36, Try.ntmps36
  go_upto_region 3 with fail
  (refine wp_region_up_tail 8 (by kernel_rfl) (by kernel_rfl) ?_; simp only [List.take_succ_cons, List.take_zero, List.drop_succ_cons, List.drop_zero]; (repeat (first | (go_big_quiet_want; refine q_ltab rfl rfl ?_; simp only [Act.put, List.setIfInBounds_toArray, List.set_cons_succ, List.set_cons_zero]; go_big_quiet_on) | go_big_quiet_step ((first | fail)))); refine wpQuiet_nil ?_; rintro _ ⟨u, rfl⟩)
  go_wp2_with (first | (go_at_call 43; refine (Up.run (ring_at _ _ _ _ _ _ (HT.out _ (by (repeat' (first | (with_reducible exact Below.refl _ _) | (with_reducible assumption) | (with_reducible refine Below.setCell ?_ ?_ _) | (with_reducible refine Below.alloc ?_ ?_ _) | (with_reducible refine Below.drew ?_) | (with_reducible refine Up.base _ ?_ ?_) | (with_reducible exact LeSize.out) | exact LeSize.out | exact Nat.le_add_right_of_le LeSize.out | exact Nat.le_add_right_of_le (Nat.le_add_right_of_le LeSize.out) | (with_reducible exact Nat.le_refl _) | (simp; done) | (simp; omega))))))).mono ?_; rintro e w' ⟨rfl, uat, rfl⟩))
  go_ret
  exact ⟨rfl, by (repeat' (first | (with_reducible exact Below.refl _ _) | (with_reducible assumption) | (with_reducible refine Below.setCell ?_ ?_ _) | (with_reducible refine Below.alloc ?_ ?_ _) | (with_reducible refine Below.drew ?_) | (with_reducible refine Up.base _ ?_ ?_) | (with_reducible exact LeSize.out) | exact LeSize.out | exact Nat.le_add_right_of_le LeSize.out | exact Nat.le_add_right_of_le (Nat.le_add_right_of_le LeSize.out) | (with_reducible exact Nat.le_refl _) | (simp; done) | (simp; omega)))⟩
set_option maxHeartbeats 8000000 in
set_option maxRecDepth 100000 in
theorem ring_now1 (T : Array Value) (t : Tab) (g a0 a1 : Int) (x : Bool) (w : World) (hT : IsTab w T t) :
    Calls Try.prog 36 #[.agg T, .agg #[.int .i64 g, .int .i64 a0, .int .i64 a1, .bool x], .int .i64 1] w fun e w' => e = .returned (.int .i64 (atZ t.gr g 1 a1)) ∧ Below w.heap.size w w' := by
  haveI : Sz131 T := ⟨hT.size⟩
  have HT : Hid (∀ w', Below w.heap.size w w' → IsTab w' T t) := Lib.hid fun w' hb => hT.below hb (Nat.le_refl _)
  clear hT
  go_enter Try.func36, Try.ntmps36
  go_upto_region 3 with fail
  (refine wp_region_up_tail 8 (by kernel_rfl) (by kernel_rfl) ?_; simp only [List.take_succ_cons, List.take_zero, List.drop_succ_cons, List.drop_zero]; (repeat (first | (go_big_quiet_want; refine q_ltab rfl rfl ?_; simp only [Act.put, List.setIfInBounds_toArray, List.set_cons_succ, List.set_cons_zero]; go_big_quiet_on) | go_big_quiet_step ((first | fail)))); refine wpQuiet_nil ?_; rintro _ ⟨u, rfl⟩)
  go_wp2_with (first | (go_at_call 43; refine (Up.run (ring_at _ _ _ _ _ _ (HT.out _ (by (repeat' (first | (with_reducible exact Below.refl _ _) | (with_reducible assumption) | (with_reducible refine Below.setCell ?_ ?_ _) | (with_reducible refine Below.alloc ?_ ?_ _) | (with_reducible refine Below.drew ?_) | (with_reducible refine Up.base _ ?_ ?_) | (with_reducible exact LeSize.out) | exact LeSize.out | exact Nat.le_add_right_of_le LeSize.out | exact Nat.le_add_right_of_le (Nat.le_add_right_of_le LeSize.out) | (with_reducible exact Nat.le_refl _) | (simp; done) | (simp; omega))))))).mono ?_; rintro e w' ⟨rfl, uat, rfl⟩))
  go_ret
  exact ⟨rfl, by (repeat' (first | (with_reducible exact Below.refl _ _) | (with_reducible assumption) | (with_reducible refine Below.setCell ?_ ?_ _) | (with_reducible refine Below.alloc ?_ ?_ _) | (with_reducible refine Below.drew ?_) | (with_reducible refine Up.base _ ?_ ?_) | (with_reducible exact LeSize.out) | exact LeSize.out | exact Nat.le_add_right_of_le LeSize.out | exact Nat.le_add_right_of_le (Nat.le_add_right_of_le LeSize.out) | (with_reducible exact Nat.le_refl _) | (simp; done) | (simp; omega)))⟩
end
end Go.Proofs.Ytbnbakienajhmaa
