/- The contracts of May at a table that has one phase alone, and of Fits. -/
import Derived.Test.YtmapdkhcfejkaaaPlace
import Derived.Test.YtmapdkhcfejkaaaCnt
import Derived.Test.YtmapdkhcfejkaaaBlk
import Derived.Test.YtmapdkhcfejkaaaApp
namespace Go.Proofs.Ytmapdkhcfejkaaa
open Go.RowKit
set_option linter.unusedVariables false

def uptoM (m : Int) (zs : List Int) : Bool := zs.all fun x => decide (0 ≤ x ∧ x ≤ m)
theorem uptoM_cons (m x : Int) (zs : List Int) : uptoM m (x :: zs) = (decide (0 ≤ x ∧ x ≤ m) && uptoM m zs) := rfl
theorem uptoM_iff {m : Int} {zs : List Int} : uptoM m zs = true ↔ ∀ i, i < zs.length → 0 ≤ zs.getD i 0 ∧ zs.getD i 0 ≤ m := by
  unfold uptoM
  rw [List.all_eq_true]
  constructor
  · intro h i hi
    have := h _ (List.getElem_mem hi)
    simpa [List.getD, hi] using this
  · intro h x hx
    obtain ⟨i, hi, rfl⟩ := List.getElem_of_mem hx
    have := h i hi
    simpa [List.getD, hi] using this
theorem uptoM_no {m : Int} {zs : List Int} (i : Nat) (hi : i < zs.length) (h : zs.getD i 0 < 0 ∨ m < zs.getD i 0) : uptoM m zs = false := by
  cases hc : uptoM m zs with
  | false => rfl
  | true => have := uptoM_iff.1 hc i hi; omega
set_option maxHeartbeats 1000000 in
theorem upto_any (a : Option Addr) (cap : Nat) (zs : List Int) (m : Int) (w : World) (hl : zs.length ≤ 1000) (hi : Ints w a zs) :
    Calls Try.prog 63 #[.slice a zs.length cap, .int .i64 m] w fun e w' => e = .returned (.bool (uptoM m zs)) ∧ w = w' := by
  have HI := Lib.hid hi
  clear hi
  go_enter Try.func63, Try.ntmps63
  go_wp2
  go_loop [5] (fun i => ∃ k : Nat, k ≤ zs.length ∧ i = .int .i64 k ∧ Hid (∀ j, j < k → 0 ≤ zs.getD j 0 ∧ zs.getD j 0 ≤ m)) (fun i => zs.length - (intOf i).toNat)
  case atStart => exact ⟨0, Nat.zero_le _, rfl, Lib.hid fun j hj => by omega⟩
  case round =>
    obtain ⟨k, hk, rfl, hs⟩ := hrel
    by_cases hlt : k < zs.length
    · obtain ⟨b, off, rfl, hbs, hc⟩ := HI.out.cell (by omega)
      have hcell := hc k hlt
      clear hc
      generalize hz : zs.getD k 0 = x at *
      have HZ := Lib.hid hz
      clear hz
      by_cases h1 : x < 0
      · go_wp2
        go_ret
        exact ⟨ret_bool (uptoM_no k hlt (by rw [HZ.out]; omega)).symm, rfl⟩
      · by_cases h2 : m < x
        · go_wp2
          go_ret
          exact ⟨ret_bool (uptoM_no k hlt (by rw [HZ.out]; omega)).symm, rfl⟩
        · go_wp2
          go_round
          case rel => exact ⟨k + 1, by omega, by go_num, Lib.hid fun j hj => by
            by_cases hjk : j = k
            · subst hjk; rw [HZ.out]; omega
            · exact hs.out j (by omega)⟩
          case measure => simp [intOf]; omega
    · go_wp2
      go_ret
      exact ⟨ret_bool (uptoM_iff.2 fun i hi => hs.out i (by omega)).symm, rfl⟩
set_option maxHeartbeats 1000000 in
theorem times_any (a : Option Addr) (cap : Nat) (zs : List Int) (w : World) (hl : zs.length ≤ 1000) (hi : Ints w a zs) :
    Calls Try.prog 62 #[.slice a zs.length cap] w fun e w' => e = .returned (.bool (uptoM 9999 zs)) ∧ w = w' := by
  have HI := Lib.hid hi
  clear hi
  go_enter Try.func62, Try.ntmps62
  go_wp2
  go_loop [3] (fun i => ∃ k : Nat, k ≤ zs.length ∧ i = .int .i64 k ∧ Hid (∀ j, j < k → 0 ≤ zs.getD j 0 ∧ zs.getD j 0 ≤ 9999)) (fun i => zs.length - (intOf i).toNat)
  case atStart => exact ⟨0, Nat.zero_le _, rfl, Lib.hid fun j hj => by omega⟩
  case round =>
    obtain ⟨k, hk, rfl, hs⟩ := hrel
    by_cases hlt : k < zs.length
    · obtain ⟨b, off, rfl, hbs, hc⟩ := HI.out.cell (by omega)
      have hcell := hc k hlt
      clear hc
      generalize hz : zs.getD k 0 = x at *
      have HZ := Lib.hid hz
      clear hz
      by_cases h1 : x < 0
      · go_wp2
        go_ret
        exact ⟨ret_bool (uptoM_no k hlt (by rw [HZ.out]; omega)).symm, rfl⟩
      · by_cases h2 : 9999 < x
        · go_wp2
          go_ret
          exact ⟨ret_bool (uptoM_no k hlt (by rw [HZ.out]; omega)).symm, rfl⟩
        · go_wp2
          go_round
          case rel => exact ⟨k + 1, by omega, by go_num, Lib.hid fun j hj => by
            by_cases hjk : j = k
            · subst hjk; rw [HZ.out]; omega
            · exact hs.out j (by omega)⟩
          case measure => simp [intOf]; omega
    · go_wp2
      go_ret
      exact ⟨ret_bool (uptoM_iff.2 fun i hi => hs.out i (by omega)).symm, rfl⟩
theorem times9_any (b : Nat) (x1 x2 x3 x4 x5 x6 x7 x8 x9 : Int) (w : World) (hi : Ints w (some ⟨b, 0, none⟩) [x1, x2, x3, x4, x5, x6, x7, x8, x9]) :
    Calls Try.prog 62 #[.slice (some ⟨b, 0, none⟩) 9 9] w fun e w' => e = .returned (.bool (uptoM 9999 [x1, x2, x3, x4, x5, x6, x7, x8, x9])) ∧ w = w' :=
  times_any _ 9 _ w (by simp) hi
theorem upto1_any (b : Nat) (x1 m : Int) (w : World) (hi : Ints w (some ⟨b, 0, none⟩) [x1]) :
    Calls Try.prog 63 #[.slice (some ⟨b, 0, none⟩) 1 1, .int .i64 m] w fun e w' => e = .returned (.bool (uptoM m [x1])) ∧ w = w' :=
  upto_any _ 1 [x1] m w (by simp) hi
def phaseM (pmin pgap pmax ptop pstep pyel pred pwalk pblinks prec : Int) : Bool := uptoM 9999 [pmin, pgap, pmax, ptop, pstep, pyel, pred, pwalk, pblinks] && uptoM 3 [prec]
set_option maxHeartbeats 1000000 in
theorem rphase_any (pon : Bool) (pmin pgap pmax ptop pstep pyel pred pwalk pblinks prec : Int) (plock prest : Bool) (w : World) :
    Calls Try.prog 64 #[.agg #[.bool pon, .int .i64 pmin, .int .i64 pgap, .int .i64 pmax, .int .i64 ptop, .int .i64 pstep, .int .i64 pyel, .int .i64 pred, .int .i64 pwalk, .int .i64 pblinks, .int .i64 prec, .bool plock, .bool prest]] w fun e w' => e = .returned (.bool (phaseM pmin pgap pmax ptop pstep pyel pred pwalk pblinks prec)) ∧ Below w.heap.size w w' := by
  cases h1 : uptoM 9999 [pmin, pgap, pmax, ptop, pstep, pyel, pred, pwalk, pblinks]
  all_goals
    go_enter Try.func64, Try.ntmps64
    go_wp2_with (first
    | (go_at_call 62; refine (times9_any _ _ _ _ _ _ _ _ _ _ _ (ints_new _ (by simp) rfl)).mono ?_; rintro e w' ⟨rfl, rfl⟩)
    | (go_at_call 63; refine (upto1_any _ _ _ _ (ints_new _ (by simp) rfl)).mono ?_; rintro e w' ⟨rfl, rfl⟩))
    go_ret
    exact ⟨ret_bool (by unfold phaseM; rw [h1]; rfl), by (repeat' (first | (with_reducible exact Below.refl _ _) | (with_reducible assumption) | (with_reducible refine Below.setCell ?_ ?_ _) | (with_reducible refine Below.alloc ?_ ?_ _) | (with_reducible refine Below.drew ?_) | (with_reducible refine Up.base _ ?_ ?_) | (with_reducible exact LeSize.out) | exact LeSize.out | exact Nat.le_add_right_of_le LeSize.out | exact Nat.le_add_right_of_le (Nat.le_add_right_of_le LeSize.out) | (with_reducible exact Nat.le_refl _) | (simp; done) | (simp; omega)))⟩
theorem times5z_any (b : Nat) (w : World) (hi : Ints w (some ⟨b, 0, none⟩) [0, 0, 0, 0, 0]) :
    Calls Try.prog 62 #[.slice (some ⟨b, 0, none⟩) 5 5] w fun e w' => e = .returned (.bool true) ∧ w = w' :=
  times_any _ 5 _ w (by simp) hi
theorem upto2z_any (b : Nat) (w : World) (hi : Ints w (some ⟨b, 0, none⟩) [0, 0]) :
    Calls Try.prog 63 #[.slice (some ⟨b, 0, none⟩) 2 2, .int .i64 2147483647] w fun e w' => e = .returned (.bool true) ∧ w = w' :=
  upto_any _ 2 [0, 0] _ w (by simp) hi
theorem upto8z_any (b o : Nat) (m : Int) (w : World) (hm : uptoM m [0, 0, 0, 0, 0, 0, 0, 0] = true) (hb : b < w.heap.size) (h0 : ∀ i, i < 8 → w.cell? ⟨b, o + i, none⟩ = some (.int .i64 0)) :
    Calls Try.prog 63 #[.slice (some ⟨b, o, none⟩) 8 8, .int .i64 m] w fun e w' => e = .returned (.bool true) ∧ w = w' := by
  have := upto_any (some ⟨b, o, none⟩) 8 [0, 0, 0, 0, 0, 0, 0, 0] m w (by simp) (.inr ⟨b, o, rfl, hb, fun i hi => by
    rw [h0 i (by simpa using hi)]
    have : i < 8 := by simpa using hi
    match i, this with
    | 0, _ => rfl
    | 1, _ => rfl
    | 2, _ => rfl
    | 3, _ => rfl
    | 4, _ => rfl
    | 5, _ => rfl
    | 6, _ => rfl
    | 7, _ => rfl⟩)
  rwa [hm] at this
theorem zeros_of {w : World} {b o : Nat} (c0 : w.cell? ⟨b, o, none⟩ = some (.int .i64 0)) (c1 : w.cell? ⟨b, o + 1, none⟩ = some (.int .i64 0)) (c2 : w.cell? ⟨b, o + 2, none⟩ = some (.int .i64 0)) (c3 : w.cell? ⟨b, o + 3, none⟩ = some (.int .i64 0))
    (c4 : w.cell? ⟨b, o + 4, none⟩ = some (.int .i64 0)) (c5 : w.cell? ⟨b, o + 5, none⟩ = some (.int .i64 0)) (c6 : w.cell? ⟨b, o + 6, none⟩ = some (.int .i64 0)) (c7 : w.cell? ⟨b, o + 7, none⟩ = some (.int .i64 0)) : ∀ i, i < 8 → w.cell? ⟨b, o + i, none⟩ = some (.int .i64 0) := fun i hi =>
  match i, hi with
  | 0, _ => c0
  | 1, _ => c1
  | 2, _ => c2
  | 3, _ => c3
  | 4, _ => c4
  | 5, _ => c5
  | 6, _ => c6
  | 7, _ => c7
theorem zero_cells {w : World} {b o : Nat} {cs : Array Value} {t : TypeId} (h : w.heap[b]? = some (.cells cs t)) (hz : (List.range 8).all (fun i => match cs[o + i]? with | some (.int .i64 0) => true | _ => false) = true) : ∀ i, i < 8 → w.cell? ⟨b, o + i, none⟩ = some (.int .i64 0) := by
  intro i hi
  have := List.all_eq_true.1 hz i (List.mem_range.2 hi)
  refine laid_cell h _ ?_
  generalize cs[o + i]? = x at *
  split at this <;> first | rfl | cases this
def TabZ (pon : Bool) (pmin pgap pmax ptop pstep pyel pred pwalk pblinks prec : Int) (plock prest : Bool) : Array Value := #[.bool pon, .int .i64 pmin, .int .i64 pgap, .int .i64 pmax, .int .i64 ptop, .int .i64 pstep, .int .i64 pyel, .int .i64 pred, .int .i64 pwalk, .int .i64 pblinks, .int .i64 prec, .bool plock, .bool prest, .bool false, .int .i64 0, .int .i64 0, .int .i64 0, .int .i64 0, .int .i64 0, .int .i64 0, .int .i64 0, .int .i64 0, .int .i64 0, .int .i64 0, .bool false, .bool false, .bool false, .int .i64 0, .int .i64 0, .int .i64 0, .int .i64 0, .int .i64 0, .int .i64 0, .int .i64 0, .int .i64 0, .int .i64 0, .int .i64 0, .bool false, .bool false, .bool false, .int .i64 0, .int .i64 0, .int .i64 0, .int .i64 0, .int .i64 0, .int .i64 0, .int .i64 0, .int .i64 0, .int .i64 0, .int .i64 0, .bool false, .bool false, .bool false, .int .i64 0, .int .i64 0, .int .i64 0, .int .i64 0, .int .i64 0, .int .i64 0, .int .i64 0, .int .i64 0, .int .i64 0, .int .i64 0, .bool false, .bool false, .bool false, .int .i64 0, .int .i64 0, .int .i64 0, .int .i64 0, .int .i64 0, .int .i64 0, .int .i64 0, .int .i64 0, .int .i64 0, .int .i64 0, .bool false, .bool false, .bool false, .int .i64 0, .int .i64 0, .int .i64 0, .int .i64 0, .int .i64 0, .int .i64 0, .int .i64 0, .int .i64 0, .int .i64 0, .int .i64 0, .bool false, .bool false, .bool false, .int .i64 0, .int .i64 0, .int .i64 0, .int .i64 0, .int .i64 0, .int .i64 0, .int .i64 0, .int .i64 0, .int .i64 0, .int .i64 0, .bool false, .bool false, .slice none 0 0, .int .i64 0, .int .i64 0, .int .i64 0, .int .i64 0, .int .i64 0, .int .i64 0, .int .i64 0, .int .i64 0, .slice none 0 0, .slice none 0 0, .slice none 0 0, .int .i64 0, .int .i64 0, .int .i64 0, .int .i64 0, .int .i64 0, .int .i64 0, .int .i64 0, .int .i64 0, .int .i64 0, .int .i64 0, .int .i64 0, .int .i64 0, .int .i64 0, .int .i64 0, .int .i64 0]
theorem phase0_any (w : World) :
    Calls Try.prog 64 #[.agg #[.bool false, .int .i64 0, .int .i64 0, .int .i64 0, .int .i64 0, .int .i64 0, .int .i64 0, .int .i64 0, .int .i64 0, .int .i64 0, .int .i64 0, .bool false, .bool false]] w fun e w' => e = .returned (.bool true) ∧ Below w.heap.size w w' :=
  rphase_any false 0 0 0 0 0 0 0 0 0 0 false false w
def MaySt (w wr : World) (pon : Bool) (pmin pgap pmax ptop pstep pyel pred pwalk pblinks prec : Int) (plock prest : Bool) : Prop := Below w.heap.size w wr ∧ wr.heap[w.heap.size]? = some (.cells (TabZ pon pmin pgap pmax ptop pstep pyel pred pwalk pblinks prec plock prest) 32)
set_option maxHeartbeats 8000000 in
set_option maxRecDepth 100000 in
theorem mayZ_any (pon : Bool) (pmin pgap pmax ptop pstep pyel pred pwalk pblinks prec : Int) (plock prest : Bool) (w : World) :
    Calls Try.prog 40 #[.agg (TabZ pon pmin pgap pmax ptop pstep pyel pred pwalk pblinks prec plock prest)] w fun e w' => e = .returned (.bool (phaseM pmin pgap pmax ptop pstep pyel pred pwalk pblinks prec)) ∧ Below w.heap.size w w' := by
  obtain ⟨T, hT⟩ : ∃ T, TabZ pon pmin pgap pmax ptop pstep pyel pred pwalk pblinks prec plock prest = T := ⟨_, rfl⟩
  have HT := Lib.hid hT
  rw [hT]
  clear hT
  have d1 : T[104]? = some (.slice none 0 0) := by rw [← HT.out]; rfl
  have d3 : T[113]? = some (.slice none 0 0) := by rw [← HT.out]; rfl
  have d4 : T[114]? = some (.slice none 0 0) := by rw [← HT.out]; rfl
  have d5 : T[115]? = some (.slice none 0 0) := by rw [← HT.out]; rfl
  have d6 : T[116]? = some (.int .i64 0) := by rw [← HT.out]; rfl
  have d7 : T[117]? = some (.int .i64 0) := by rw [← HT.out]; rfl
  have d8 : T[118]? = some (.int .i64 0) := by rw [← HT.out]; rfl
  have d9 : T[119]? = some (.int .i64 0) := by rw [← HT.out]; rfl
  have d10 : T[120]? = some (.int .i64 0) := by rw [← HT.out]; rfl
  have d11 : T[129]? = some (.int .i64 0) := by rw [← HT.out]; rfl
  have d12 : T[130]? = some (.int .i64 0) := by rw [← HT.out]; rfl
  go_enter Try.func40, Try.ntmps40
  have HC : Hid (∀ i, i < 8 → T[105 + i]? = some (.int .i64 0)) := Lib.hid fun i hi => by
    rw [← HT.out]
    match i, hi with
    | 0, _ => rfl
    | 1, _ => rfl
    | 2, _ => rfl
    | 3, _ => rfl
    | 4, _ => rfl
    | 5, _ => rfl
    | 6, _ => rfl
    | 7, _ => rfl
  have HF : Hid (∀ i, i < 8 → T[121 + i]? = some (.int .i64 0)) := Lib.hid fun i hi => by
    rw [← HT.out]
    match i, hi with
    | 0, _ => rfl
    | 1, _ => rfl
    | 2, _ => rfl
    | 3, _ => rfl
    | 4, _ => rfl
    | 5, _ => rfl
    | 6, _ => rfl
    | 7, _ => rfl
  go_wp2_with (first
    | (go_at_call 62; (with_reducible refine (times5z_any _ _ ?_).mono ?_); (focus exact ints_new _ (by simp) rfl); rintro e w' ⟨rfl, rfl⟩)
    | (go_at_call 63; (with_reducible refine (upto2z_any _ _ ?_).mono ?_); (focus exact ints_new _ (by simp) rfl); rintro e w' ⟨rfl, rfl⟩)
    | (go_at_call 63; (with_reducible refine (upto8z_any _ _ _ _ ?_ ?_ ?_).mono ?_); (focus decide); (focus (first | exact LeSize.out | (simp; omega))); (focus (intro i hi; first | (simp [go_sem, (HC.out i hi)]; done) | (simp [go_sem, (HF.out i hi)]; done))); rintro e w' ⟨rfl, rfl⟩))
  go_loopw [3, 4] (fun ok i wr => ∃ k : Nat, k ≤ 8 ∧ i = .int .i64 k ∧ ok = .bool (if k = 0 then true else phaseM pmin pgap pmax ptop pstep pyel pred pwalk pblinks prec) ∧ Below w.heap.size w wr ∧ Hid (wr.heap[w.heap.size]? = some (.cells T 32))) (fun _ i _ => 8 - (intOf i).toNat)
  case atStart =>
    refine ⟨0, by omega, rfl, rfl, by (repeat' (first | (with_reducible exact Below.refl _ _) | (with_reducible assumption) | (with_reducible refine Below.setCell ?_ ?_ _) | (with_reducible refine Below.alloc ?_ ?_ _) | (with_reducible refine Below.drew ?_) | (with_reducible refine Up.base _ ?_ ?_) | (with_reducible exact LeSize.out) | exact LeSize.out | exact Nat.le_add_right_of_le LeSize.out | exact Nat.le_add_right_of_le (Nat.le_add_right_of_le LeSize.out) | (with_reducible exact Nat.le_refl _) | (simp; done) | (simp; omega))), Lib.hid ?_⟩
    simp only [heap_past, heap_alloc_here]
  case round =>
    obtain ⟨k, hk, rfl, rfl, hb, HB⟩ := hrel
    have i0 : LeSize w.heap.size wr := ⟨hb.size⟩
    have i1 : LeSize (w.heap.size + 1) wr := laid_le HB.out
    by_cases hlt : k < 8
    · rcases (show k = 0 ∨ k = 1 ∨ k = 2 ∨ k = 3 ∨ k = 4 ∨ k = 5 ∨ k = 6 ∨ k = 7 by omega) with rfl | rfl | rfl | rfl | rfl | rfl | rfl | rfl
      · have e0 : wr.cell? ⟨w.heap.size, 0, none⟩ = some (.bool pon) := laid_cell HB.out 0 (by rw [← HT.out]; rfl)
        have e1 : wr.cell? ⟨w.heap.size, 1, none⟩ = some (.int .i64 pmin) := laid_cell HB.out 1 (by rw [← HT.out]; rfl)
        have e2 : wr.cell? ⟨w.heap.size, 2, none⟩ = some (.int .i64 pgap) := laid_cell HB.out 2 (by rw [← HT.out]; rfl)
        have e3 : wr.cell? ⟨w.heap.size, 3, none⟩ = some (.int .i64 pmax) := laid_cell HB.out 3 (by rw [← HT.out]; rfl)
        have e4 : wr.cell? ⟨w.heap.size, 4, none⟩ = some (.int .i64 ptop) := laid_cell HB.out 4 (by rw [← HT.out]; rfl)
        have e5 : wr.cell? ⟨w.heap.size, 5, none⟩ = some (.int .i64 pstep) := laid_cell HB.out 5 (by rw [← HT.out]; rfl)
        have e6 : wr.cell? ⟨w.heap.size, 6, none⟩ = some (.int .i64 pyel) := laid_cell HB.out 6 (by rw [← HT.out]; rfl)
        have e7 : wr.cell? ⟨w.heap.size, 7, none⟩ = some (.int .i64 pred) := laid_cell HB.out 7 (by rw [← HT.out]; rfl)
        have e8 : wr.cell? ⟨w.heap.size, 8, none⟩ = some (.int .i64 pwalk) := laid_cell HB.out 8 (by rw [← HT.out]; rfl)
        have e9 : wr.cell? ⟨w.heap.size, 9, none⟩ = some (.int .i64 pblinks) := laid_cell HB.out 9 (by rw [← HT.out]; rfl)
        have e10 : wr.cell? ⟨w.heap.size, 10, none⟩ = some (.int .i64 prec) := laid_cell HB.out 10 (by rw [← HT.out]; rfl)
        have e11 : wr.cell? ⟨w.heap.size, 11, none⟩ = some (.bool plock) := laid_cell HB.out 11 (by rw [← HT.out]; rfl)
        have e12 : wr.cell? ⟨w.heap.size, 12, none⟩ = some (.bool prest) := laid_cell HB.out 12 (by rw [← HT.out]; rfl)
        go_wp2_with (first
    | (go_at_call 64; refine (rphase_any _ _ _ _ _ _ _ _ _ _ _ _ _ _).mono ?_; rintro e w' ⟨rfl, hB⟩))
        go_roundw
        case rel => exact ⟨1, by omega, rfl, rfl, hb.trans (hB.mono hb.size), Lib.hid (by rw [hB.block _ i1.out]; exact HB.out)⟩
        case measure => simp [intOf]
      · have e0 : wr.cell? ⟨w.heap.size, 13, none⟩ = some (.bool false) := laid_cell HB.out 13 (by rw [← HT.out]; rfl)
        have e1 : wr.cell? ⟨w.heap.size, 14, none⟩ = some (.int .i64 0) := laid_cell HB.out 14 (by rw [← HT.out]; rfl)
        have e2 : wr.cell? ⟨w.heap.size, 15, none⟩ = some (.int .i64 0) := laid_cell HB.out 15 (by rw [← HT.out]; rfl)
        have e3 : wr.cell? ⟨w.heap.size, 16, none⟩ = some (.int .i64 0) := laid_cell HB.out 16 (by rw [← HT.out]; rfl)
        have e4 : wr.cell? ⟨w.heap.size, 17, none⟩ = some (.int .i64 0) := laid_cell HB.out 17 (by rw [← HT.out]; rfl)
        have e5 : wr.cell? ⟨w.heap.size, 18, none⟩ = some (.int .i64 0) := laid_cell HB.out 18 (by rw [← HT.out]; rfl)
        have e6 : wr.cell? ⟨w.heap.size, 19, none⟩ = some (.int .i64 0) := laid_cell HB.out 19 (by rw [← HT.out]; rfl)
        have e7 : wr.cell? ⟨w.heap.size, 20, none⟩ = some (.int .i64 0) := laid_cell HB.out 20 (by rw [← HT.out]; rfl)
        have e8 : wr.cell? ⟨w.heap.size, 21, none⟩ = some (.int .i64 0) := laid_cell HB.out 21 (by rw [← HT.out]; rfl)
        have e9 : wr.cell? ⟨w.heap.size, 22, none⟩ = some (.int .i64 0) := laid_cell HB.out 22 (by rw [← HT.out]; rfl)
        have e10 : wr.cell? ⟨w.heap.size, 23, none⟩ = some (.int .i64 0) := laid_cell HB.out 23 (by rw [← HT.out]; rfl)
        have e11 : wr.cell? ⟨w.heap.size, 24, none⟩ = some (.bool false) := laid_cell HB.out 24 (by rw [← HT.out]; rfl)
        have e12 : wr.cell? ⟨w.heap.size, 25, none⟩ = some (.bool false) := laid_cell HB.out 25 (by rw [← HT.out]; rfl)
        cases hph : phaseM pmin pgap pmax ptop pstep pyel pred pwalk pblinks prec
        · go_wp2
          go_roundw
          case rel => exact ⟨2, by omega, rfl, rfl, hb, HB⟩
          case measure => simp [intOf]
        · go_wp2_with (first
    | (go_at_call 64; refine (phase0_any _).mono ?_; rintro e w' ⟨rfl, hB⟩))
          go_roundw
          case rel => exact ⟨2, by omega, rfl, rfl, hb.trans (hB.mono hb.size), Lib.hid (by rw [hB.block _ i1.out]; exact HB.out)⟩
          case measure => simp [intOf]
      · have e0 : wr.cell? ⟨w.heap.size, 26, none⟩ = some (.bool false) := laid_cell HB.out 26 (by rw [← HT.out]; rfl)
        have e1 : wr.cell? ⟨w.heap.size, 27, none⟩ = some (.int .i64 0) := laid_cell HB.out 27 (by rw [← HT.out]; rfl)
        have e2 : wr.cell? ⟨w.heap.size, 28, none⟩ = some (.int .i64 0) := laid_cell HB.out 28 (by rw [← HT.out]; rfl)
        have e3 : wr.cell? ⟨w.heap.size, 29, none⟩ = some (.int .i64 0) := laid_cell HB.out 29 (by rw [← HT.out]; rfl)
        have e4 : wr.cell? ⟨w.heap.size, 30, none⟩ = some (.int .i64 0) := laid_cell HB.out 30 (by rw [← HT.out]; rfl)
        have e5 : wr.cell? ⟨w.heap.size, 31, none⟩ = some (.int .i64 0) := laid_cell HB.out 31 (by rw [← HT.out]; rfl)
        have e6 : wr.cell? ⟨w.heap.size, 32, none⟩ = some (.int .i64 0) := laid_cell HB.out 32 (by rw [← HT.out]; rfl)
        have e7 : wr.cell? ⟨w.heap.size, 33, none⟩ = some (.int .i64 0) := laid_cell HB.out 33 (by rw [← HT.out]; rfl)
        have e8 : wr.cell? ⟨w.heap.size, 34, none⟩ = some (.int .i64 0) := laid_cell HB.out 34 (by rw [← HT.out]; rfl)
        have e9 : wr.cell? ⟨w.heap.size, 35, none⟩ = some (.int .i64 0) := laid_cell HB.out 35 (by rw [← HT.out]; rfl)
        have e10 : wr.cell? ⟨w.heap.size, 36, none⟩ = some (.int .i64 0) := laid_cell HB.out 36 (by rw [← HT.out]; rfl)
        have e11 : wr.cell? ⟨w.heap.size, 37, none⟩ = some (.bool false) := laid_cell HB.out 37 (by rw [← HT.out]; rfl)
        have e12 : wr.cell? ⟨w.heap.size, 38, none⟩ = some (.bool false) := laid_cell HB.out 38 (by rw [← HT.out]; rfl)
        cases hph : phaseM pmin pgap pmax ptop pstep pyel pred pwalk pblinks prec
        · go_wp2
          go_roundw
          case rel => exact ⟨3, by omega, rfl, rfl, hb, HB⟩
          case measure => simp [intOf]
        · go_wp2_with (first
    | (go_at_call 64; refine (phase0_any _).mono ?_; rintro e w' ⟨rfl, hB⟩))
          go_roundw
          case rel => exact ⟨3, by omega, rfl, rfl, hb.trans (hB.mono hb.size), Lib.hid (by rw [hB.block _ i1.out]; exact HB.out)⟩
          case measure => simp [intOf]
      · have e0 : wr.cell? ⟨w.heap.size, 39, none⟩ = some (.bool false) := laid_cell HB.out 39 (by rw [← HT.out]; rfl)
        have e1 : wr.cell? ⟨w.heap.size, 40, none⟩ = some (.int .i64 0) := laid_cell HB.out 40 (by rw [← HT.out]; rfl)
        have e2 : wr.cell? ⟨w.heap.size, 41, none⟩ = some (.int .i64 0) := laid_cell HB.out 41 (by rw [← HT.out]; rfl)
        have e3 : wr.cell? ⟨w.heap.size, 42, none⟩ = some (.int .i64 0) := laid_cell HB.out 42 (by rw [← HT.out]; rfl)
        have e4 : wr.cell? ⟨w.heap.size, 43, none⟩ = some (.int .i64 0) := laid_cell HB.out 43 (by rw [← HT.out]; rfl)
        have e5 : wr.cell? ⟨w.heap.size, 44, none⟩ = some (.int .i64 0) := laid_cell HB.out 44 (by rw [← HT.out]; rfl)
        have e6 : wr.cell? ⟨w.heap.size, 45, none⟩ = some (.int .i64 0) := laid_cell HB.out 45 (by rw [← HT.out]; rfl)
        have e7 : wr.cell? ⟨w.heap.size, 46, none⟩ = some (.int .i64 0) := laid_cell HB.out 46 (by rw [← HT.out]; rfl)
        have e8 : wr.cell? ⟨w.heap.size, 47, none⟩ = some (.int .i64 0) := laid_cell HB.out 47 (by rw [← HT.out]; rfl)
        have e9 : wr.cell? ⟨w.heap.size, 48, none⟩ = some (.int .i64 0) := laid_cell HB.out 48 (by rw [← HT.out]; rfl)
        have e10 : wr.cell? ⟨w.heap.size, 49, none⟩ = some (.int .i64 0) := laid_cell HB.out 49 (by rw [← HT.out]; rfl)
        have e11 : wr.cell? ⟨w.heap.size, 50, none⟩ = some (.bool false) := laid_cell HB.out 50 (by rw [← HT.out]; rfl)
        have e12 : wr.cell? ⟨w.heap.size, 51, none⟩ = some (.bool false) := laid_cell HB.out 51 (by rw [← HT.out]; rfl)
        cases hph : phaseM pmin pgap pmax ptop pstep pyel pred pwalk pblinks prec
        · go_wp2
          go_roundw
          case rel => exact ⟨4, by omega, rfl, rfl, hb, HB⟩
          case measure => simp [intOf]
        · go_wp2_with (first
    | (go_at_call 64; refine (phase0_any _).mono ?_; rintro e w' ⟨rfl, hB⟩))
          go_roundw
          case rel => exact ⟨4, by omega, rfl, rfl, hb.trans (hB.mono hb.size), Lib.hid (by rw [hB.block _ i1.out]; exact HB.out)⟩
          case measure => simp [intOf]
      · have e0 : wr.cell? ⟨w.heap.size, 52, none⟩ = some (.bool false) := laid_cell HB.out 52 (by rw [← HT.out]; rfl)
        have e1 : wr.cell? ⟨w.heap.size, 53, none⟩ = some (.int .i64 0) := laid_cell HB.out 53 (by rw [← HT.out]; rfl)
        have e2 : wr.cell? ⟨w.heap.size, 54, none⟩ = some (.int .i64 0) := laid_cell HB.out 54 (by rw [← HT.out]; rfl)
        have e3 : wr.cell? ⟨w.heap.size, 55, none⟩ = some (.int .i64 0) := laid_cell HB.out 55 (by rw [← HT.out]; rfl)
        have e4 : wr.cell? ⟨w.heap.size, 56, none⟩ = some (.int .i64 0) := laid_cell HB.out 56 (by rw [← HT.out]; rfl)
        have e5 : wr.cell? ⟨w.heap.size, 57, none⟩ = some (.int .i64 0) := laid_cell HB.out 57 (by rw [← HT.out]; rfl)
        have e6 : wr.cell? ⟨w.heap.size, 58, none⟩ = some (.int .i64 0) := laid_cell HB.out 58 (by rw [← HT.out]; rfl)
        have e7 : wr.cell? ⟨w.heap.size, 59, none⟩ = some (.int .i64 0) := laid_cell HB.out 59 (by rw [← HT.out]; rfl)
        have e8 : wr.cell? ⟨w.heap.size, 60, none⟩ = some (.int .i64 0) := laid_cell HB.out 60 (by rw [← HT.out]; rfl)
        have e9 : wr.cell? ⟨w.heap.size, 61, none⟩ = some (.int .i64 0) := laid_cell HB.out 61 (by rw [← HT.out]; rfl)
        have e10 : wr.cell? ⟨w.heap.size, 62, none⟩ = some (.int .i64 0) := laid_cell HB.out 62 (by rw [← HT.out]; rfl)
        have e11 : wr.cell? ⟨w.heap.size, 63, none⟩ = some (.bool false) := laid_cell HB.out 63 (by rw [← HT.out]; rfl)
        have e12 : wr.cell? ⟨w.heap.size, 64, none⟩ = some (.bool false) := laid_cell HB.out 64 (by rw [← HT.out]; rfl)
        cases hph : phaseM pmin pgap pmax ptop pstep pyel pred pwalk pblinks prec
        · go_wp2
          go_roundw
          case rel => exact ⟨5, by omega, rfl, rfl, hb, HB⟩
          case measure => simp [intOf]
        · go_wp2_with (first
    | (go_at_call 64; refine (phase0_any _).mono ?_; rintro e w' ⟨rfl, hB⟩))
          go_roundw
          case rel => exact ⟨5, by omega, rfl, rfl, hb.trans (hB.mono hb.size), Lib.hid (by rw [hB.block _ i1.out]; exact HB.out)⟩
          case measure => simp [intOf]
      · have e0 : wr.cell? ⟨w.heap.size, 65, none⟩ = some (.bool false) := laid_cell HB.out 65 (by rw [← HT.out]; rfl)
        have e1 : wr.cell? ⟨w.heap.size, 66, none⟩ = some (.int .i64 0) := laid_cell HB.out 66 (by rw [← HT.out]; rfl)
        have e2 : wr.cell? ⟨w.heap.size, 67, none⟩ = some (.int .i64 0) := laid_cell HB.out 67 (by rw [← HT.out]; rfl)
        have e3 : wr.cell? ⟨w.heap.size, 68, none⟩ = some (.int .i64 0) := laid_cell HB.out 68 (by rw [← HT.out]; rfl)
        have e4 : wr.cell? ⟨w.heap.size, 69, none⟩ = some (.int .i64 0) := laid_cell HB.out 69 (by rw [← HT.out]; rfl)
        have e5 : wr.cell? ⟨w.heap.size, 70, none⟩ = some (.int .i64 0) := laid_cell HB.out 70 (by rw [← HT.out]; rfl)
        have e6 : wr.cell? ⟨w.heap.size, 71, none⟩ = some (.int .i64 0) := laid_cell HB.out 71 (by rw [← HT.out]; rfl)
        have e7 : wr.cell? ⟨w.heap.size, 72, none⟩ = some (.int .i64 0) := laid_cell HB.out 72 (by rw [← HT.out]; rfl)
        have e8 : wr.cell? ⟨w.heap.size, 73, none⟩ = some (.int .i64 0) := laid_cell HB.out 73 (by rw [← HT.out]; rfl)
        have e9 : wr.cell? ⟨w.heap.size, 74, none⟩ = some (.int .i64 0) := laid_cell HB.out 74 (by rw [← HT.out]; rfl)
        have e10 : wr.cell? ⟨w.heap.size, 75, none⟩ = some (.int .i64 0) := laid_cell HB.out 75 (by rw [← HT.out]; rfl)
        have e11 : wr.cell? ⟨w.heap.size, 76, none⟩ = some (.bool false) := laid_cell HB.out 76 (by rw [← HT.out]; rfl)
        have e12 : wr.cell? ⟨w.heap.size, 77, none⟩ = some (.bool false) := laid_cell HB.out 77 (by rw [← HT.out]; rfl)
        cases hph : phaseM pmin pgap pmax ptop pstep pyel pred pwalk pblinks prec
        · go_wp2
          go_roundw
          case rel => exact ⟨6, by omega, rfl, rfl, hb, HB⟩
          case measure => simp [intOf]
        · go_wp2_with (first
    | (go_at_call 64; refine (phase0_any _).mono ?_; rintro e w' ⟨rfl, hB⟩))
          go_roundw
          case rel => exact ⟨6, by omega, rfl, rfl, hb.trans (hB.mono hb.size), Lib.hid (by rw [hB.block _ i1.out]; exact HB.out)⟩
          case measure => simp [intOf]
      · have e0 : wr.cell? ⟨w.heap.size, 78, none⟩ = some (.bool false) := laid_cell HB.out 78 (by rw [← HT.out]; rfl)
        have e1 : wr.cell? ⟨w.heap.size, 79, none⟩ = some (.int .i64 0) := laid_cell HB.out 79 (by rw [← HT.out]; rfl)
        have e2 : wr.cell? ⟨w.heap.size, 80, none⟩ = some (.int .i64 0) := laid_cell HB.out 80 (by rw [← HT.out]; rfl)
        have e3 : wr.cell? ⟨w.heap.size, 81, none⟩ = some (.int .i64 0) := laid_cell HB.out 81 (by rw [← HT.out]; rfl)
        have e4 : wr.cell? ⟨w.heap.size, 82, none⟩ = some (.int .i64 0) := laid_cell HB.out 82 (by rw [← HT.out]; rfl)
        have e5 : wr.cell? ⟨w.heap.size, 83, none⟩ = some (.int .i64 0) := laid_cell HB.out 83 (by rw [← HT.out]; rfl)
        have e6 : wr.cell? ⟨w.heap.size, 84, none⟩ = some (.int .i64 0) := laid_cell HB.out 84 (by rw [← HT.out]; rfl)
        have e7 : wr.cell? ⟨w.heap.size, 85, none⟩ = some (.int .i64 0) := laid_cell HB.out 85 (by rw [← HT.out]; rfl)
        have e8 : wr.cell? ⟨w.heap.size, 86, none⟩ = some (.int .i64 0) := laid_cell HB.out 86 (by rw [← HT.out]; rfl)
        have e9 : wr.cell? ⟨w.heap.size, 87, none⟩ = some (.int .i64 0) := laid_cell HB.out 87 (by rw [← HT.out]; rfl)
        have e10 : wr.cell? ⟨w.heap.size, 88, none⟩ = some (.int .i64 0) := laid_cell HB.out 88 (by rw [← HT.out]; rfl)
        have e11 : wr.cell? ⟨w.heap.size, 89, none⟩ = some (.bool false) := laid_cell HB.out 89 (by rw [← HT.out]; rfl)
        have e12 : wr.cell? ⟨w.heap.size, 90, none⟩ = some (.bool false) := laid_cell HB.out 90 (by rw [← HT.out]; rfl)
        cases hph : phaseM pmin pgap pmax ptop pstep pyel pred pwalk pblinks prec
        · go_wp2
          go_roundw
          case rel => exact ⟨7, by omega, rfl, rfl, hb, HB⟩
          case measure => simp [intOf]
        · go_wp2_with (first
    | (go_at_call 64; refine (phase0_any _).mono ?_; rintro e w' ⟨rfl, hB⟩))
          go_roundw
          case rel => exact ⟨7, by omega, rfl, rfl, hb.trans (hB.mono hb.size), Lib.hid (by rw [hB.block _ i1.out]; exact HB.out)⟩
          case measure => simp [intOf]
      · have e0 : wr.cell? ⟨w.heap.size, 91, none⟩ = some (.bool false) := laid_cell HB.out 91 (by rw [← HT.out]; rfl)
        have e1 : wr.cell? ⟨w.heap.size, 92, none⟩ = some (.int .i64 0) := laid_cell HB.out 92 (by rw [← HT.out]; rfl)
        have e2 : wr.cell? ⟨w.heap.size, 93, none⟩ = some (.int .i64 0) := laid_cell HB.out 93 (by rw [← HT.out]; rfl)
        have e3 : wr.cell? ⟨w.heap.size, 94, none⟩ = some (.int .i64 0) := laid_cell HB.out 94 (by rw [← HT.out]; rfl)
        have e4 : wr.cell? ⟨w.heap.size, 95, none⟩ = some (.int .i64 0) := laid_cell HB.out 95 (by rw [← HT.out]; rfl)
        have e5 : wr.cell? ⟨w.heap.size, 96, none⟩ = some (.int .i64 0) := laid_cell HB.out 96 (by rw [← HT.out]; rfl)
        have e6 : wr.cell? ⟨w.heap.size, 97, none⟩ = some (.int .i64 0) := laid_cell HB.out 97 (by rw [← HT.out]; rfl)
        have e7 : wr.cell? ⟨w.heap.size, 98, none⟩ = some (.int .i64 0) := laid_cell HB.out 98 (by rw [← HT.out]; rfl)
        have e8 : wr.cell? ⟨w.heap.size, 99, none⟩ = some (.int .i64 0) := laid_cell HB.out 99 (by rw [← HT.out]; rfl)
        have e9 : wr.cell? ⟨w.heap.size, 100, none⟩ = some (.int .i64 0) := laid_cell HB.out 100 (by rw [← HT.out]; rfl)
        have e10 : wr.cell? ⟨w.heap.size, 101, none⟩ = some (.int .i64 0) := laid_cell HB.out 101 (by rw [← HT.out]; rfl)
        have e11 : wr.cell? ⟨w.heap.size, 102, none⟩ = some (.bool false) := laid_cell HB.out 102 (by rw [← HT.out]; rfl)
        have e12 : wr.cell? ⟨w.heap.size, 103, none⟩ = some (.bool false) := laid_cell HB.out 103 (by rw [← HT.out]; rfl)
        cases hph : phaseM pmin pgap pmax ptop pstep pyel pred pwalk pblinks prec
        · go_wp2
          go_roundw
          case rel => exact ⟨8, by omega, rfl, rfl, hb, HB⟩
          case measure => simp [intOf]
        · go_wp2_with (first
    | (go_at_call 64; refine (phase0_any _).mono ?_; rintro e w' ⟨rfl, hB⟩))
          go_roundw
          case rel => exact ⟨8, by omega, rfl, rfl, hb.trans (hB.mono hb.size), Lib.hid (by rw [hB.block _ i1.out]; exact HB.out)⟩
          case measure => simp [intOf]
    · obtain rfl : k = 8 := by omega
      have g1 : wr.cell? ⟨w.heap.size, 104, none⟩ = some (.slice none 0 0) := laid_cell HB.out 104 d1
      have g3 : wr.cell? ⟨w.heap.size, 113, none⟩ = some (.slice none 0 0) := laid_cell HB.out 113 d3
      have g4 : wr.cell? ⟨w.heap.size, 114, none⟩ = some (.slice none 0 0) := laid_cell HB.out 114 d4
      have g5 : wr.cell? ⟨w.heap.size, 115, none⟩ = some (.slice none 0 0) := laid_cell HB.out 115 d5
      clear d1 d3 d4 d5 d6 d7 d8 d9 d10 d11 d12
      go_wp2
      go_loop [5] (fun i => i = .int .i64 0) (fun _ => 0)
      case atStart => rfl
      case round =>
        subst hrel
        go_wp2
        go_loop [3, 7] (fun ok i => ok = .bool (phaseM pmin pgap pmax ptop pstep pyel pred pwalk pblinks prec) ∧ i = .int .i64 0) (fun _ _ => 0)
        case atStart => exact ⟨rfl, rfl⟩
        case round =>
          obtain ⟨rfl, rfl⟩ := hrel
          go_wp2
          go_loop [3, 8] (fun ok i => ok = .bool (phaseM pmin pgap pmax ptop pstep pyel pred pwalk pblinks prec) ∧ i = .int .i64 0) (fun _ _ => 0)
          case atStart => exact ⟨rfl, rfl⟩
          case round =>
            obtain ⟨rfl, rfl⟩ := hrel
            go_wp2
            go_loop [3, 9] (fun ok i => ok = .bool (phaseM pmin pgap pmax ptop pstep pyel pred pwalk pblinks prec) ∧ i = .int .i64 0) (fun _ _ => 0)
            case atStart => exact ⟨rfl, rfl⟩
            case round =>
              obtain ⟨rfl, rfl⟩ := hrel
              go_wp2
              go_ret
              exact ⟨rfl, hb⟩
end Go.Proofs.Ytmapdkhcfejkaaa
