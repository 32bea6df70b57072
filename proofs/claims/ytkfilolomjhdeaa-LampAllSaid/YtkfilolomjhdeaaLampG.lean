/- The contracts of All and Pattern. -/
import Derived.Test.YtkfilolomjhdeaaLampD
import Derived.Test.YtkfilolomjhdeaaQld
import Derived.Deep.CutRange
namespace Go.Proofs.Ytkfilolomjhdeaa
open Go.RowKit
set_option linter.unusedVariables false

/-- Eight numbers, of which the first k are told. -/
def arrK (G : Nat → Int) (k : Nat) : Array Value := ((List.range 8).map fun i => Value.int .i64 (if i < k then G i else 0)).toArray
theorem arrK_size (G : Nat → Int) (k : Nat) : (arrK G k).size = 8 := by simp [arrK]
theorem arrK_get (G : Nat → Int) (k : Nat) {i : Nat} (hi : i < 8) : (arrK G k)[i]? = some (.int .i64 (if i < k then G i else 0)) := by
  simp [arrK, hi]
theorem arrK_zero (G : Nat → Int) : arrK G 0 = #[.int .i64 0, .int .i64 0, .int .i64 0, .int .i64 0, .int .i64 0, .int .i64 0, .int .i64 0, .int .i64 0] := by
  simp [arrK, List.range_succ]
theorem arrK_all (G : Nat → Int) : arrK G 8 = #[.int .i64 (G 0), .int .i64 (G 1), .int .i64 (G 2), .int .i64 (G 3), .int .i64 (G 4), .int .i64 (G 5), .int .i64 (G 6), .int .i64 (G 7)] := by
  simp [arrK, List.range_succ]
theorem arrK_set (G : Nat → Int) {k : Nat} (hk : k < 8) : (arrK G k).setIfInBounds k (.int .i64 (G k)) = arrK G (k + 1) := by
  apply Array.ext_getElem?
  intro i
  rw [Array.getElem?_setIfInBounds, arrK_size]
  by_cases h : k = i
  · subst h; rw [if_pos rfl, if_pos hk, arrK_get G (k + 1) hk, if_pos (by omega)]
  · rw [if_neg h]
    by_cases hi : i < 8
    · rw [arrK_get G k hi, arrK_get G (k + 1) hi]
      have : (i < k) = (i < k + 1) := propext ⟨by omega, by omega⟩
      simp only [this]
    · rw [Array.getElem?_eq_none (by rw [arrK_size]; omega), Array.getElem?_eq_none (by rw [arrK_size]; omega)]
theorem arrK_keep (G : Nat → Int) {k : Nat} (h : G k = 0) : arrK G (k + 1) = arrK G k := by
  unfold arrK
  congr 1
  refine List.map_congr_left fun i hi => ?_
  by_cases hk : i = k
  · subst hk; simp [h]
  · have : (i < k) = (i < k + 1) := propext ⟨by omega, by omega⟩
    simp only [this]
theorem arrK_one (G : Nat → Int) (k : Nat) : (arrK G k).all (·.oneCell') = true := by
  refine Array.all_eq_true_iff_forall_mem.2 fun v hv => ?_
  unfold arrK at hv
  simp at hv
  obtain ⟨i, _, rfl⟩ := hv
  rfl
def patM (f : Int) : Int := if f = 1 then 33 else if f = 2 then 34 else 0
/-- A struct's result, out of its cell. -/
theorem load_lamps {w : World} {b : Nat} {C : Array Value} {t : TypeId} (h : w.heap[b]? = some (.cells C t)) (hs : C.size = 8) : (loadVar 23 ⟨b, 0, none⟩).run Try.prog w = .ok (.agg C) w := by
  have := run_loadVar_mid (P := Try.prog) w b 0 23 C.toList _ (blk_range h 0 _ fun j hj => by simp) Try.underlying23 rfl (by simp only [Array.length_toList, hs]; kernel_rfl)
  simpa using this
theorem spl_all' {C : Array Value} {cs : Array Value} (h : cs.size = C.size) : spl C 0 cs.toList = cs := by
  apply Array.ext_getElem?
  intro i
  rw [spl_get]
  by_cases hi : i < C.size
  · rw [if_pos ⟨Nat.zero_le _, by simp; omega, hi⟩]; simp
  · rw [if_neg (by omega), Array.getElem?_eq_none (by omega), Array.getElem?_eq_none (by omega)]
theorem run_index_fl {k : Nat} (hk : k < 8) (F : Nat → Int) (w : World) : Sem.run Try.prog (Instr.index 22 (.agg #[.int .i64 (F 0), .int .i64 (F 1), .int .i64 (F 2), .int .i64 (F 3), .int .i64 (F 4), .int .i64 (F 5), .int .i64 (F 6), .int .i64 (F 7)]) (.int .i64 k)) w = .ok (.int .i64 (F k)) w := by
  rcases (show k = 0 ∨ k = 1 ∨ k = 2 ∨ k = 3 ∨ k = 4 ∨ k = 5 ∨ k = 6 ∨ k = 7 by omega) with rfl | rfl | rfl | rfl | rfl | rfl | rfl | rfl <;> kernel_rfl
set_option maxHeartbeats 8000000 in
set_option maxRecDepth 100000 in
theorem rpattern_any (cs : Array Value) (F : Nat → Int) (w : World) (hcs : Hid (∀ i, i < 8 → cs[121 + i]? = some (.int .i64 (F i)))) :
    Calls Try.prog 18 #[.agg cs] w fun e w' => e = .returned (.agg #[.int .i64 (patM (F 0)), .int .i64 (patM (F 1)), .int .i64 (patM (F 2)), .int .i64 (patM (F 3)), .int .i64 (patM (F 4)), .int .i64 (patM (F 5)), .int .i64 (patM (F 6)), .int .i64 (patM (F 7))]) ∧ Below w.heap.size w w' := by
  obtain ⟨G, hG⟩ : ∃ G : Nat → Int, G = fun i => patM (F i) := ⟨_, rfl⟩
  have HA : Hid (arrK G 8 = #[.int .i64 (patM (F 0)), .int .i64 (patM (F 1)), .int .i64 (patM (F 2)), .int .i64 (patM (F 3)), .int .i64 (patM (F 4)), .int .i64 (patM (F 5)), .int .i64 (patM (F 6)), .int .i64 (patM (F 7))]) := Lib.hid (by rw [arrK_all, hG])
  rw [← HA.out]
  have HG : Hid (∀ i, G i = patM (F i)) := Lib.hid (by intro i; rw [hG])
  clear hG
  go_enter Try.func18, Try.ntmps18
  go_wp2
  go_loopw [4] (fun i wr => ∃ k : Nat, k ≤ 8 ∧ i = .int .i64 k ∧ Below w.heap.size w wr ∧ Hid (wr.heap[w.heap.size]? = some (.cells cs 47) ∧ wr.heap[w.heap.size + 1]? = some (.cells (arrK G 0) 23) ∧ wr.heap[w.heap.size + 1 + 1]? = some (.cells (arrK G k) 23))) (fun i _ => 8 - (intOf i).toNat)
  case atStart =>
    refine ⟨0, Nat.zero_le _, rfl, by (repeat' (first | (with_reducible exact Below.refl _ _) | (with_reducible assumption) | (with_reducible refine Below.setCell ?_ ?_ _) | (with_reducible refine Below.alloc ?_ ?_ _) | (with_reducible refine Below.drew ?_) | (with_reducible refine Up.base _ ?_ ?_) | (with_reducible exact LeSize.out) | exact LeSize.out | exact Nat.le_add_right_of_le LeSize.out | exact Nat.le_add_right_of_le (Nat.le_add_right_of_le LeSize.out) | (with_reducible exact Nat.le_refl _) | (simp; done) | (simp; omega))), Lib.hid ?_⟩
    rw [arrK_zero]
    exact ⟨(inferInstance : IsBlk _ _ _ _).out, (inferInstance : IsBlk _ _ _ _).out, (inferInstance : IsBlk _ _ _ _).out⟩
  case round =>
    obtain ⟨k, hk, rfl, hb, HH⟩ := hrel
    have i2 : LeSize (w.heap.size + 1 + 1 + 1) wr := laid_le HH.out.2.2
    by_cases hlt : k < 8
    · have c1 : wr.cell? ⟨w.heap.size, 121 + k, none⟩ = some (.int .i64 (F k)) := laid_cell HH.out.1 _ (hcs.out k hlt)
      have c2 : wr.cell? ⟨w.heap.size + 1 + 1, k, none⟩ = some (.int .i64 0) := laid_cell HH.out.2.2 _ (by rw [arrK_get _ _ hlt]; simp)
      have f2 : wr.frozen? ⟨w.heap.size + 1 + 1, k, none⟩ = false := laid_open HH.out.2.2 _
      have hgk := HG.out k
      generalize F k = x at *
      rcases (show x = 1 ∨ x = 2 ∨ (x ≠ 1 ∧ x ≠ 2) by omega) with rfl | rfl | ⟨n1, n2⟩
      · have HS : Hid ((arrK G k).setIfInBounds k (.int .i64 33) = arrK G (k + 1)) := Lib.hid (by rw [← arrK_set G hlt, hgk]; rfl)
        clear hgk
        go_wp2
        go_roundw
        case rel =>
          refine ⟨k + 1, by omega, by go_num, hb.setCell (p := ⟨w.heap.size + 1 + 1, k, none⟩) (by (try simp); (try omega)) _, Lib.hid ⟨?_, ?_, ?_⟩⟩
          · rw [Below.heap_setCell _ _ _ _ (by (try simp); (try omega))]; exact HH.out.1
          · rw [Below.heap_setCell _ _ _ _ (by (try simp); (try omega))]; exact HH.out.2.1
          · rw [heap_set_same HH.out.2.2, HS.out]
        case measure => simp [intOf]; omega
      · have HS : Hid ((arrK G k).setIfInBounds k (.int .i64 34) = arrK G (k + 1)) := Lib.hid (by rw [← arrK_set G hlt, hgk]; rfl)
        clear hgk
        go_wp2
        go_roundw
        case rel =>
          refine ⟨k + 1, by omega, by go_num, hb.setCell (p := ⟨w.heap.size + 1 + 1, k, none⟩) (by (try simp); (try omega)) _, Lib.hid ⟨?_, ?_, ?_⟩⟩
          · rw [Below.heap_setCell _ _ _ _ (by (try simp); (try omega))]; exact HH.out.1
          · rw [Below.heap_setCell _ _ _ _ (by (try simp); (try omega))]; exact HH.out.2.1
          · rw [heap_set_same HH.out.2.2, HS.out]
        case measure => simp [intOf]; omega
      · have HS : Hid (arrK G (k + 1) = arrK G k) := Lib.hid (arrK_keep G (by rw [hgk]; simp [patM, n1, n2]))
        have b1 : (x == 1) = false := beq_eq_false_iff_ne.2 n1
        have b2 : (x == 2) = false := beq_eq_false_iff_ne.2 n2
        clear hgk n1 n2
        go_wp2
        go_roundw
        case rel => exact ⟨k + 1, by omega, by go_num, hb, Lib.hid ⟨HH.out.1, HH.out.2.1, by rw [HS.out]; exact HH.out.2.2⟩⟩
        case measure => simp [intOf]; omega
    · obtain rfl : k = 8 := by omega
      have ib1 : IsBlk wr (w.heap.size + 1) (arrK G 0) 23 := ⟨HH.out.2.1⟩
      have ib2 : IsBlk wr (w.heap.size + 1 + 1) (arrK G 8) 23 := ⟨HH.out.2.2⟩
      clear HH
      go_upto_region 9 with fail
      have el : ∀ w' : World, IsBlk w' (w.heap.size + 1 + 1) (arrK G 8) 23 → Sem.run Try.prog (Instr.loadAt 23 (.pointer (some ⟨w.heap.size + 1 + 1, 0, none⟩))) w' = .ok (.agg (arrK G 8)) w' := fun w' h => by
        have := run_loadAt_mid (P := Try.prog) w' (w.heap.size + 1 + 1) 0 23 (arrK G 8).toList _ (blk_range h.out 0 _ fun j hj => by simp) Try.underlying23 rfl (by simp only [Array.length_toList, arrK_size]; kernel_rfl)
        exact this
      have el2 := el wr ib2
      have HSET : Hid ((wr.setCells (w.heap.size + 1) 0 (arrK G 8).toList).heap[w.heap.size + 1]? = some (.cells (arrK G 8) 23)) := Lib.hid (by rw [heap_sets_same _ ib1.out, spl_all' (by rw [arrK_size, arrK_size])])
      have HBEL : Hid (Below w.heap.size w (wr.setCells (w.heap.size + 1) 0 (arrK G 8).toList)) := Lib.hid (below_setCells _ _ hb (by omega))
      clear el
      obtain ⟨W9, hW9⟩ : ∃ W9, wr.setCells (w.heap.size + 1) 0 (arrK G 8).toList = W9 := ⟨_, rfl⟩
      rw [hW9] at HSET HBEL
      have HW9 := Lib.hid hW9
      clear hW9
      go_wp2_with (first
        | (refine wpList_load_at rfl rfl rfl el2 ?_; clear el2; go_simp)
        | (refine wpList_store_part (o := 0) (cs := arrK G 8) (C := arrK G 0) (t := 23) (b := w.heap.size + 1) (hb := ib1) 23 rfl rfl rfl rfl (by rw [arrK_size, arrK_size]; omega) (by rw [arrK_size]; kernel_rfl) (arrK_one _ _) ?_; rw [HW9.out]; clear ib1 ib2 hb; go_simp))
      refine bodyPost_ret (results_cell_row (p := 2) (ty := 23) rfl _ _ (w.heap.size + 1) 23 (arrK G 8) (0, 0) _ rfl HSET.out Try.underlying23 rfl (by rw [arrK_size]; kernel_rfl)) rfl ?_
      exact ⟨rfl, HBEL.out⟩
set_option maxHeartbeats 8000000 in
attribute [local go_sem] IsBlk.cell IsBlk.frozen in
set_option maxRecDepth 100000 in
theorem pattern_any (cs : Array Value) (F : Nat → Int) (w : World) (hcs : Hid (∀ i, i < 8 → cs[121 + i]? = some (.int .i64 (F i)))) :
    Calls Try.prog 15 #[.agg cs] w fun e w' => e = .returned (.agg #[.int .i64 (patM (F 0)), .int .i64 (patM (F 1)), .int .i64 (patM (F 2)), .int .i64 (patM (F 3)), .int .i64 (patM (F 4)), .int .i64 (patM (F 5)), .int .i64 (patM (F 6)), .int .i64 (patM (F 7))]) ∧ Below w.heap.size w w' := by
  obtain ⟨G, hG⟩ : ∃ G : Nat → Int, G = fun i => patM (F i) := ⟨_, rfl⟩
  have HA : Hid (arrK G 8 = #[.int .i64 (patM (F 0)), .int .i64 (patM (F 1)), .int .i64 (patM (F 2)), .int .i64 (patM (F 3)), .int .i64 (patM (F 4)), .int .i64 (patM (F 5)), .int .i64 (patM (F 6)), .int .i64 (patM (F 7))]) := Lib.hid (by rw [arrK_all, hG])
  rw [← HA.out]
  have c0 := hcs.out 0 (by omega)
  have c1 := hcs.out 1 (by omega)
  have c2 := hcs.out 2 (by omega)
  have c3 := hcs.out 3 (by omega)
  have c4 := hcs.out 4 (by omega)
  have c5 := hcs.out 5 (by omega)
  have c6 := hcs.out 6 (by omega)
  have c7 := hcs.out 7 (by omega)
  simp only [Nat.reduceAdd] at c0 c1 c2 c3 c4 c5 c6 c7
  have HIX := Lib.hid fun (k : Nat) (hk : k < 8) (w : World) => run_index_fl hk F w
  obtain ⟨F0, hF0⟩ : ∃ x, F 0 = x := ⟨_, rfl⟩
  obtain ⟨F1, hF1⟩ : ∃ x, F 1 = x := ⟨_, rfl⟩
  obtain ⟨F2, hF2⟩ : ∃ x, F 2 = x := ⟨_, rfl⟩
  obtain ⟨F3, hF3⟩ : ∃ x, F 3 = x := ⟨_, rfl⟩
  obtain ⟨F4, hF4⟩ : ∃ x, F 4 = x := ⟨_, rfl⟩
  obtain ⟨F5, hF5⟩ : ∃ x, F 5 = x := ⟨_, rfl⟩
  obtain ⟨F6, hF6⟩ : ∃ x, F 6 = x := ⟨_, rfl⟩
  obtain ⟨F7, hF7⟩ : ∃ x, F 7 = x := ⟨_, rfl⟩
  simp only [hF0, hF1, hF2, hF3, hF4, hF5, hF6, hF7] at c0 c1 c2 c3 c4 c5 c6 c7 HIX
  clear hF0 hF1 hF2 hF3 hF4 hF5 hF6 hF7
  have HG : Hid (∀ i, G i = patM (F i)) := Lib.hid (by intro i; rw [hG])
  clear hG hcs
  go_enter Try.func15, Try.ntmps15
  go_wp2
  go_loopw [8] (fun i wr => ∃ k : Nat, k ≤ 8 ∧ i = .int .i64 k ∧ Below w.heap.size w wr ∧ Hid (wr.heap[w.heap.size]? = some (.cells cs 47) ∧ wr.heap[w.heap.size + 1]? = some (.cells (arrK G 0) 23) ∧ wr.heap[w.heap.size + 1 + 1]? = some (.cells (arrK G k) 23))) (fun i _ => 8 - (intOf i).toNat)
  case atStart =>
    refine ⟨0, Nat.zero_le _, rfl, by (repeat' (first | (with_reducible exact Below.refl _ _) | (with_reducible assumption) | (with_reducible refine Below.setCell ?_ ?_ _) | (with_reducible refine Below.alloc ?_ ?_ _) | (with_reducible refine Below.drew ?_) | (with_reducible refine Up.base _ ?_ ?_) | (with_reducible exact LeSize.out) | exact LeSize.out | exact Nat.le_add_right_of_le LeSize.out | exact Nat.le_add_right_of_le (Nat.le_add_right_of_le LeSize.out) | (with_reducible exact Nat.le_refl _) | (simp; done) | (simp; omega))), Lib.hid ?_⟩
    rw [arrK_zero]
    exact ⟨(inferInstance : IsBlk _ _ _ _).out, (inferInstance : IsBlk _ _ _ _).out, (inferInstance : IsBlk _ _ _ _).out⟩
  case round =>
    obtain ⟨k, hk, rfl, hb, HH⟩ := hrel
    have i2 : LeSize (w.heap.size + 1 + 1 + 1) wr := laid_le HH.out.2.2
    by_cases hlt : k < 8
    · have hix := HIX.out k hlt
      have c2 : wr.cell? ⟨w.heap.size + 1 + 1, k, none⟩ = some (.int .i64 0) := laid_cell HH.out.2.2 _ (by rw [arrK_get _ _ hlt]; simp)
      have f2 : wr.frozen? ⟨w.heap.size + 1 + 1, k, none⟩ = false := laid_open HH.out.2.2 _
      have hgk := HG.out k
      generalize F k = x at *
      rcases (show x = 1 ∨ x = 2 ∨ (x ≠ 1 ∧ x ≠ 2) by omega) with rfl | rfl | ⟨n1, n2⟩
      · have HS : Hid ((arrK G k).setIfInBounds k (.int .i64 33) = arrK G (k + 1)) := Lib.hid (by rw [← arrK_set G hlt, hgk]; rfl)
        clear hgk
        go_wp2
        go_roundw
        case rel =>
          refine ⟨k + 1, by omega, by go_num, hb.setCell (p := ⟨w.heap.size + 1 + 1, k, none⟩) (by (try simp); (try omega)) _, Lib.hid ⟨?_, ?_, ?_⟩⟩
          · rw [Below.heap_setCell _ _ _ _ (by (try simp); (try omega))]; exact HH.out.1
          · rw [Below.heap_setCell _ _ _ _ (by (try simp); (try omega))]; exact HH.out.2.1
          · rw [heap_set_same HH.out.2.2, HS.out]
        case measure => simp [intOf]; omega
      · have HS : Hid ((arrK G k).setIfInBounds k (.int .i64 34) = arrK G (k + 1)) := Lib.hid (by rw [← arrK_set G hlt, hgk]; rfl)
        clear hgk
        go_wp2
        go_roundw
        case rel =>
          refine ⟨k + 1, by omega, by go_num, hb.setCell (p := ⟨w.heap.size + 1 + 1, k, none⟩) (by (try simp); (try omega)) _, Lib.hid ⟨?_, ?_, ?_⟩⟩
          · rw [Below.heap_setCell _ _ _ _ (by (try simp); (try omega))]; exact HH.out.1
          · rw [Below.heap_setCell _ _ _ _ (by (try simp); (try omega))]; exact HH.out.2.1
          · rw [heap_set_same HH.out.2.2, HS.out]
        case measure => simp [intOf]; omega
      · have HS : Hid (arrK G (k + 1) = arrK G k) := Lib.hid (arrK_keep G (by rw [hgk]; simp [patM, n1, n2]))
        have b1 : (x == 1) = false := beq_eq_false_iff_ne.2 n1
        have b2 : (x == 2) = false := beq_eq_false_iff_ne.2 n2
        clear hgk n1 n2
        go_wp2
        go_roundw
        case rel => exact ⟨k + 1, by omega, by go_num, hb, Lib.hid ⟨HH.out.1, HH.out.2.1, by rw [HS.out]; exact HH.out.2.2⟩⟩
        case measure => simp [intOf]; omega
    · obtain rfl : k = 8 := by omega
      have ib1 : IsBlk wr (w.heap.size + 1) (arrK G 0) 23 := ⟨HH.out.2.1⟩
      have ib2 : IsBlk wr (w.heap.size + 1 + 1) (arrK G 8) 23 := ⟨HH.out.2.2⟩
      clear HH
      go_upto_region 11 with fail
      have el : ∀ w' : World, IsBlk w' (w.heap.size + 1 + 1) (arrK G 8) 23 → Sem.run Try.prog (Instr.loadAt 23 (.pointer (some ⟨w.heap.size + 1 + 1, 0, none⟩))) w' = .ok (.agg (arrK G 8)) w' := fun w' h => by
        have := run_loadAt_mid (P := Try.prog) w' (w.heap.size + 1 + 1) 0 23 (arrK G 8).toList _ (blk_range h.out 0 _ fun j hj => by simp) Try.underlying23 rfl (by simp only [Array.length_toList, arrK_size]; kernel_rfl)
        exact this
      have el2 := el wr ib2
      have HSET : Hid ((wr.setCells (w.heap.size + 1) 0 (arrK G 8).toList).heap[w.heap.size + 1]? = some (.cells (arrK G 8) 23)) := Lib.hid (by rw [heap_sets_same _ ib1.out, spl_all' (by rw [arrK_size, arrK_size])])
      have HBEL : Hid (Below w.heap.size w (wr.setCells (w.heap.size + 1) 0 (arrK G 8).toList)) := Lib.hid (below_setCells _ _ hb (by omega))
      clear el
      obtain ⟨W9, hW9⟩ : ∃ W9, wr.setCells (w.heap.size + 1) 0 (arrK G 8).toList = W9 := ⟨_, rfl⟩
      rw [hW9] at HSET HBEL
      have HW9 := Lib.hid hW9
      clear hW9
      go_wp2_with (first
        | (refine wpList_load_at rfl rfl rfl el2 ?_; clear el2; go_simp)
        | (refine wpList_store_part (o := 0) (cs := arrK G 8) (C := arrK G 0) (t := 23) (b := w.heap.size + 1) (hb := ib1) 23 rfl rfl rfl rfl (by rw [arrK_size, arrK_size]; omega) (by rw [arrK_size]; kernel_rfl) (arrK_one _ _) ?_; rw [HW9.out]; clear ib1 ib2 hb; go_simp))
      refine bodyPost_ret (results_cell_row (p := 2) (ty := 23) rfl _ _ (w.heap.size + 1) 23 (arrK G 8) (0, 0) _ rfl HSET.out Try.underlying23 rfl (by rw [arrK_size]; kernel_rfl)) rfl ?_
      exact ⟨rfl, HBEL.out⟩
end Go.Proofs.Ytkfilolomjhdeaa
