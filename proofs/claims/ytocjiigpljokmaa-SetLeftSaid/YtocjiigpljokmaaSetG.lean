/- The contracts of First, Count, Of; 'awake' of package set's laws. -/
import Derived.Test.YtocjiigpljokmaaSetF
namespace Go.Proofs.Ytocjiigpljokmaa
open Go.RowKit Go.Shelf
set_option linter.unusedVariables false
attribute [local go_sem] Oper.semAt_some

def firstM (s : Int) : Int := (listM s).headD (-1)
set_option maxRecDepth 100000 in
set_option maxHeartbeats 4000000 in
theorem sfirst_any (s : Int) (w : World) : Calls Try.prog 23 #[.int .i64 s] w fun e w' => e = .returned (.int .i64 (firstM s)) ∧ Below w.heap.size w w' := by
  refine (callsIn_wide (n := 5)).1 ?_
  refine callsIn_of_wp_marks Try.func23 rfl trivial ?_ rfl
  simp only [Try.ntmps23, List.size_toArray, List.length_cons, List.length_nil, Nat.reduceAdd, Nat.reduceSub, Array.replicate_succ, Array.replicate_zero, List.push_toArray, List.append_toArray, List.nil_append, List.cons_append]
  gi_wp2_with (refine ⟨trivial, ?_⟩; gi_at_call 16; refine (callsIn_wide.2 (each_any _ _)).mono ?_; rintro e w' ⟨rfl, rfl⟩)
  have bO := (Boxed.new w 3 (.int .i64 0)).alloc (.cells #[.int .i64 s] 3)
  have bN := Boxed.new (w.alloc (.cells #[.int .i64 0] 3)) 3 (.int .i64 s)
  rw [World.size_alloc] at bN
  have hB0 : Below w.heap.size w ((w.alloc (.cells #[.int .i64 0] 3)).alloc (.cells #[.int .i64 s] 3)) := ((Below.refl _ w).alloc (Nat.le_refl _) _).alloc (by simp) _
  have h1 : (1 : Nat) ≤ 5 := by omega
  have hstops := each_stops 4 (by omega) (w.heap.size + 1) s ((w.alloc (.cells #[.int .i64 0] 3)).alloc (.cells #[.int .i64 s] 3)) (by simp) bN.cell
  refine wpIn_rangeFunc_ownF rfl h1 (gf := 27) (lb := #[.pointer (some ⟨w.heap.size + 1, 0, none⟩)]) rfl trivial (enters_of Try.func27 (by kernel_rfl) rfl)
    hstops keepB_t (keepB_b (by simp)) (Below.refl _ _) (fun _ => rfl)
    (fun pre W => (pre = [] ∧ W.cell? ⟨w.heap.size, 0, none⟩ = some (.int .i64 0) ∧ W.frozen? ⟨w.heap.size, 0, none⟩ = false) ∧ Below w.heap.size w W)
    (fun c pre W => (c = .ret ∧ ∃ x, pre = [x] ∧ W.cell? ⟨w.heap.size, 0, none⟩ = some (.int .i64 x)) ∧ Below w.heap.size w W)
    (OwnFrom.and (Own.from (fun s A B row hs hg hr => ⟨hs.1, cell_kept hs.2.1 hg hr, (frozen_kept hs.2.1 hg hr).trans hs.2.2⟩) _) (ownFrom_below (Nat.le_refl _) (by simp; omega)))
    (fun c => OwnFrom.and (Own.from (fun s A B row hs hg hr => ⟨hs.1, hs.2.imp fun x hx => ⟨hx.1, cell_kept hx.2 hg hr⟩⟩) _) (ownFrom_below (Nat.le_refl _) (by simp; omega)))
    ⟨⟨rfl, bO.cell, bO.frozen⟩, hB0⟩
    (fun x => { tmps := #[.int .i64 s, undef, .pointer (some ⟨w.heap.size, 0, none⟩), .int .i64 x, .int .i64 s, .func (.func 27) #[] #[.pointer (some ⟨w.heap.size + 1, 0, none⟩)], .int .i64 x, undef], defers := [] }) ?assign ?body ?done ?stop
  case assign =>
    intro l x W K hK
    gi_wp2
    exact hK
  case body =>
    rintro l pre x W ⟨⟨rfl, hc, hf⟩, hB⟩ _
    gi_wp2
    exact ⟨KeepsOthers.setCell _ _ _, ⟨rfl, x, rfl, World.cell?_setCell_same' _ _ _ (by rw [hc]; rfl)⟩, hB.setCell (p := ⟨w.heap.size, 0, none⟩) (by simp) _⟩
  case done =>
    rintro D ys W hD hys ⟨⟨rfl, hc, hf⟩, hB⟩ hK
    gi_wp2
    have hK' := (KeepsOthers.setCell W ⟨w.heap.size, 0, none⟩ (.int .i64 (-1))).same D _ hK rfl
    refine ⟨by simp, .inl ⟨_, _, rfl, run_takeDeferred hK', ?_⟩⟩
    have hc5 := cell_kept (World.cell?_setCell_same' W ⟨w.heap.size, 0, none⟩ (.int .i64 (-1)) (by rw [hc]; rfl)) (grownBy_putObj' _ D (.deferred none)) (fun r e => by cases e; exact ⟨_, hK', rfl⟩)
    refine ⟨.int .i64 (-1), ?_, by unfold firstM; rw [← hys]; rfl, (hB.setCell (p := ⟨w.heap.size, 0, none⟩) (by simp) _).trans (belowK_b (w := w) (Nat.le_refl _) _ D _ _ (by simp at hD; omega) hK' rfl rfl)⟩
    simp [results, Try.f23, go_sem, hc5]
  case stop =>
    rintro D c pre W hD hpre ⟨⟨rfl, x, rfl, hc⟩, hB⟩ hK
    gi_wp2
    refine ⟨by simp, .inl ⟨_, _, rfl, run_takeDeferred hK, ?_⟩⟩
    have hc5 := cell_kept hc (grownBy_putObj' _ D (.deferred none)) (fun r e => by cases e; exact ⟨_, hK, rfl⟩)
    refine ⟨.int .i64 x, ?_, by unfold firstM; obtain ⟨t, ht⟩ := hpre; rw [← ht]; rfl, hB.trans (belowK_b (w := w) (Nat.le_refl _) W D _ _ (by simp at hD; omega) hK rfl rfl)⟩
    simp [results, Try.f23, go_sem, hc5]
set_option maxRecDepth 100000 in
set_option maxHeartbeats 4000000 in
theorem ones_any (n : Int) (w : World) (h : 0 ≤ n ∧ n < 256) : Calls Try.prog 26 #[.int .u8 n] w fun e w' => e = .returned (.int .i64 (listM n).length) ∧ w = w' := by
  go_enter Try.func26, Try.ntmps26
  go_wp2
  go_ret
  refine ⟨ret_int ?_, rfl⟩
  obtain ⟨m, rfl⟩ := Int.eq_ofNat_of_zero_le h.1
  have hm : m < 256 := by omega
  rw [← getElem!_pos]
  clear h
  simp only [Int.toNat_natCast]
  revert m
  decide +kernel
theorem list_mod (s : Int) : listM (s % 256) = listM s := by
  unfold listM setL
  congr 1
  refine List.filter_congr fun i hi => ?_
  have hi : i < 8 := by simpa using hi
  rw [mod_pack, bitM_pack _ hi]
set_option maxHeartbeats 1000000 in
theorem scount_any (s : Int) (w : World) : Calls Try.prog 13 #[.int .i64 s] w fun e w' => e = .returned (.int .i64 (listM s).length) ∧ w = w' := by
  have H := Lib.hid (list_mod s)
  go_enter Try.func13, Try.ntmps13
  go_wp2_with (go_at_call 26; refine (ones_any _ _ ⟨by omega, by omega⟩).mono ?_; rintro e w' ⟨rfl, rfl⟩)
  go_ret
  exact ⟨ret_int (by rw [← H.out]), rfl⟩
def ofP (zs : List Int) (k : Nat) : Int := packM fun i => (zs.take k).contains (i : Int)
theorem ofP_succ {zs : List Int} {k : Nat} (hk : k < zs.length) : bits .or .i64 (ofP zs k) (packM (oneM (zs.getD k 0))) = ofP zs (k + 1) := by
  unfold ofP
  rw [or_pack]
  refine packM_congr fun i hi => ?_
  rw [Bool.eq_iff_iff, List.take_succ_eq_append_getElem hk]
  simp only [Bool.or_eq_true, List.contains_iff_mem, List.mem_append, List.mem_singleton, oneM, decide_eq_true_eq]
  simp only [List.getD, hk, List.getElem?_eq_getElem, Option.getD_some]
  exact or_congr Iff.rfl ⟨Eq.symm, Eq.symm⟩
set_option maxHeartbeats 1000000 in
theorem sof_any (a : Option Addr) (cap : Nat) (zs : List Int) (w : World) (hl : zs.length ≤ 1000) (hi : Ints w a zs) :
    Calls Try.prog 9 #[.slice a zs.length cap] w fun e w' => e = .returned (.int .i64 (ofM zs)) ∧ w = w' := by
  have HI := Lib.hid hi
  clear hi
  go_enter Try.func9, Try.ntmps9
  go_wp2
  go_loop [3, 8] (fun s i => ∃ k : Nat, k ≤ zs.length ∧ i = .int .i64 k ∧ s = .int .i64 (ofP zs k)) (fun _ i => zs.length - (intOf i).toNat)
  case atStart => exact ⟨0, Nat.zero_le _, rfl, by unfold ofP; rw [pack_zero.2 (by simp)]⟩
  case round =>
    obtain ⟨k, hk, rfl, rfl⟩ := hrel
    by_cases hlt : k < zs.length
    · obtain ⟨b, off, rfl, hbs, hc⟩ := HI.out.cell (by omega)
      have hcell := hc k hlt
      clear hc
      have HS := Lib.hid (ofP_succ hlt)
      generalize zs.getD k 0 = x at *
      go_wp2_with (go_at_call 25; refine (sbit_any _ _).mono ?_; rintro e w' ⟨rfl, rfl⟩)
      go_round
      case rel => exact ⟨k + 1, by omega, by go_num, by rw [HS.out]⟩
      case measure => simp [intOf]; omega
    · obtain rfl : k = zs.length := by omega
      go_wp2
      go_ret
      exact ⟨ret_int (by unfold ofP ofM; rw [List.take_length]), rfl⟩
theorem sof2_any (b : Nat) (x y : Int) (w : World) (hi : Ints w (some ⟨b, 0, none⟩) [x, y]) :
    Calls Try.prog 9 #[.slice (some ⟨b, 0, none⟩) 2 2] w fun e w' => e = .returned (.int .i64 (ofM [x, y])) ∧ w = w' := sof_any _ 2 [x, y] w (by simp) hi
set_option maxHeartbeats 2000000 in
theorem awake_any (w : World) :
    Calls Try.prog 8 #[] w fun e w' => e = .returned (.bool true) ∧ Below w.heap.size w w' := by
  have m1 : listM 5 = [0, 2] := by decide +kernel
  have m2 : ofM [0, 2] = 5 := by decide +kernel
  have m3 : firstM 4 = 2 := by decide +kernel
  go_enter Try.func8, Try.ntmps8
  go_wp2_with fail
  go_at_call 11
  refine (leach_any _ _).mono ?_
  rintro e w' ⟨v', rfl, hown', hb'⟩
  rw [m1] at hown'
  obtain ⟨a, cap, rfl, hi⟩ := hown'.opened
  obtain ⟨b, off, rfl, hbs, hc⟩ := hi.cell (by simp)
  have c0 := hc 0 (by simp)
  have c1 := hc 1 (by simp)
  simp only [List.getD_cons_zero, List.getD_cons_succ, Nat.add_zero] at c0 c1
  clear hc hi hown' m1
  have ib : LeSize (b + 1) w' := ⟨hbs⟩
  have i0 : LeSize w.heap.size w' := ⟨hb'.size⟩
  go_wp2_with (first
    | (go_at_call 9; refine (sof2_any _ _ _ _ (ints_new _ (by simp) rfl)).mono ?_; rintro e w' ⟨rfl, rfl⟩)
    | (go_at_call 23; refine (Up.run (sfirst_any _ _)).mono ?_; rintro e w' ⟨rfl, u, rfl⟩))
  go_ret
  exact ⟨rfl, by (repeat' (first | (with_reducible exact Below.refl _ _) | (with_reducible assumption) | (with_reducible refine Below.setCell ?_ ?_ _) | (with_reducible refine Below.alloc ?_ ?_ _) | (with_reducible refine Below.drew ?_) | (with_reducible refine Up.base _ ?_ ?_) | (with_reducible exact LeSize.out) | exact LeSize.out | exact Nat.le_add_right_of_le LeSize.out | exact Nat.le_add_right_of_le (Nat.le_add_right_of_le LeSize.out) | (with_reducible exact Nat.le_refl _) | (simp; done) | (simp; omega)))⟩
end Go.Proofs.Ytocjiigpljokmaa
