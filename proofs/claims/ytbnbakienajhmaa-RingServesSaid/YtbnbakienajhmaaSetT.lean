/- The contract of set.Each, over SetN. The contract of set.First, over SetT. A range over set.Each whose round may lean on each phase being from 0 to 7; all of a set. -/
import Derived.Test.YtbnbakienajhmaaSetN
import Derived.RangeFuncBox
import Derived.RangeFuncNested
import Derived.RangeFuncBound
import Derived.RangeFuncCalls
import Derived.RangeFuncLeaves
import Derived.Shelf.Abstract
import Derived.Shelf.RegionOpen
import Derived.OwnWalkIn
import Derived.TacticsInMore
import Derived.LoopNIn
import Derived.LoopIn
import Derived.Maps.AppendAt
namespace Go.Proofs.Ytbnbakienajhmaa
section
open Go.RowKit Go.Shelf
set_option linter.unusedVariables false
attribute [local go_sem] Oper.semAt_some


/-! Each -/
theorem setL_prefix (s : Int) {j k : Nat} (h : j ≤ k) : setL s j <+: setL s k := by
  obtain ⟨d, rfl⟩ := Nat.exists_eq_add_of_le h
  clear h
  induction d with
  | zero => exact List.prefix_refl _
  | succ d ih => rw [← Nat.add_assoc, setL_succ]; exact ih.trans (List.prefix_append _ _)
set_option maxHeartbeats 1000000 in
theorem each_any (s : Int) (w : World) :
    Calls Try.prog 33 #[.int .i64 s] w fun e w' => e = .returned (.func (.func 59) #[] #[.pointer (some ⟨w.heap.size, 0, none⟩)]) ∧ w' = w.alloc (.cells #[.int .i64 s] 3) := by
  go_enter Try.func33, Try.ntmps33
  go_wp2
  go_ret
  exact ⟨rfl, rfl⟩
/-- A block that stays as it is. -/
def KeepB (b : Nat) (W W' : World) : Prop := W'.heap[b]? = W.heap[b]?
theorem KeepB.cell {b : Nat} {W W' : World} (h : KeepB b W W') {i : Nat} : W'.cell? ⟨b, i, none⟩ = W.cell? ⟨b, i, none⟩ := World.cell?_of_block (w := W) h
theorem keepB_t {b : Nat} {A B C : World} (h : KeepB b A B) (k : KeepB b B C) : KeepB b A C := Eq.trans k h
theorem keepB_b {b : Nat} {w : World} (hb : b < w.heap.size) (W : World) (l : Nat) (o o' : Obj) (hl : w.heap.size ≤ l) (h : W.heap[l]? = some o) (h1 : o.isCells = false) (h2 : o.isWalk = false) : KeepB b W (W.putObj l o') :=
  (belowK_b (n₀ := b + 1) (w := w) (by omega) W l o o' hl h h1 h2).block b (by omega)
set_option maxRecDepth 100000 in
set_option maxHeartbeats 2000000 in
theorem each1_in (n : Nat) (hn : 1 ≤ n) (l Bn : Nat) (s : Int) (J Jx : List Int → World → Prop)
    (hY : ∀ pre x W, J pre W → pre.length < (listM s).length → YieldAt Fence.wide (n - 1) Try.prog l #[.int .i64 x] W fun e W' =>
      (e = .returned (.bool true) ∧ J (pre ++ [x]) W' ∧ KeepB Bn W W') ∨ (e = .returned (.bool false) ∧ Jx (pre ++ [x]) W'))
    (W : World) (hBn : W.cell? ⟨Bn, 0, none⟩ = some (.int .i64 s)) (h0 : J [] W) :
    CallsIn Fence.wide n Try.prog 59 #[.func (.yield l) #[] #[], .pointer (some ⟨Bn, 0, none⟩)] W fun e W' => (∃ v, e = .returned v) ∧
      ((∃ ys, ys = listM s ∧ J ys W') ∨ (∃ pre, pre <+: listM s ∧ Jx pre W')) := by
  refine callsIn_of_wp Try.func59 rfl trivial ?_ rfl
  simp only [Try.ntmps59, List.size_toArray, List.length_cons, List.length_nil, Nat.reduceAdd, Nat.reduceSub, Array.replicate_succ, Array.replicate_zero, List.push_toArray, List.append_toArray, List.nil_append, List.cons_append]
  gi_wp2
  gi_loopw [4] (fun p wr => ∃ k : Nat, k ≤ 8 ∧ p = .int .i64 k ∧ J (setL s k) wr ∧ wr.cell? ⟨Bn, 0, none⟩ = some (.int .i64 s)) (fun p _ => 8 - (intOf p).toNat)
  case atStart => exact ⟨0, by omega, rfl, h0, hBn⟩
  case round =>
    obtain ⟨k, hk, rfl, hJs, hc⟩ := hrel
    by_cases hlt : k < 8
    · cases hh : hasM s k
      · have hs : setL s (k + 1) = setL s k := by rw [setL_succ, ← hasM_nat s hlt, hh]; simp
        have HS := Lib.hid hs
        clear hs
        gi_wp2_with (refine ⟨trivial, ?_⟩; gi_at_call 41; refine (callsIn_wide.2 (shas_any _ _ _)).mono ?_; rintro e w' ⟨rfl, rfl⟩)
        all_goals (refine ⟨fun _ h => (by cases h), ?_⟩)
        gi_wp2
        go_roundw
        case rel => exact ⟨k + 1, by omega, by go_num, by rw [HS.out]; exact hJs, hc⟩
        case measure => simp [intOf]; omega
      · have hs : setL s (k + 1) = setL s k ++ [(k : Int)] := by rw [setL_succ, ← hasM_nat s hlt, hh]; simp
        have hpre : setL s (k + 1) <+: listM s := setL_prefix s (by omega)
        have hln : (setL s k).length < (listM s).length := by
          have := hpre.length_le
          rw [hs] at this; simp at this; omega
        have HS := Lib.hid hs
        have HP := Lib.hid hpre
        clear hs hpre
        obtain ⟨fn, tmps, assign, body, hy, hR⟩ := hY (setL s k) k wr hJs hln
        gi_wp2_with (refine ⟨trivial, ?_⟩; gi_at_call 41; refine (callsIn_wide.2 (shas_any _ _ _)).mono ?_; rintro e w' ⟨rfl, rfl⟩)
        refine hR.mono ?_
        rintro e W3 (⟨rfl, hJ3, hk3⟩ | ⟨rfl, hJx3⟩)
        · have hc3 : W3.cell? ⟨Bn, 0, none⟩ = some (.int .i64 s) := hk3.cell.trans hc
          gi_wp2
          go_roundw
          case rel => exact ⟨k + 1, by omega, by go_num, by rw [HS.out]; exact hJ3, hc3⟩
          case measure => simp [intOf]; omega
        · gi_wp2
          refine bodyPost_ret (results_none rfl _ _ _) rfl ?_
          exact ⟨⟨_, rfl⟩, .inr ⟨setL s k ++ [(k : Int)], by rw [← HS.out]; exact HP.out, hJx3⟩⟩
    · obtain rfl : k = 8 := by omega
      gi_wp2
      go_end0
      exact ⟨⟨_, rfl⟩, .inl ⟨_, rfl, hJs⟩⟩
theorem each_stops (n : Nat) (hn : 1 ≤ n) (Bn : Nat) (s : Int) (w : World) (hBn : Bn < w.heap.size) (hc : w.cell? ⟨Bn, 0, none⟩ = some (.int .i64 s)) :
    SeqStopsK Fence.wide n Try.prog 59 #[.pointer (some ⟨Bn, 0, none⟩)] (fun x : Int => #[Value.int .i64 x]) (KeepB Bn) (fun ys => ys = listM s) (fun pre => pre <+: listM s) (listM s).length w := fun l J Jx W hW _ _ hY h0 =>
  each1_in n hn l Bn s J Jx hY W ((hW.cell (p := ⟨Bn, 0, none⟩) hBn).trans hc) h0
theorem ownsRow_less {W : World} {b b' : Nat} {e : TypeId} {size : Nat} {v : Value} {n : Nat} {xs : List Value} (h : W.ownsRow b e size v n xs) (hb : b' ≤ b) : W.ownsRow b' e size v n xs := by
  obtain ⟨h1, h⟩ := h
  refine ⟨h1, ?_⟩
  rcases h with h | ⟨g, cap, cur, e, hg, hr⟩
  · exact .inl h
  · exact .inr ⟨g, cap, cur, e, by omega, hr⟩
theorem ownsRow_ne {W : World} {b k : Nat} {e : TypeId} {size : Nat} {v : Value} {n : Nat} {xs : List Value} (h : W.ownsRow b e size v n xs) (hk : k < b) : some k ≠ v.ownBlock := by
  rcases h.2 with ⟨rfl, _⟩ | ⟨g, cap, cur, rfl, hg, _⟩
  · simp [Value.ownBlock]
  · simp [Value.ownBlock]; omega
end
section
open Go.RowKit Go.Shelf
set_option linter.unusedVariables false
attribute [local go_sem] Oper.semAt_some

def firstM (s : Int) : Int := (listM s).headD (-1)
set_option maxRecDepth 100000 in
set_option maxHeartbeats 4000000 in
theorem sfirst_any (s : Int) (w : World) : Calls Try.prog 32 #[.int .i64 s] w fun e w' => e = .returned (.int .i64 (firstM s)) ∧ Below w.heap.size w w' := by
  refine (callsIn_wide (n := 5)).1 ?_
  refine callsIn_of_wp_marks Try.func32 rfl trivial ?_ rfl
  simp only [Try.ntmps32, List.size_toArray, List.length_cons, List.length_nil, Nat.reduceAdd, Nat.reduceSub, Array.replicate_succ, Array.replicate_zero, List.push_toArray, List.append_toArray, List.nil_append, List.cons_append]
  gi_wp2_with (refine ⟨trivial, ?_⟩; gi_at_call 33; refine (callsIn_wide.2 (each_any _ _)).mono ?_; rintro e w' ⟨rfl, rfl⟩)
  have bO := (Boxed.new w 3 (.int .i64 0)).alloc (.cells #[.int .i64 s] 3)
  have bN := Boxed.new (w.alloc (.cells #[.int .i64 0] 3)) 3 (.int .i64 s)
  rw [World.size_alloc] at bN
  have hB0 : Below w.heap.size w ((w.alloc (.cells #[.int .i64 0] 3)).alloc (.cells #[.int .i64 s] 3)) := ((Below.refl _ w).alloc (Nat.le_refl _) _).alloc (by simp) _
  have h1 : (1 : Nat) ≤ 5 := by omega
  have hstops := each_stops 4 (by omega) (w.heap.size + 1) s ((w.alloc (.cells #[.int .i64 0] 3)).alloc (.cells #[.int .i64 s] 3)) (by simp) bN.cell
  refine wpIn_rangeFunc_ownF rfl h1 (gf := 59) (lb := #[.pointer (some ⟨w.heap.size + 1, 0, none⟩)]) rfl trivial (enters_of Try.func59 (by kernel_rfl) rfl)
    hstops keepB_t (keepB_b (by simp)) (Below.refl _ _) (fun _ => rfl)
    (fun pre W => (pre = [] ∧ W.cell? ⟨w.heap.size, 0, none⟩ = some (.int .i64 0) ∧ W.frozen? ⟨w.heap.size, 0, none⟩ = false) ∧ Below w.heap.size w W)
    (fun c pre W => (c = .ret ∧ ∃ x, pre = [x] ∧ W.cell? ⟨w.heap.size, 0, none⟩ = some (.int .i64 x)) ∧ Below w.heap.size w W)
    (OwnFrom.and (Own.from (fun s A B row hs hg hr => ⟨hs.1, cell_kept hs.2.1 hg hr, (frozen_kept hs.2.1 hg hr).trans hs.2.2⟩) _) (ownFrom_below (Nat.le_refl _) (by simp; omega)))
    (fun c => OwnFrom.and (Own.from (fun s A B row hs hg hr => ⟨hs.1, hs.2.imp fun x hx => ⟨hx.1, cell_kept hx.2 hg hr⟩⟩) _) (ownFrom_below (Nat.le_refl _) (by simp; omega)))
    ⟨⟨rfl, bO.cell, bO.frozen⟩, hB0⟩
    (fun x => { tmps := #[.int .i64 s, undef, .pointer (some ⟨w.heap.size, 0, none⟩), .int .i64 x, .int .i64 s, .func (.func 59) #[] #[.pointer (some ⟨w.heap.size + 1, 0, none⟩)], .int .i64 x, undef], defers := [] }) ?assign ?body ?done ?stop
  case assign =>
    intro l x W K hK
    gi_wp2
    exact hK
  case body =>
    rintro l pre x W ⟨⟨rfl, hc, hf⟩, hB⟩ _
    gi_wp2
    exact ⟨KeepsOthers.setCell _ _ _, ⟨rfl, x, rfl, World.cell?_setCell_same' _ _ _ (by rw [hc]; rfl)⟩, hB.setCell (p := ⟨w.heap.size, 0, none⟩) (by simp) _⟩
  case done =>
    rintro D ys W hD hys ⟨⟨rfl, hc, hf⟩, hB⟩ hK
    gi_wp2
    have hK' := (KeepsOthers.setCell W ⟨w.heap.size, 0, none⟩ (.int .i64 (-1))).same D _ hK rfl
    refine ⟨by simp, .inl ⟨_, _, rfl, run_takeDeferred hK', ?_⟩⟩
    have hc5 := cell_kept (World.cell?_setCell_same' W ⟨w.heap.size, 0, none⟩ (.int .i64 (-1)) (by rw [hc]; rfl)) (grownBy_putObj' _ D (.deferred none)) (fun r e => by cases e; exact ⟨_, hK', rfl⟩)
    refine ⟨.int .i64 (-1), ?_, by unfold firstM; rw [← hys]; rfl, (hB.setCell (p := ⟨w.heap.size, 0, none⟩) (by simp) _).trans (belowK_b (w := w) (Nat.le_refl _) _ D _ _ (by simp at hD; omega) hK' rfl rfl)⟩
    simp [results, Try.f32, go_sem, hc5]
  case stop =>
    rintro D c pre W hD hpre ⟨⟨rfl, x, rfl, hc⟩, hB⟩ hK
    gi_wp2
    refine ⟨by simp, .inl ⟨_, _, rfl, run_takeDeferred hK, ?_⟩⟩
    have hc5 := cell_kept hc (grownBy_putObj' _ D (.deferred none)) (fun r e => by cases e; exact ⟨_, hK, rfl⟩)
    refine ⟨.int .i64 x, ?_, by unfold firstM; obtain ⟨t, ht⟩ := hpre; rw [← ht]; rfl, hB.trans (belowK_b (w := w) (Nat.le_refl _) W D _ _ (by simp at hD; omega) hK rfl rfl)⟩
    simp [results, Try.f32, go_sem, hc5]
end
section
open Go.RowKit Go.Shelf
set_option linter.unusedVariables false
attribute [local go_sem] Oper.semAt_some

/-- A set's phases below k. -/
def setF (s : Int) : Nat → List (Fin 8)
  | 0 => []
  | k + 1 => setF s k ++ if h : k < 8 ∧ hasM s k = true then [⟨k, h.1⟩] else []
theorem setF_succ (s : Int) (k : Nat) : setF s (k + 1) = setF s k ++ if h : k < 8 ∧ hasM s k = true then [⟨k, h.1⟩] else [] := rfl
theorem setF_map (s : Int) : ∀ k, k ≤ 8 → (setF s k).map (fun i => (i.val : Int)) = setL s k
  | 0, _ => by simp [setF, setL]
  | k + 1, h => by
    rw [setF_succ, setL_succ, List.map_append, setF_map s k (by omega), ← hasM_nat s (by omega)]
    cases hh : hasM s k
    · simp
    · simp [show k < 8 by omega]
theorem setF_prefix (s : Int) {j k : Nat} (h : j ≤ k) : setF s j <+: setF s k := by
  obtain ⟨d, rfl⟩ := Nat.exists_eq_add_of_le h
  clear h
  induction d with
  | zero => exact List.prefix_refl _
  | succ d ih => rw [← Nat.add_assoc, setF_succ]; exact ih.trans (List.prefix_append _ _)
theorem setF_mem (s : Int) (i : Fin 8) : ∀ k, k ≤ 8 → (i ∈ setF s k ↔ i.val < k ∧ hasM s i.val = true)
  | 0, _ => by simp [setF]
  | k + 1, h => by
    rw [setF_succ, List.mem_append, setF_mem s i k (by omega)]
    by_cases hh : k < 8 ∧ hasM s k = true
    · rw [dif_pos hh, List.mem_singleton]
      constructor
      · rintro (⟨h1, h2⟩ | rfl)
        · exact ⟨by omega, h2⟩
        · exact ⟨by simp, hh.2⟩
      · rintro ⟨h1, h2⟩
        by_cases he : i.val < k
        · exact .inl ⟨he, h2⟩
        · exact .inr (Fin.ext (by simp; omega))
    · rw [dif_neg hh]
      simp only [List.not_mem_nil, or_false]
      constructor
      · rintro ⟨h1, h2⟩; exact ⟨by omega, h2⟩
      · rintro ⟨h1, h2⟩
        refine ⟨?_, h2⟩
        by_cases he : i.val < k
        · exact he
        · have : i.val = k := by omega
          rw [this] at h2; exact absurd ⟨by omega, h2⟩ hh
set_option maxRecDepth 100000 in
set_option maxHeartbeats 2000000 in
theorem each8_in (n : Nat) (hn : 1 ≤ n) (l Bn : Nat) (s : Int) (J Jx : List (Fin 8) → World → Prop)
    (hY : ∀ pre (x : Fin 8) W, J pre W → pre.length < (setF s 8).length → YieldAt Fence.wide (n - 1) Try.prog l #[.int .i64 (x.val : Nat)] W fun e W' =>
      (e = .returned (.bool true) ∧ J (pre ++ [x]) W' ∧ KeepB Bn W W') ∨ (e = .returned (.bool false) ∧ Jx (pre ++ [x]) W'))
    (W : World) (hBn : W.cell? ⟨Bn, 0, none⟩ = some (.int .i64 s)) (h0 : J [] W) :
    CallsIn Fence.wide n Try.prog 59 #[.func (.yield l) #[] #[], .pointer (some ⟨Bn, 0, none⟩)] W fun e W' => (∃ v, e = .returned v) ∧
      ((∃ ys, ys = setF s 8 ∧ J ys W') ∨ (∃ pre, pre <+: setF s 8 ∧ Jx pre W')) := by
  refine callsIn_of_wp Try.func59 rfl trivial ?_ rfl
  simp only [Try.ntmps59, List.size_toArray, List.length_cons, List.length_nil, Nat.reduceAdd, Nat.reduceSub, Array.replicate_succ, Array.replicate_zero, List.push_toArray, List.append_toArray, List.nil_append, List.cons_append]
  gi_wp2
  gi_loopw [4] (fun p wr => ∃ k : Nat, k ≤ 8 ∧ p = .int .i64 k ∧ J (setF s k) wr ∧ wr.cell? ⟨Bn, 0, none⟩ = some (.int .i64 s)) (fun p _ => 8 - (intOf p).toNat)
  case atStart => exact ⟨0, by omega, rfl, h0, hBn⟩
  case round =>
    obtain ⟨k, hk, rfl, hJs, hc⟩ := hrel
    by_cases hlt : k < 8
    · cases hh : hasM s k
      · have hs : setF s (k + 1) = setF s k := by rw [setF_succ, dif_neg (by rw [hh]; simp)]; simp
        have HS := Lib.hid hs
        clear hs
        gi_wp2_with (refine ⟨trivial, ?_⟩; gi_at_call 41; refine (callsIn_wide.2 (shas_any _ _ _)).mono ?_; rintro e w' ⟨rfl, rfl⟩)
        all_goals (refine ⟨fun _ h => (by cases h), ?_⟩)
        gi_wp2
        go_roundw
        case rel => exact ⟨k + 1, by omega, by go_num, by rw [HS.out]; exact hJs, hc⟩
        case measure => simp [intOf]; omega
      · have hs : setF s (k + 1) = setF s k ++ [⟨k, hlt⟩] := by rw [setF_succ, dif_pos ⟨hlt, hh⟩]
        have hpre : setF s (k + 1) <+: setF s 8 := setF_prefix s (by omega)
        have hln : (setF s k).length < (setF s 8).length := by
          have := hpre.length_le
          rw [hs] at this; simp at this; omega
        have HS := Lib.hid hs
        have HP := Lib.hid hpre
        clear hs hpre
        obtain ⟨fn, tmps, assign, body, hy, hR⟩ := hY (setF s k) ⟨k, hlt⟩ wr hJs hln
        simp only at hy hR
        gi_wp2_with (refine ⟨trivial, ?_⟩; gi_at_call 41; refine (callsIn_wide.2 (shas_any _ _ _)).mono ?_; rintro e w' ⟨rfl, rfl⟩)
        refine hR.mono ?_
        rintro e W3 (⟨rfl, hJ3, hk3⟩ | ⟨rfl, hJx3⟩)
        · have hc3 : W3.cell? ⟨Bn, 0, none⟩ = some (.int .i64 s) := hk3.cell.trans hc
          gi_wp2
          go_roundw
          case rel => exact ⟨k + 1, by omega, by go_num, by rw [HS.out]; exact hJ3, hc3⟩
          case measure => simp [intOf]; omega
        · gi_wp2
          refine bodyPost_ret (results_none rfl _ _ _) rfl ?_
          exact ⟨⟨_, rfl⟩, .inr ⟨setF s k ++ [⟨k, hlt⟩], by rw [← HS.out]; exact HP.out, hJx3⟩⟩
    · obtain rfl : k = 8 := by omega
      gi_wp2
      go_end0
      exact ⟨⟨_, rfl⟩, .inl ⟨_, rfl, hJs⟩⟩
theorem each8_stops (n : Nat) (hn : 1 ≤ n) (Bn : Nat) (s : Int) (w : World) (hBn : Bn < w.heap.size) (hc : w.cell? ⟨Bn, 0, none⟩ = some (.int .i64 s)) :
    SeqStopsK Fence.wide n Try.prog 59 #[.pointer (some ⟨Bn, 0, none⟩)] (fun x : Fin 8 => #[Value.int .i64 (x.val : Nat)]) (KeepB Bn) (fun ys => ys = setF s 8) (fun pre => pre <+: setF s 8) (setF s 8).length w := fun l J Jx W hW _ _ hY h0 =>
  each8_in n hn l Bn s J Jx hY W ((hW.cell (p := ⟨Bn, 0, none⟩) hBn).trans hc) h0
end
end Go.Proofs.Ytbnbakienajhmaa
