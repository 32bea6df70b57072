/- Books: All, and a range over it that collects. -/
import Derived.Test.YtpmnhieehkjnmaaBkD
import Derived.RangeFuncBox
import Derived.RangeFuncNested
import Derived.RangeFuncBound
import Derived.RangeFuncCalls
import Derived.RangeFuncLeaves
import Derived.Shelf.Abstract
import Derived.Shelf.RegionOpen
import Derived.OwnWalkIn
import Derived.TacticsInMore
import Derived.LoopNIn
import Derived.LoopIn
import Derived.Maps.AppendAt
namespace Go.Proofs.Ytpmnhieehkjnmaa
open Go.RowKit Go.Shelf
set_option linter.unusedVariables false
attribute [local go_sem] Oper.semAt_some

set_option maxHeartbeats 1000000 in
theorem ball_fn (b : Nat) (w : World) :
    Calls Try.prog 17 #[.pointer (some ⟨b, 0, none⟩)] w fun e w' => e = .returned (.func (.func 19) #[] #[.pointer (some ⟨w.heap.size, 0, none⟩)]) ∧ w' = w.alloc (.cells #[.pointer (some ⟨b, 0, none⟩)] 23) := by
  go_enter Try.func17, Try.ntmps17
  go_wp2
  go_ret
  exact ⟨rfl, rfl⟩
/-- The first n events of a row stay. -/
def KeepRow (v : Value) (n : Nat) (W W' : World) : Prop := W.heap.size ≤ W'.heap.size ∧ ∀ k, v.ownBlock = some k → ∀ i, i < n * 3 → W'.cell? ⟨k, i, none⟩ = W.cell? ⟨k, i, none⟩
theorem keepRow_t {v : Value} {n : Nat} {A B C : World} (h : KeepRow v n A B) (k : KeepRow v n B C) : KeepRow v n A C := ⟨Nat.le_trans h.1 k.1, fun j hj i hi => (k.2 j hj i hi).trans (h.2 j hj i hi)⟩
theorem keepRow_b {v : Value} {n : Nat} {w : World} (hv : ∀ k, v.ownBlock = some k → k < w.heap.size) (W : World) (l : Nat) (o o' : Obj) (hl : w.heap.size ≤ l) (h : W.heap[l]? = some o) (h1 : o.isCells = false) (h2 : o.isWalk = false) : KeepRow v n W (W.putObj l o') :=
  ⟨by simp [World.putObj], fun k hk i _ => World.cell?_of_block (a := ⟨k, i, none⟩) (World.putObj_heap_other (by show k ≠ l; have := hv k hk; omega))⟩
theorem Evs.keep {w w' : World} {a : Option Addr} {n : Nat} {c : Nat} {L : List Ev} {off : Nat} (h : Evs w a L) (ha : ∀ ad, a = some ad → ad.off = 0 ∧ ad.spot = none) (hk : KeepRow (.slice a n c) L.length w w') : Evs w' a L := by
  rcases h with h0 | ⟨b, o, rfl, hlt, hc⟩
  · exact .inl h0
  · obtain ⟨e, _⟩ := ha _ rfl
    simp only at e
    subst e
    exact .inr ⟨b, 0, rfl, Nat.lt_of_lt_of_le hlt hk.1, fun i hi j hj => by rw [hk.2 b rfl (0 + i * 3 + j) (by omega)]; exact hc i hi j hj⟩
set_option maxRecDepth 100000 in
set_option maxHeartbeats 4000000 in
theorem ball1_in (n : Nat) (hn : 1 ≤ n) (l Bn b : Nat) (v : Value) (B : Bk) (B0 : Nat) (J Jx : List Ev → World → Prop) (hA : AbidesFrom B0 J)
    (hY : ∀ pre x W, J pre W → pre.length < B.L.length → YieldAt Fence.wide (n - 1) Try.prog l #[evA x] W fun e W' =>
      (e = .returned (.bool true) ∧ J (pre ++ [x]) W' ∧ KeepRow v B.L.length W W') ∨ (e = .returned (.bool false) ∧ Jx (pre ++ [x]) W'))
    (W : World) (hBn : W.cell? ⟨Bn, 0, none⟩ = some (.pointer (some ⟨b, 0, none⟩))) (hb : BookAt W b v B) (h0 : J [] W) :
    CallsIn Fence.wide n Try.prog 19 #[.func (.yield l) #[] #[], .pointer (some ⟨Bn, 0, none⟩)] W fun e W' => (∃ v, e = .returned v) ∧
      ((∃ ys, ys = B.L ∧ J ys W') ∨ (∃ pre, pre <+: B.L ∧ Jx pre W')) := by
  obtain ⟨a, cap, rfl, h1, h2, h3, h4⟩ := hb.opened
  haveI : IsBlk W b _ _ := ⟨hb.blk⟩
  have c0 : W.cell? ⟨b, 0, none⟩ = some (.slice a B.L.length cap) := by rw [IsBlk.cell]; rfl
  have hlb := hb.lt
  cases a with
  | none =>
    have hnil : B.L = [] := by
      rcases h3 with h | ⟨_, _, e, _⟩
      · exact List.eq_nil_of_length_eq_zero h
      · cases e
    have hcap : cap = 0 := by
      rcases hb.row.2 with ⟨e, _⟩ | ⟨_, _, _, e, _⟩
      · simp at e; exact e.2
      · simp at e
    subst hcap
    have hl0 : B.L.length = 0 := by rw [hnil]; rfl
    have HN := Lib.hid hnil
    have HJ := Lib.hid h0
    clear hnil hY h0 hb
    refine callsIn_of_wp Try.func19 rfl trivial ?_ rfl
    simp only [Try.ntmps19, List.size_toArray, List.length_cons, List.length_nil, Nat.reduceAdd, Nat.reduceSub, Array.replicate_succ, Array.replicate_zero, List.push_toArray, List.append_toArray, List.nil_append, List.cons_append]
    gi_wp2
    gi_loopw [19] (fun p wr => p = .int .i64 0 ∧ wr = W) (fun p _ => 0)
    case atStart => exact ⟨rfl, rfl⟩
    case round =>
      obtain ⟨rfl, rfl⟩ := hrel
      gi_wp2
      go_end0
      exact ⟨⟨_, rfl⟩, .inl ⟨_, rfl, by rw [HN.out]; exact HJ.out⟩⟩
  | some ad =>
    obtain ⟨g, rfl⟩ : ∃ g, ad = ⟨g, 0, none⟩ := by
      rcases hb.row.2 with ⟨e, _⟩ | ⟨g, _, _, e, _⟩
      · cases e
      · simp at e; exact ⟨g, e.1⟩
    have HY := Lib.hid hY
    clear hY hb
    refine callsIn_of_wp Try.func19 rfl trivial ?_ rfl
    simp only [Try.ntmps19, List.size_toArray, List.length_cons, List.length_nil, Nat.reduceAdd, Nat.reduceSub, Array.replicate_succ, Array.replicate_zero, List.push_toArray, List.append_toArray, List.nil_append, List.cons_append]
    gi_wp2
    gi_loopw [19] (fun p wr => ∃ k : Nat, k ≤ B.L.length ∧ p = .int .i64 k ∧ J (B.L.take k) wr ∧ Evs wr (some ⟨g, 0, none⟩) B.L) (fun p _ => B.L.length - (intOf p).toNat)
    case atStart => exact ⟨0, by omega, rfl, h0, h3⟩
    case round =>
      clear h0 h3
      obtain ⟨k, hk, rfl, hJ, hE⟩ := hrel
      by_cases hlt : k < B.L.length
      · have g1 : B.L[k]? = some B.L[k] := List.getElem?_eq_getElem hlt
        have hT : B.L.take (k + 1) = B.L.take k ++ [B.L[k]] := by rw [List.take_add_one, g1]; rfl
        have hpre : B.L.take (k + 1) <+: B.L := List.take_prefix _ _
        have HTL : Hid ((B.L.take k).length < B.L.length) := Lib.hid (by simp; omega)
        obtain ⟨b1, o1, e1, hb1, x1, x2, x3⟩ := hE.at g1
        cases e1
        simp only [Nat.zero_add] at x1 x2 x3
        generalize B.L[k] = x at *
        clear g1
        rw [hT] at hpre
        have HT := Lib.hid hT
        have HP := Lib.hid hpre
        clear hT hpre
        have HE := Lib.hid (hE.below ((Below.refl wr.heap.size wr).alloc (Nat.le_refl _) (.cells #[.int .i64 x.1, .int .i64 x.2.1, .int .i64 x.2.2] 34)) (Nat.le_refl _))
        have hJ2 : J (B.L.take k) (wr.alloc (.cells #[.int .i64 x.1, .int .i64 x.2.1, .int .i64 x.2.2] 34)) := hA _ _ _ none hJ (World.grownBy_alloc _ _ _) (fun r e => by cases e)
        obtain ⟨fn, tmps, assign, body, hy, hR⟩ := HY.out (B.L.take k) x _ hJ2 HTL.out
        clear hJ hJ2 hE
        simp only [evA] at hy hR
        gi_wp2
        refine hR.mono ?_
        rintro e W3 (⟨rfl, hJ3, hk3⟩ | ⟨rfl, hJx3⟩)
        · have hE3 := Lib.hid (Evs.keep HE.out (n := B.L.length) (c := cap) (off := 0) (fun ad h => by cases h; exact ⟨rfl, rfl⟩) hk3)
          have HJ3 := Lib.hid hJ3
          clear hJ3 hk3 hR hy
          gi_wp2
          go_roundw
          case rel => exact ⟨k + 1, by omega, by go_num, by rw [HT.out]; exact HJ3.out, hE3.out⟩
          case measure => simp [intOf]; omega
        · have HJ3 := Lib.hid hJx3
          clear hJx3 hR hy
          gi_wp2
          refine bodyPost_ret (results_none rfl _ _ _) rfl ?_
          exact ⟨⟨_, rfl⟩, .inr ⟨B.L.take k ++ [x], HP.out, HJ3.out⟩⟩
      · obtain rfl : k = B.L.length := by omega
        gi_wp2
        go_end0
        exact ⟨⟨_, rfl⟩, .inl ⟨_, rfl, by simpa using hJ⟩⟩
theorem ball_stops (n : Nat) (hn : 1 ≤ n) (Bn b : Nat) (v : Value) (B : Bk) (w : World) (hBn : Bn < w.heap.size) (hc : w.cell? ⟨Bn, 0, none⟩ = some (.pointer (some ⟨b, 0, none⟩))) (hb : BookAt w b v B) :
    SeqStopsK Fence.wide n Try.prog 19 #[.pointer (some ⟨Bn, 0, none⟩)] (fun x : Ev => #[evA x]) (KeepRow v B.L.length) (fun ys => ys = B.L) (fun pre => pre <+: B.L) B.L.length w := fun l J Jx W hW hA _ hY h0 =>
  ball1_in n hn l Bn b v B _ J Jx hA hY W ((hW.cell (p := ⟨Bn, 0, none⟩) hBn).trans hc) (hb.below hW) h0
end Go.Proofs.Ytpmnhieehkjnmaa
