/- The contracts of package set: Has, With, Without, Of, Each. -/
import Derived.Test.YtocjiigpljokmaaSetW
import Derived.RangeFuncBox
import Derived.RangeFuncNested
import Derived.RangeFuncBound
import Derived.RangeFuncCalls
import Derived.RangeFuncLeaves
import Derived.Shelf.Abstract
import Derived.Shelf.RegionOpen
import Derived.OwnWalkIn
import Derived.TacticsInMore
import Derived.LoopNIn
import Derived.LoopIn
import Derived.Maps.AppendAt
namespace Go.Proofs.Ytocjiigpljokmaa
open Go.RowKit Go.Shelf
set_option linter.unusedVariables false
attribute [local go_sem] Oper.semAt_some

theorem oneM_out {p : Int} (h : ¬ (0 ≤ p ∧ p < 8)) : packM (oneM p) = 0 := pack_zero.2 fun i hi => by unfold oneM; simp; omega
set_option maxHeartbeats 1000000 in
theorem sbit_any (p : Int) (w : World) :
    Calls Try.prog 25 #[.int .i64 p] w fun e w' => e = .returned (.int .i64 (packM (oneM p))) ∧ w = w' := by
  by_cases h0 : 0 ≤ p
  · by_cases h8 : p < 8
    · rcases (show p = 0 ∨ p = 1 ∨ p = 2 ∨ p = 3 ∨ p = 4 ∨ p = 5 ∨ p = 6 ∨ p = 7 by omega) with rfl | rfl | rfl | rfl | rfl | rfl | rfl | rfl
      all_goals
        go_enter Try.func25, Try.ntmps25
        go_wp2
        go_ret
        exact ⟨ret_int (by decide), rfl⟩
    · go_enter Try.func25, Try.ntmps25
      go_wp2
      go_ret
      exact ⟨ret_int (oneM_out (by omega)).symm, rfl⟩
  · go_enter Try.func25, Try.ntmps25
    go_wp2
    go_ret
    exact ⟨ret_int (oneM_out (by omega)).symm, rfl⟩
theorem has_and (s p : Int) : (bits .and .i64 s (packM (oneM p)) != 0) = hasM s p := by
  rw [and_bits, Bool.eq_iff_iff, bne_iff_ne, ne_eq, pack_zero]
  unfold hasM oneM
  simp only [Bool.and_eq_true, decide_eq_true_eq]
  constructor
  · intro h
    by_cases hp : 0 ≤ p ∧ p < 8
    · refine ⟨hp, ?_⟩
      cases hb : bitM s p.toNat with
      | true => rfl
      | false =>
        exact absurd (fun i hi => by
          by_cases hpi : p = (i : Int)
          · subst hpi; simp at hb; simp [hb]
          · simp [hpi]) h
    · exact absurd (fun i hi => by have : ¬ p = (i : Int) := by omega
                                   simp [this]) h
  · rintro ⟨hp, hb⟩ h
    have := h p.toNat (by omega)
    have e : p = (p.toNat : Int) := by omega
    rw [hb, ← e] at this
    simp at this
set_option maxHeartbeats 1000000 in
theorem shas_any (s p : Int) (w : World) :
    Calls Try.prog 12 #[.int .i64 s, .int .i64 p] w fun e w' => e = .returned (.bool (hasM s p)) ∧ w = w' := by
  have H := Lib.hid (has_and s p)
  go_enter Try.func12, Try.ntmps12
  go_wp2_with (go_at_call 25; refine (sbit_any _ _).mono ?_; rintro e w' ⟨rfl, rfl⟩)
  go_ret
  exact ⟨ret_bool H.out, rfl⟩
theorem with_or (s p : Int) : bits .or .i64 (bits .and .i64 s 255) (packM (oneM p)) = withM s p := by
  rw [and255, or_pack]; rfl
set_option maxHeartbeats 1000000 in
theorem swith_any (s p : Int) (w : World) :
    Calls Try.prog 18 #[.int .i64 s, .int .i64 p] w fun e w' => e = .returned (.int .i64 (withM s p)) ∧ w = w' := by
  have H := Lib.hid (with_or s p)
  go_enter Try.func18, Try.ntmps18
  go_wp2_with (go_at_call 25; refine (sbit_any _ _).mono ?_; rintro e w' ⟨rfl, rfl⟩)
  go_ret
  exact ⟨ret_int H.out, rfl⟩
theorem bits_andNot (x y : Int) : bits .andNot .i64 x y = IntKind.i64.wrap (((x % 18446744073709551616).toNat &&& (2 ^ 64 - ((y % 18446744073709551616).toNat + 1)) : Nat) : Int) := by
  show IntKind.i64.wrap (((BitVec.ofInt 64 x) &&& ~~~(BitVec.ofInt 64 y)).toNat : Int) = _
  rw [BitVec.toNat_and, BitVec.toNat_not, BitVec.toNat_ofInt, BitVec.toNat_ofInt]
  congr 3
  simp only [Nat.reducePow, Int.cast_ofNat_Int]
  omega
theorem without_and (s p : Int) : bits .andNot .i64 (bits .and .i64 s 255) (packM (oneM p)) = withoutM s p := by
  rw [and255, bits_andNot]
  unfold withoutM packM
  rw [toNat_small (packN_lt _), toNat_small (packN_lt _)]
  have hp : packN (oneM p) < 2 ^ 64 := by have := packN_lt (oneM p); omega
  have e : packN (bitM s) &&& (2 ^ 64 - (packN (oneM p) + 1)) = packN (fun i => bitM s i && !oneM p i) := Nat.eq_of_testBit_eq fun i => by
    rw [Nat.testBit_and, Nat.testBit_two_pow_sub_succ hp, packN_test, packN_test, packN_test]
    by_cases hi : i < 8
    · have : i < 64 := by omega
      simp [hi, this]
    · simp [hi]
  rw [e, wrap_small (packN_lt _)]
set_option maxHeartbeats 1000000 in
theorem swithout_any (s p : Int) (w : World) :
    Calls Try.prog 20 #[.int .i64 s, .int .i64 p] w fun e w' => e = .returned (.int .i64 (withoutM s p)) ∧ w = w' := by
  have H := Lib.hid (without_and s p)
  go_enter Try.func20, Try.ntmps20
  go_wp2_with (go_at_call 25; refine (sbit_any _ _).mono ?_; rintro e w' ⟨rfl, rfl⟩)
  go_ret
  exact ⟨ret_int H.out, rfl⟩

/-! Each -/
theorem setL_prefix (s : Int) {j k : Nat} (h : j ≤ k) : setL s j <+: setL s k := by
  obtain ⟨d, rfl⟩ := Nat.exists_eq_add_of_le h
  clear h
  induction d with
  | zero => exact List.prefix_refl _
  | succ d ih => rw [← Nat.add_assoc, setL_succ]; exact ih.trans (List.prefix_append _ _)
set_option maxHeartbeats 1000000 in
theorem each_any (s : Int) (w : World) :
    Calls Try.prog 16 #[.int .i64 s] w fun e w' => e = .returned (.func (.func 27) #[] #[.pointer (some ⟨w.heap.size, 0, none⟩)]) ∧ w' = w.alloc (.cells #[.int .i64 s] 3) := by
  go_enter Try.func16, Try.ntmps16
  go_wp2
  go_ret
  exact ⟨rfl, rfl⟩
/-- A block that stays as it is. -/
def KeepB (b : Nat) (W W' : World) : Prop := W'.heap[b]? = W.heap[b]?
theorem KeepB.cell {b : Nat} {W W' : World} (h : KeepB b W W') {i : Nat} : W'.cell? ⟨b, i, none⟩ = W.cell? ⟨b, i, none⟩ := World.cell?_of_block (w := W) h
theorem keepB_t {b : Nat} {A B C : World} (h : KeepB b A B) (k : KeepB b B C) : KeepB b A C := Eq.trans k h
theorem keepB_b {b : Nat} {w : World} (hb : b < w.heap.size) (W : World) (l : Nat) (o o' : Obj) (hl : w.heap.size ≤ l) (h : W.heap[l]? = some o) (h1 : o.isCells = false) (h2 : o.isWalk = false) : KeepB b W (W.putObj l o') :=
  (belowK_b (n₀ := b + 1) (w := w) (by omega) W l o o' hl h h1 h2).block b (by omega)
set_option maxRecDepth 100000 in
set_option maxHeartbeats 2000000 in
theorem each1_in (n : Nat) (hn : 1 ≤ n) (l Bn : Nat) (s : Int) (J Jx : List Int → World → Prop)
    (hY : ∀ pre x W, J pre W → pre.length < (listM s).length → YieldAt Fence.wide (n - 1) Try.prog l #[.int .i64 x] W fun e W' =>
      (e = .returned (.bool true) ∧ J (pre ++ [x]) W' ∧ KeepB Bn W W') ∨ (e = .returned (.bool false) ∧ Jx (pre ++ [x]) W'))
    (W : World) (hBn : W.cell? ⟨Bn, 0, none⟩ = some (.int .i64 s)) (h0 : J [] W) :
    CallsIn Fence.wide n Try.prog 27 #[.func (.yield l) #[] #[], .pointer (some ⟨Bn, 0, none⟩)] W fun e W' => (∃ v, e = .returned v) ∧
      ((∃ ys, ys = listM s ∧ J ys W') ∨ (∃ pre, pre <+: listM s ∧ Jx pre W')) := by
  refine callsIn_of_wp Try.func27 rfl trivial ?_ rfl
  simp only [Try.ntmps27, List.size_toArray, List.length_cons, List.length_nil, Nat.reduceAdd, Nat.reduceSub, Array.replicate_succ, Array.replicate_zero, List.push_toArray, List.append_toArray, List.nil_append, List.cons_append]
  gi_wp2
  gi_loopw [4] (fun p wr => ∃ k : Nat, k ≤ 8 ∧ p = .int .i64 k ∧ J (setL s k) wr ∧ wr.cell? ⟨Bn, 0, none⟩ = some (.int .i64 s)) (fun p _ => 8 - (intOf p).toNat)
  case atStart => exact ⟨0, by omega, rfl, h0, hBn⟩
  case round =>
    obtain ⟨k, hk, rfl, hJs, hc⟩ := hrel
    by_cases hlt : k < 8
    · cases hh : hasM s k
      · have hs : setL s (k + 1) = setL s k := by rw [setL_succ, ← hasM_nat s hlt, hh]; simp
        have HS := Lib.hid hs
        clear hs
        gi_wp2_with (refine ⟨trivial, ?_⟩; gi_at_call 12; refine (callsIn_wide.2 (shas_any _ _ _)).mono ?_; rintro e w' ⟨rfl, rfl⟩)
        all_goals (refine ⟨fun _ h => (by cases h), ?_⟩)
        gi_wp2
        go_roundw
        case rel => exact ⟨k + 1, by omega, by go_num, by rw [HS.out]; exact hJs, hc⟩
        case measure => simp [intOf]; omega
      · have hs : setL s (k + 1) = setL s k ++ [(k : Int)] := by rw [setL_succ, ← hasM_nat s hlt, hh]; simp
        have hpre : setL s (k + 1) <+: listM s := setL_prefix s (by omega)
        have hln : (setL s k).length < (listM s).length := by
          have := hpre.length_le
          rw [hs] at this; simp at this; omega
        have HS := Lib.hid hs
        have HP := Lib.hid hpre
        clear hs hpre
        obtain ⟨fn, tmps, assign, body, hy, hR⟩ := hY (setL s k) k wr hJs hln
        gi_wp2_with (refine ⟨trivial, ?_⟩; gi_at_call 12; refine (callsIn_wide.2 (shas_any _ _ _)).mono ?_; rintro e w' ⟨rfl, rfl⟩)
        refine hR.mono ?_
        rintro e W3 (⟨rfl, hJ3, hk3⟩ | ⟨rfl, hJx3⟩)
        · have hc3 : W3.cell? ⟨Bn, 0, none⟩ = some (.int .i64 s) := hk3.cell.trans hc
          gi_wp2
          go_roundw
          case rel => exact ⟨k + 1, by omega, by go_num, by rw [HS.out]; exact hJ3, hc3⟩
          case measure => simp [intOf]; omega
        · gi_wp2
          refine bodyPost_ret (results_none rfl _ _ _) rfl ?_
          exact ⟨⟨_, rfl⟩, .inr ⟨setL s k ++ [(k : Int)], by rw [← HS.out]; exact HP.out, hJx3⟩⟩
    · obtain rfl : k = 8 := by omega
      gi_wp2
      go_end0
      exact ⟨⟨_, rfl⟩, .inl ⟨_, rfl, hJs⟩⟩
theorem each_stops (n : Nat) (hn : 1 ≤ n) (Bn : Nat) (s : Int) (w : World) (hBn : Bn < w.heap.size) (hc : w.cell? ⟨Bn, 0, none⟩ = some (.int .i64 s)) :
    SeqStopsK Fence.wide n Try.prog 27 #[.pointer (some ⟨Bn, 0, none⟩)] (fun x : Int => #[Value.int .i64 x]) (KeepB Bn) (fun ys => ys = listM s) (fun pre => pre <+: listM s) (listM s).length w := fun l J Jx W hW _ _ hY h0 =>
  each1_in n hn l Bn s J Jx hY W ((hW.cell (p := ⟨Bn, 0, none⟩) hBn).trans hc) h0
theorem ownsRow_less {W : World} {b b' : Nat} {e : TypeId} {size : Nat} {v : Value} {n : Nat} {xs : List Value} (h : W.ownsRow b e size v n xs) (hb : b' ≤ b) : W.ownsRow b' e size v n xs := by
  obtain ⟨h1, h⟩ := h
  refine ⟨h1, ?_⟩
  rcases h with h | ⟨g, cap, cur, e, hg, hr⟩
  · exact .inl h
  · exact .inr ⟨g, cap, cur, e, by omega, hr⟩
theorem ownsRow_ne {W : World} {b k : Nat} {e : TypeId} {size : Nat} {v : Value} {n : Nat} {xs : List Value} (h : W.ownsRow b e size v n xs) (hk : k < b) : some k ≠ v.ownBlock := by
  rcases h.2 with ⟨rfl, _⟩ | ⟨g, cap, cur, rfl, hg, _⟩
  · simp [Value.ownBlock]
  · simp [Value.ownBlock]; omega
end Go.Proofs.Ytocjiigpljokmaa
