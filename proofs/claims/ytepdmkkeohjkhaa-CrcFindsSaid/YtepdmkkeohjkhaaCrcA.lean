/- The contracts of package crc. -/
import Derived.Test.YtepdmkkeohjkhaaCrcP
namespace Go.Proofs.Ytepdmkkeohjkhaa
open Go.RowKit
set_option linter.unusedVariables false

/-- A word as the walk writes it. -/
def V (c : W16) : Int := (c.toNat : Int)
theorem V_bd (c : W16) : 0 ≤ V c ∧ V c ≤ 65535 := by have := c.isLt; unfold V; omega
theorem u16_wrap (n : Nat) : IntKind.u16.wrap (n : Int) = ((n % 65536 : Nat) : Int) := by
  simp [IntKind.wrap, IntKind.bits, IntKind.signed]
theorem u16_of (c : W16) : BitVec.ofInt IntKind.u16.bits (V c) = c := by
  show BitVec.ofInt 16 (c.toNat : Int) = c
  rw [BitVec.ofInt_natCast, BitVec.ofNat_toNat, BitVec.setWidth_eq]
theorem V_xor (a b : W16) : bits .xor .u16 (V a) (V b) = V (a ^^^ b) := by
  show IntKind.u16.wrap (((BitVec.ofInt IntKind.u16.bits (V a)) ^^^ (BitVec.ofInt IntKind.u16.bits (V b))).toNat : Int) = _
  rw [u16_of, u16_of]
  show IntKind.u16.wrap (((a ^^^ b).toNat : Nat) : Int) = _
  rw [u16_wrap, Nat.mod_eq_of_lt (a ^^^ b).isLt]; rfl
theorem V_shl (c : W16) (k : Nat) : IntKind.u16.wrap (V c * ((2 ^ k : Nat) : Int)) = V (c <<< k) := by
  unfold V
  rw [← Int.natCast_mul, u16_wrap, BitVec.toNat_shiftLeft, Nat.shiftLeft_eq]
theorem V_shr (c : W16) (k : Nat) : V c / ((2 ^ k : Nat) : Int) = V (c >>> k) := by
  unfold V
  rw [BitVec.toNat_ushiftRight, Nat.shiftRight_eq_div_pow, Int.natCast_ediv]
theorem V_shl1 (c : W16) : IntKind.u16.wrap (V c * 2) = V (c <<< 1) := V_shl c 1
theorem V_shl4 (c : W16) : IntKind.u16.wrap (V c * 16) = V (c <<< 4) := V_shl c 4
theorem V_shr12 (c : W16) : V c / (4096 : Int) = V (c >>> 12) := V_shr c 12
theorem V_poly (c : W16) : bits .xor .u16 (V c) 4129 = V (c ^^^ 4129#16) := V_xor c 4129#16
theorem V_byte {x : Int} (h : 0 ≤ x ∧ x ≤ 255) : x * 256 = V (byT x) := by
  obtain ⟨n, rfl⟩ := Int.eq_ofNat_of_zero_le h.1
  unfold V byT
  rw [BitVec.toNat_shiftLeft, Nat.shiftLeft_eq, BitVec.toNat_ofNat]
  simp only [Int.toNat_natCast]
  rw [Nat.mod_eq_of_lt (show n < 2 ^ 16 by omega), Nat.mod_eq_of_lt (by omega)]
  omega
theorem V_nibble {k : Nat} (h : k < 16) : (k : Int) * (4096 : Int) = V (BitVec.ofNat 16 k <<< 12) := by
  unfold V
  rw [BitVec.toNat_shiftLeft, Nat.shiftLeft_eq, BitVec.toNat_ofNat, Nat.mod_eq_of_lt (show k < 2 ^ 16 by omega), Nat.mod_eq_of_lt (by omega)]
  omega
theorem high15 : ∀ i : Fin 16, (32768#16 : W16)[i.1] = decide (i.1 = 15) := by decide
theorem V_top (c : W16) : (bits .and .u16 (V c) 32768 != 0) = c.msb := by
  have e : bits .and .u16 (V c) 32768 = V (c &&& 32768#16) := by
    show IntKind.u16.wrap (((BitVec.ofInt IntKind.u16.bits (V c)) &&& (BitVec.ofInt IntKind.u16.bits (V 32768#16))).toNat : Int) = _
    rw [u16_of, u16_of]
    show IntKind.u16.wrap (((c &&& 32768#16).toNat : Nat) : Int) = _
    rw [u16_wrap, Nat.mod_eq_of_lt (c &&& 32768#16).isLt]; rfl
  rw [e]
  have h : (c &&& 32768#16) = if c.msb then 32768#16 else 0#16 := by
    ext i hi
    rw [BitVec.getElem_and, high15 ⟨i, hi⟩]
    by_cases h15 : i = 15
    · subst h15
      have : c.msb = c[15] := by rw [BitVec.msb_eq_getLsbD_last]; exact (BitVec.getLsbD_eq_getElem (by omega))
      rw [← this]; cases c.msb <;> simp
    · simp only [h15, decide_false, Bool.and_false]
      cases c.msb
      · simp
      · simp only [if_true]
        rw [high15 ⟨i, hi⟩]; simp [h15]
  rw [h]
  cases c.msb <;> decide
attribute [irreducible] V

theorem arr16 (v : Value) (j : Nat) (hj : j < 16) : (#[v, v, v, v, v, v, v, v, v, v, v, v, v, v, v, v] : Array Value)[j]? = some v := by
  have e : (#[v, v, v, v, v, v, v, v, v, v, v, v, v, v, v, v] : Array Value) = (List.replicate 16 v).toArray := rfl
  rw [e, List.getElem?_toArray, List.getElem?_replicate, if_pos hj]
/-- The array's cells. -/
def ArrSt (wr : World) (q : Nat) (f : Nat → W16) : Prop := ∀ j, j < 16 → wr.cell? ⟨q, j, none⟩ = some (.int .u16 (V (f j)))

set_option maxHeartbeats 4000000 in
theorem rows_any (w : World) :
    Calls Try.prog 14 #[] w fun e w' => e = .returned (.agg #[.int .u16 (V (tabT 0)), .int .u16 (V (tabT 1)), .int .u16 (V (tabT 2)), .int .u16 (V (tabT 3)), .int .u16 (V (tabT 4)), .int .u16 (V (tabT 5)), .int .u16 (V (tabT 6)), .int .u16 (V (tabT 7)), .int .u16 (V (tabT 8)), .int .u16 (V (tabT 9)), .int .u16 (V (tabT 10)), .int .u16 (V (tabT 11)), .int .u16 (V (tabT 12)), .int .u16 (V (tabT 13)), .int .u16 (V (tabT 14)), .int .u16 (V (tabT 15))]) ∧ Below w.heap.size w w' := by
  go_enter Try.func14, Try.ntmps14
  go_wp2
  go_loopw [4] (fun i wr => ∃ k : Nat, k ≤ 16 ∧ i = .int .i64 k ∧ Below w.heap.size w wr ∧ LeSize (w.heap.size + 1 + 1) wr ∧ (∀ j, j < 16 → wr.frozen? ⟨w.heap.size, j, none⟩ = false ∧ wr.frozen? ⟨w.heap.size + 1, j, none⟩ = false ∧ wr.cell? ⟨w.heap.size, j, none⟩ = some (.int .u16 0)) ∧
      ArrSt wr (w.heap.size + 1) (fun j => if j < k then tabT j else 0#16)) (fun i _ => 16 - (intOf i).toNat)
  case atStart =>
    refine ⟨0, by omega, rfl, by (repeat' (first | (with_reducible exact Below.refl _ _) | (with_reducible assumption) | (with_reducible refine Below.setCell ?_ ?_ _) | (with_reducible refine Below.alloc ?_ ?_ _) | (with_reducible refine Below.drew ?_) | (with_reducible refine Up.base _ ?_ ?_) | (with_reducible exact LeSize.out) | exact LeSize.out | exact Nat.le_add_right_of_le LeSize.out | exact Nat.le_add_right_of_le (Nat.le_add_right_of_le LeSize.out) | (with_reducible exact Nat.le_refl _) | (simp; done) | (simp; omega))), inferInstance, fun j hj => ?_, fun j hj => ?_⟩
    · have h := arr16 (.int .u16 0) j hj
      refine ⟨World.frozen?_alloc_past _ _ _ (by simp) |>.trans (World.frozen?_alloc_at _ _ _ _ rfl), World.frozen?_alloc_at _ _ _ _ (by simp), ?_⟩
      rw [World.cell?_alloc_past _ _ _ (by simp), World.cell?_alloc_at _ _ _ _ rfl, h]
    · rw [World.cell?_alloc_at _ _ _ _ (by simp), arr16 _ j hj]
      show _ = some (Value.int .u16 (V (if j < 0 then tabT j else 0#16)))
      rw [if_neg (by omega)]
      unfold V; rfl
  case round =>
    obtain ⟨k, hk, rfl, hb, i1, hf, ha⟩ := hrel
    have HF := Lib.hid hf
    have HA := Lib.hid ha
    clear hf ha
    by_cases hlt : k < 16
    · have q1 := V_nibble hlt
      go_wp2
      go_loopw [3, 10] (fun c i wi => ∃ m : Nat, m ≤ 4 ∧ i = .int .i64 m ∧ c = .int .u16 (V (stps m (BitVec.ofNat 16 k <<< 12))) ∧ wi = wr) (fun _ i _ => 4 - (intOf i).toNat)
      case atStart => exact ⟨0, by omega, rfl, by first | exact congrArg _ q1 | rfl, rfl⟩
      case round =>
        obtain ⟨m, hm, rfl, rfl, rfl⟩ := hrel
        by_cases hlm : m < 4
        · have q2 := V_top (stps m (BitVec.ofNat 16 k <<< 12))
          have q3 := V_shl1 (stps m (BitVec.ofNat 16 k <<< 12))
          have q4 := V_poly (stps m (BitVec.ofNat 16 k <<< 12) <<< 1)
          have q5 : Hid (stps (m + 1) (BitVec.ofNat 16 k <<< 12) = stp (stps m (BitVec.ofNat 16 k <<< 12))) := stps_succ _ _
          clear q1
          cases hmsb : (stps m (BitVec.ofNat 16 k <<< 12)).msb
          · go_wp2
            go_roundw
            case rel =>
              refine ⟨m + 1, by omega, by go_num, ?_, trivial⟩
              rw [q5.out, stp, hmsb]; rfl
            case measure => simp [intOf]; omega
          · go_wp2
            go_roundw
            case rel =>
              refine ⟨m + 1, by omega, by go_num, ?_, trivial⟩
              rw [q5.out, stp, hmsb]; rfl
            case measure => simp [intOf]; omega
        · obtain rfl : m = 4 := by omega
          have hc1 := HA.out k hlt
          have hf1 := (HF.out k hlt).2.1
          go_wp2
          go_roundw
          case rel =>
            refine ⟨k + 1, by omega, by go_num, by (repeat' (first | (with_reducible exact Below.refl _ _) | (with_reducible assumption) | (with_reducible refine Below.setCell ?_ ?_ _) | (with_reducible refine Below.alloc ?_ ?_ _) | (with_reducible refine Below.drew ?_) | (with_reducible refine Up.base _ ?_ ?_) | (with_reducible exact LeSize.out) | exact LeSize.out | exact Nat.le_add_right_of_le LeSize.out | exact Nat.le_add_right_of_le (Nat.le_add_right_of_le LeSize.out) | (with_reducible exact Nat.le_refl _) | (simp; done) | (simp; omega))), inferInstance, fun j hj => ?_, fun j hj => ?_⟩
            · have h := HF.out j hj
              refine ⟨?_, ?_, ?_⟩
              · simp [go_sem, h.1]
              · simp [go_sem, h.2.1]
              · rw [World.cell?_setCell_other _ _ _ _ (by simp)]; exact h.2.2
            · by_cases hjk : j = k
              · subst hjk
                rw [World.cell?_setCell_same _ _ _ hc1]
                show _ = some (Value.int .u16 (V (if j < j + 1 then tabT j else 0#16)))
                rw [if_pos (by omega)]; rfl
              · rw [World.cell?_setCell_other _ _ _ _ (by first | (simp; done) | (simp; omega))]
                refine (HA.out j hj).trans ?_
                show some (Value.int .u16 (V (if j < k then tabT j else 0#16))) = some (Value.int .u16 (V (if j < k + 1 then tabT j else 0#16)))
                by_cases h1 : j < k
                · rw [if_pos h1, if_pos (by omega)]
                · rw [if_neg h1, if_neg (by omega)]
          case measure => simp [intOf]; omega
    · obtain rfl : k = 16 := by omega
      have a := HA.out
      have t0 : wr.cell? ⟨w.heap.size + 1, 0, none⟩ = some (.int .u16 (V (tabT 0))) := a 0 (by omega)
      have t1 : wr.cell? ⟨w.heap.size + 1, 1, none⟩ = some (.int .u16 (V (tabT 1))) := a 1 (by omega)
      have t2 : wr.cell? ⟨w.heap.size + 1, 2, none⟩ = some (.int .u16 (V (tabT 2))) := a 2 (by omega)
      have t3 : wr.cell? ⟨w.heap.size + 1, 3, none⟩ = some (.int .u16 (V (tabT 3))) := a 3 (by omega)
      have t4 : wr.cell? ⟨w.heap.size + 1, 4, none⟩ = some (.int .u16 (V (tabT 4))) := a 4 (by omega)
      have t5 : wr.cell? ⟨w.heap.size + 1, 5, none⟩ = some (.int .u16 (V (tabT 5))) := a 5 (by omega)
      have t6 : wr.cell? ⟨w.heap.size + 1, 6, none⟩ = some (.int .u16 (V (tabT 6))) := a 6 (by omega)
      have t7 : wr.cell? ⟨w.heap.size + 1, 7, none⟩ = some (.int .u16 (V (tabT 7))) := a 7 (by omega)
      have t8 : wr.cell? ⟨w.heap.size + 1, 8, none⟩ = some (.int .u16 (V (tabT 8))) := a 8 (by omega)
      have t9 : wr.cell? ⟨w.heap.size + 1, 9, none⟩ = some (.int .u16 (V (tabT 9))) := a 9 (by omega)
      have t10 : wr.cell? ⟨w.heap.size + 1, 10, none⟩ = some (.int .u16 (V (tabT 10))) := a 10 (by omega)
      have t11 : wr.cell? ⟨w.heap.size + 1, 11, none⟩ = some (.int .u16 (V (tabT 11))) := a 11 (by omega)
      have t12 : wr.cell? ⟨w.heap.size + 1, 12, none⟩ = some (.int .u16 (V (tabT 12))) := a 12 (by omega)
      have t13 : wr.cell? ⟨w.heap.size + 1, 13, none⟩ = some (.int .u16 (V (tabT 13))) := a 13 (by omega)
      have t14 : wr.cell? ⟨w.heap.size + 1, 14, none⟩ = some (.int .u16 (V (tabT 14))) := a 14 (by omega)
      have t15 : wr.cell? ⟨w.heap.size + 1, 15, none⟩ = some (.int .u16 (V (tabT 15))) := a 15 (by omega)
      have f0 := (HF.out 0 (by omega)).1
      have f1 := (HF.out 1 (by omega)).1
      have f2 := (HF.out 2 (by omega)).1
      have f3 := (HF.out 3 (by omega)).1
      have f4 := (HF.out 4 (by omega)).1
      have f5 := (HF.out 5 (by omega)).1
      have f6 := (HF.out 6 (by omega)).1
      have f7 := (HF.out 7 (by omega)).1
      have f8 := (HF.out 8 (by omega)).1
      have f9 := (HF.out 9 (by omega)).1
      have f10 := (HF.out 10 (by omega)).1
      have f11 := (HF.out 11 (by omega)).1
      have f12 := (HF.out 12 (by omega)).1
      have f13 := (HF.out 13 (by omega)).1
      have f14 := (HF.out 14 (by omega)).1
      have f15 := (HF.out 15 (by omega)).1
      have s0 := (HF.out 0 (by omega)).2.2
      have s1 := (HF.out 1 (by omega)).2.2
      have s2 := (HF.out 2 (by omega)).2.2
      have s3 := (HF.out 3 (by omega)).2.2
      have s4 := (HF.out 4 (by omega)).2.2
      have s5 := (HF.out 5 (by omega)).2.2
      have s6 := (HF.out 6 (by omega)).2.2
      have s7 := (HF.out 7 (by omega)).2.2
      have s8 := (HF.out 8 (by omega)).2.2
      have s9 := (HF.out 9 (by omega)).2.2
      have s10 := (HF.out 10 (by omega)).2.2
      have s11 := (HF.out 11 (by omega)).2.2
      have s12 := (HF.out 12 (by omega)).2.2
      have s13 := (HF.out 13 (by omega)).2.2
      have s14 := (HF.out 14 (by omega)).2.2
      have s15 := (HF.out 15 (by omega)).2.2
      clear a
      have j_s0 := HasCell.of s0
      have j_s1 := HasCell.of s1
      have j_s2 := HasCell.of s2
      have j_s3 := HasCell.of s3
      have j_s4 := HasCell.of s4
      have j_s5 := HasCell.of s5
      have j_s6 := HasCell.of s6
      have j_s7 := HasCell.of s7
      have j_s8 := HasCell.of s8
      have j_s9 := HasCell.of s9
      have j_s10 := HasCell.of s10
      have j_s11 := HasCell.of s11
      have j_s12 := HasCell.of s12
      have j_s13 := HasCell.of s13
      have j_s14 := HasCell.of s14
      have j_s15 := HasCell.of s15
      go_wp2
      go_returns
      exact ⟨rfl, by (repeat' (first | (with_reducible exact Below.refl _ _) | (with_reducible assumption) | (with_reducible refine Below.setCell ?_ ?_ _) | (with_reducible refine Below.alloc ?_ ?_ _) | (with_reducible refine Below.drew ?_) | (with_reducible refine Up.base _ ?_ ?_) | (with_reducible exact LeSize.out) | exact LeSize.out | exact Nat.le_add_right_of_le LeSize.out | exact Nat.le_add_right_of_le (Nat.le_add_right_of_le LeSize.out) | (with_reducible exact Nat.le_refl _) | (simp; done) | (simp; omega)))⟩
end Go.Proofs.Ytepdmkkeohjkhaa
