/- The contract of the reference's checksum, and of 'awake'. -/
import Derived.Test.YtepdmkkeohjkhaaCrcB
namespace Go.Proofs.Ytepdmkkeohjkhaa
open Go.RowKit
set_option linter.unusedVariables false

/-- The reference, j bits further within a byte. -/
def refJ (c : W16) (x : Int) (j : Nat) : W16 := stps j (c ^^^ byT x) ^^^ (byT x <<< j)
theorem refJ_8 (c : W16) (x : Int) : refJ c x 8 = crcB c x := by
  have : byT x <<< 8 = 0#16 := by unfold byT; rw [← BitVec.shiftLeft_add]; exact BitVec.shiftLeft_eq_zero (by decide)
  unfold refJ; rw [this, crcB_eq]; simp
theorem refJ_0 (c : W16) (x : Int) : refJ c x 0 = c := by unfold refJ; rw [BitVec.shiftLeft_zero]; show (c ^^^ byT x) ^^^ byT x = c; rw [BitVec.xor_assoc, BitVec.xor_self, BitVec.xor_zero]
theorem refJ_succ (c : W16) (x : Int) (j : Nat) : refJ c x (j + 1) = if (refJ c x j).msb != (byT x <<< j).msb then (refJ c x j <<< 1) ^^^ 4129#16 else refJ c x j <<< 1 := by
  unfold refJ
  rw [stps_succ]
  generalize stps j (c ^^^ byT x) = d
  have hy : byT x <<< (j + 1) = (byT x <<< j) <<< 1 := BitVec.shiftLeft_add _ _ _
  rw [hy]
  generalize byT x <<< j = y
  unfold stp
  rw [BitVec.msb_xor, xor_shl]
  generalize d <<< 1 = d1
  generalize y <<< 1 = y1
  generalize (4129#16 : W16) = p
  have e : d1 ^^^ p ^^^ y1 = d1 ^^^ y1 ^^^ p := by rw [BitVec.xor_assoc, BitVec.xor_comm p y1, ← BitVec.xor_assoc]
  cases d.msb <;> cases y.msb <;> simp [e]
theorem V_msb (c : W16) : V c / (32768 : Int) = if c.msb then 1 else 0 := by
  rw [BitVec.msb_eq_decide]
  have := c.isLt
  unfold V
  by_cases h : 2 ^ (16 - 1) ≤ c.toNat
  · simp only [h, decide_true, if_true]; omega
  · simp only [h, decide_false]; simp; omega

theorem bit_fin : ∀ x : Fin 256, ∀ j : Fin 8, IntKind.u16.wrap (bits .and .u8 (((x.1 : Nat) : Int) / (2 : Int) ^ (7 - j.1)) 1) = if (byT ((x.1 : Nat) : Int) <<< j.1).msb then (1 : Int) else 0 := by decide +kernel
theorem bit_test (c : W16) {x : Int} (hx : 0 ≤ x ∧ x ≤ 255) {j : Nat} (hj : j < 8) :
    (V c / (32768 : Int) != IntKind.u16.wrap (bits .and .u8 (x / (2 : Int) ^ (7 - j)) 1)) = (c.msb != (byT x <<< j).msb) := by
  obtain ⟨n, rfl⟩ := Int.eq_ofNat_of_zero_le hx.1
  have h := bit_fin ⟨n, by omega⟩ ⟨j, hj⟩
  simp only at h
  rw [h, V_msb]
  cases c.msb <;> cases (byT (n : Int) <<< j).msb <;> rfl

set_option maxHeartbeats 1000000 in
theorem rcrc_any (c0 : W16) (a : Option Addr) (len cap : Nat) (zs : List Int) (w : World) (hl : zs.length = len) (hm : len ≤ 9223372036854775807) (hi : Bytes w a zs) (hz : ∀ i, i < zs.length → InKind .u8 (zs.getD i 0)) :
    Calls Try.prog 10 #[.int .u16 (V c0), .slice a len cap] w fun e w' => e = .returned (.int .u16 (V (crcL c0 zs))) ∧ w = w' := by
  subst hl
  have HI := Lib.hid hi
  have HZ := Lib.hid hz
  clear hi hz
  go_enter Try.func10, Try.ntmps10
  go_wp2
  go_loop [0, 5] (fun c i => ∃ k : Nat, k ≤ zs.length ∧ i = .int .i64 k ∧ c = .int .u16 (V (crcL c0 (zs.take k)))) (fun _ i => zs.length - (intOf i).toNat)
  case atStart => exact ⟨0, Nat.zero_le _, rfl, rfl⟩
  case round =>
    obtain ⟨k, hk, rfl, rfl⟩ := hrel
    by_cases hlt : k < zs.length
    · obtain ⟨b, off, rfl, hbs, hc⟩ := HI.out.cell (by omega)
      have hcell := hc k hlt
      have hx : 0 ≤ zs.getD k 0 ∧ zs.getD k 0 ≤ 255 := HZ.out k hlt
      have hg : zs.getD k 0 = zs[k] := by simp [List.getD, hlt]
      rw [hg] at hx
      simp only [hg] at hcell
      have hs : Hid (crcL c0 (zs.take (k + 1)) = crcB (crcL c0 (zs.take k)) zs[k]) := crc_take hlt c0
      clear hc hg
      go_wp2
      generalize zs[k] = x at *
      generalize crcL c0 (zs.take k) = c at *
      go_loop [0, 6] (fun v i => ∃ j : Nat, j ≤ 8 ∧ i = .int .i64 (7 - (j : Int)) ∧ v = .int .u16 (V (refJ c x j))) (fun _ i => (intOf i + 1).toNat)
      case atStart => exact ⟨0, by omega, rfl, by rw [refJ_0]⟩
      case round =>
        obtain ⟨j, hj, rfl, rfl⟩ := hrel
        by_cases hj8 : j < 8
        · have h7 : 0 ≤ 7 - (j : Int) := by omega
          have h7' : 7 - (j : Int) < 8 := by omega
          have q3 := V_shl1 (refJ c x j)
          have q4 := V_poly (refJ c x j <<< 1)
          have q5 := bit_test (refJ c x j) hx hj8
          have q6 : Hid (refJ c x (j + 1) = if (refJ c x j).msb != (byT x <<< j).msb then (refJ c x j <<< 1) ^^^ 4129#16 else refJ c x j <<< 1) := refJ_succ c x j
          cases hm : ((refJ c x j).msb != (byT x <<< j).msb)
          · rw [hm] at q5
            have hfin : Hid (refJ c x (j + 1) = refJ c x j <<< 1) := by show _ = _; rw [q6.out, hm]; rfl
            clear hm q6
            go_wp2
            go_round
            case rel => exact ⟨j + 1, by omega, by congr 1; omega, by rw [hfin.out]⟩
            case measure => simp [intOf]; omega
          · rw [hm] at q5
            have hfin : Hid (refJ c x (j + 1) = (refJ c x j <<< 1) ^^^ 4129#16) := by show _ = _; rw [q6.out, hm]; rfl
            clear hm q6
            go_wp2
            go_round
            case rel => exact ⟨j + 1, by omega, by congr 1; omega, by rw [hfin.out]⟩
            case measure => simp [intOf]; omega
        · obtain rfl : j = 8 := by omega
          have h8 := refJ_8 c x
          go_wp2
          go_round
          case rel => exact ⟨k + 1, by omega, by go_num, by rw [hs.out, h8]⟩
          case measure => simp [intOf]; omega
    · go_wp2
      go_ret
      exact ⟨ret_u16 (by rw [List.take_of_length_le (by omega)]), rfl⟩
end Go.Proofs.Ytepdmkkeohjkhaa
