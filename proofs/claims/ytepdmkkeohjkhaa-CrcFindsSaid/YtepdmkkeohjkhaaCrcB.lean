/- The contracts of crc.Add and crc.Of. -/
import Derived.Test.YtepdmkkeohjkhaaCrcA
namespace Go.Proofs.Ytepdmkkeohjkhaa
open Go.RowKit
set_option linter.unusedVariables false

theorem crc_take {zs : List Int} {k : Nat} (h : k < zs.length) (c : W16) : crcL c (zs.take (k + 1)) = crcB (crcL c (zs.take k)) zs[k] := by
  rw [← crcL_snoc, List.take_succ_eq_append_getElem h]
theorem ret_u16 {a b : W16} (h : a = b) : Ending.returned (.int .u16 (V a)) = .returned (.int .u16 (V b)) := by rw [h]
theorem V_idx (c : W16) : V (c >>> 12) = (((c >>> 12).toNat : Nat) : Int) := by unfold V; rfl
theorem idx_lt (c : W16) : (c >>> 12).toNat < 16 := by
  rw [BitVec.toNat_ushiftRight, Nat.shiftRight_eq_div_pow]
  have := c.isLt
  omega
theorem V_idx4096 (c : W16) : V c / (4096 : Int) = (((c >>> 12).toNat : Nat) : Int) := by
  have h := V_shr c 12
  rw [V_idx] at h
  exact h
theorem idx_eq (c : W16) : (V c / (4096 : Int)).toNat = (c >>> 12).toNat := by rw [V_idx4096, Int.toNat_natCast]
theorem idx_bd (c : W16) : 0 ≤ V c / (4096 : Int) ∧ V c / (4096 : Int) < 16 := by
  have := idx_lt c
  rw [V_idx4096]; omega
set_option maxHeartbeats 2000000 in
theorem add_any (c0 : W16) (a : Option Addr) (len cap : Nat) (zs : List Int) (w : World) (hl : zs.length = len) (hm : len ≤ 9223372036854775807) (hi : Bytes w a zs) (hz : ∀ i, i < zs.length → InKind .u8 (zs.getD i 0)) :
    Calls Try.prog 9 #[.int .u16 (V c0), .slice a len cap] w fun e w' => e = .returned (.int .u16 (V (crcL c0 zs))) ∧ Below w.heap.size w w' := by
  subst hl
  have HI := Lib.hid hi
  have HZ := Lib.hid hz
  clear hi hz
  go_enter Try.func9, Try.ntmps9
  go_wp2_with fail
  refine (Up.run (rows_any _)).mono ?_
  rintro e w' ⟨rfl, u, rfl⟩
  go_wp2
  go_loopw [0, 11] (fun c i wr => ∃ k : Nat, k ≤ zs.length ∧ i = .int .i64 k ∧ c = .int .u16 (V (crcL c0 (zs.take k))) ∧ Below w.heap.size w wr ∧ ArrSt wr u.w.heap.size tabT) (fun _ i _ => zs.length - (intOf i).toNat)
  case atStart =>
    refine ⟨0, Nat.zero_le _, rfl, rfl, by (repeat' (first | (with_reducible exact Below.refl _ _) | (with_reducible assumption) | (with_reducible refine Below.setCell ?_ ?_ _) | (with_reducible refine Below.alloc ?_ ?_ _) | (with_reducible refine Below.drew ?_) | (with_reducible refine Up.base _ ?_ ?_) | (with_reducible exact LeSize.out) | exact LeSize.out | exact Nat.le_add_right_of_le LeSize.out | exact Nat.le_add_right_of_le (Nat.le_add_right_of_le LeSize.out) | (with_reducible exact Nat.le_refl _) | (simp; done) | (simp; omega))), fun j hj => ?_⟩
    rw [World.cell?_alloc_at _ _ _ _ rfl]
    have h : ∀ j : Nat, j < 16 → j = 0 ∨ j = 1 ∨ j = 2 ∨ j = 3 ∨ j = 4 ∨ j = 5 ∨ j = 6 ∨ j = 7 ∨ j = 8 ∨ j = 9 ∨ j = 10 ∨ j = 11 ∨ j = 12 ∨ j = 13 ∨ j = 14 ∨ j = 15 := by omega
    rcases h j hj with rfl | rfl | rfl | rfl | rfl | rfl | rfl | rfl | rfl | rfl | rfl | rfl | rfl | rfl | rfl | rfl <;> rfl
  case round =>
    obtain ⟨k, hk, rfl, rfl, hb, ha⟩ := hrel
    have HA := Lib.hid ha
    clear ha
    by_cases hlt : k < zs.length
    · obtain ⟨b, off, rfl, hbs, hc⟩ := HI.out.cell (by omega)
      have hcell : wr.cell? ⟨b, off + k, none⟩ = some (.int .u8 (zs.getD k 0)) := by rw [hb.cell (p := ⟨b, off + k, none⟩) (by simpa using hbs)]; exact hc k hlt
      have hx : 0 ≤ zs.getD k 0 ∧ zs.getD k 0 ≤ 255 := HZ.out k hlt
      have hg : zs.getD k 0 = zs[k] := by simp [List.getD, hlt]
      rw [hg] at hx hcell
      have hs : Hid (crcL c0 (zs.take (k + 1)) = crcB (crcL c0 (zs.take k)) zs[k]) := crc_take hlt c0
      clear hc hg
      generalize zs[k] = x at *
      generalize crcL c0 (zs.take k) = c at *
      have q1 := V_byte hx
      have q2 := V_xor c (byT x)
      obtain ⟨c1, hc1⟩ : ∃ c1, c1 = c ^^^ byT x := ⟨_, rfl⟩
      rw [← hc1] at q2
      have q3 := V_shl4 c1
      obtain ⟨p1, n1⟩ := idx_bd c1
      have t1 := HA.out (V c1 / 4096).toNat (by omega)
      have q5 := V_xor (c1 <<< 4) (tabT (V c1 / 4096).toNat)
      obtain ⟨c2, hc2⟩ : ∃ c2, c2 = (c1 <<< 4) ^^^ tabT (V c1 / 4096).toNat := ⟨_, rfl⟩
      rw [← hc2] at q5
      have q6 := V_shl4 c2
      obtain ⟨p2, n2⟩ := idx_bd c2
      have t2 := HA.out (V c2 / 4096).toNat (by omega)
      have q8 := V_xor (c2 <<< 4) (tabT (V c2 / 4096).toNat)
      obtain ⟨c3, hc3⟩ : ∃ c3, c3 = (c2 <<< 4) ^^^ tabT (V c2 / 4096).toNat := ⟨_, rfl⟩
      rw [← hc3] at q8
      have hfin : Hid (crcB c x = c3) := by
        show crcB c x = c3
        rw [hc3, idx_eq, hc2, idx_eq, hc1]; rfl
      clear hc1 hc2 hc3
      go_wp2
      go_roundw
      case rel => exact ⟨k + 1, by omega, by go_num, by rw [hs.out, hfin.out], hb, HA.out⟩
      case measure => simp [intOf]; omega
    · go_wp2
      go_ret
      exact ⟨ret_u16 (by rw [List.take_of_length_le (by omega)]), hb⟩
set_option maxHeartbeats 400000 in
theorem of_any (a : Option Addr) (len cap : Nat) (zs : List Int) (w : World) (hl : zs.length = len) (hm : len ≤ 9223372036854775807) (hi : Bytes w a zs) (hz : ∀ i, i < zs.length → InKind .u8 (zs.getD i 0)) :
    Calls Try.prog 11 #[.slice a len cap] w fun e w' => e = .returned (.int .u16 (V (crcL 65535#16 zs))) ∧ Below w.heap.size w w' := by
  have v0 : V 65535#16 = 65535 := by unfold V; rfl
  have c := add_any 65535#16 a len cap zs w hl hm hi hz
  rw [v0] at c
  have C := Lib.hid c
  clear c hi hz v0
  go_enter Try.func11, Try.ntmps11
  go_wp2_with fail
  refine (Up.run C.out).mono ?_
  rintro e w' ⟨rfl, u, rfl⟩
  go_wp2
  go_ret
  exact ⟨rfl, by (repeat' (first | (with_reducible exact Below.refl _ _) | (with_reducible assumption) | (with_reducible refine Below.setCell ?_ ?_ _) | (with_reducible refine Below.alloc ?_ ?_ _) | (with_reducible refine Below.drew ?_) | (with_reducible refine Up.base _ ?_ ?_) | (with_reducible exact LeSize.out) | exact LeSize.out | exact Nat.le_add_right_of_le LeSize.out | exact Nat.le_add_right_of_le (Nat.le_add_right_of_le LeSize.out) | (with_reducible exact Nat.le_refl _) | (simp; done) | (simp; omega)))⟩
end Go.Proofs.Ytepdmkkeohjkhaa
