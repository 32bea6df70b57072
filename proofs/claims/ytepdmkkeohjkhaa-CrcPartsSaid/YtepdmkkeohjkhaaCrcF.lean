/- The law CrcParts: the walks, and the given statement. -/
import Derived.Test.YtepdmkkeohjkhaaCrcD
import Derived.Test.YtepdmkkeohjkhaaPlace
namespace Go.Proofs.Ytepdmkkeohjkhaa
open Go.ChangeShapes Go.WideShapes Go.ChangeAt Go.RowKit
set_option linter.unusedVariables false

theorem Bytes.sub {w : World} {b off : Nat} {zs : List Int} (h : Bytes w (some ⟨b, off, none⟩) zs) (k n : Nat) : Bytes w (some ⟨b, off + k, none⟩) ((zs.drop k).take n) := by
  rcases h with h | ⟨b, off, ha, hlt, hc⟩
  · exact .inl (by simp; omega)
  · cases ha
    refine .inr ⟨_, _, rfl, hlt, fun i hi => ?_⟩
    simp at hi
    have hki : k + i < zs.length := by omega
    rw [Nat.add_assoc, hc (k + i) hki]
    simp [List.getD, hi, hki]
theorem InB.sub {zs : List Int} (hz : ∀ i, i < zs.length → InKind .u8 (zs.getD i 0)) (k n : Nat) : ∀ i, i < ((zs.drop k).take n).length → InKind .u8 (((zs.drop k).take n).getD i 0) := by
  intro i hi
  simp at hi
  have hki : k + i < zs.length := by omega
  have e : ((zs.drop k).take n).getD i 0 = zs.getD (k + i) 0 := by simp [List.getD, hi, hki]
  rw [e]; exact hz _ (by omega)
theorem Bytes.nil (w : World) (a : Option Addr) : Bytes w a [] := .inl rfl
theorem crc_part (zs : List Int) (k n : Nat) (c : W16) : crcL (crcL c (zs.take k)) ((zs.drop k).take n) = crcL c (zs.take (k + n)) := by
  rw [← crcL_append, ← List.take_add]

set_option maxHeartbeats 2000000 in
theorem crcParts_nil (a2 : Option Addr) (cap2 : Nat) (zc : List Int) (w : World)
    (hl2 : zc.length ≤ cap2 ∧ cap2 ≤ 9223372036854775807) (hi2 : Ints w a2 zc) :
    Calls Try.prog 4 #[.slice none 0 0, .slice a2 zc.length cap2] w fun e w' => e = .returned (.bool true) ∧ Below w.heap.size w w' := by
  have HI2 := Lib.hid hi2
  clear hi2
  by_cases h20 : (20 : Int) < zc.length
  · go_enter Try.func4, Try.ntmps4
    go_wp2_with (go_at_call 8; refine (Up.run (awake_any _)).mono ?_; rintro e w' ⟨rfl, u, rfl⟩)
    go_ret
    exact ⟨rfl, by (repeat' (first | (with_reducible exact Below.refl _ _) | (with_reducible assumption) | (with_reducible refine Below.setCell ?_ ?_ _) | (with_reducible refine Below.alloc ?_ ?_ _) | (with_reducible refine Below.drew ?_) | (with_reducible refine Up.base _ ?_ ?_) | (with_reducible exact LeSize.out) | exact LeSize.out | exact Nat.le_add_right_of_le LeSize.out | exact Nat.le_add_right_of_le (Nat.le_add_right_of_le LeSize.out) | (with_reducible exact Nat.le_refl _) | (simp; done) | (simp; omega)))⟩
  have hnn : ∀ w : World, Calls Try.prog 9 #[.int .u16 (V (crcL 65535#16 [])), .slice none 0 0] w fun e w' => e = .returned (.int .u16 (V (crcL 65535#16 []))) ∧ Below w.heap.size w w' :=
    fun w => add_any _ none 0 0 [] _ rfl (by omega) (Bytes.nil _ _) (fun i hi => absurd hi (by simp))
  have HN := Lib.hid hnn
  clear hnn
  go_enter Try.func4, Try.ntmps4
  go_wp2_with fail
  refine (Up.run (of_any none 0 0 [] _ rfl (by omega) (Bytes.nil _ _) (fun i hi => absurd hi (by simp)))).mono ?_
  rintro e w' ⟨rfl, u0, rfl⟩
  generalize hcx : crcL 65535#16 [] = cx at *
  have HX := Lib.hid hcx
  clear hcx
  go_wp2
  go_loopw [5, 6, 7] (fun c t i wr => ∃ k : Nat, k ≤ zc.length ∧ i = .int .i64 k ∧ t = .int .i64 0 ∧ c = .int .u16 (V cx) ∧ Below w.heap.size w wr) (fun _ _ i _ => zc.length - (intOf i).toNat)
  case atStart => exact ⟨0, by omega, rfl, rfl, rfl, by (repeat' (first | (with_reducible exact Below.refl _ _) | (with_reducible assumption) | (with_reducible refine Below.setCell ?_ ?_ _) | (with_reducible refine Below.alloc ?_ ?_ _) | (with_reducible refine Below.drew ?_) | (with_reducible refine Up.base _ ?_ ?_) | (with_reducible exact LeSize.out) | exact LeSize.out | exact Nat.le_add_right_of_le LeSize.out | exact Nat.le_add_right_of_le (Nat.le_add_right_of_le LeSize.out) | (with_reducible exact Nat.le_refl _) | (simp; done) | (simp; omega)))⟩
  case round =>
    obtain ⟨k, hk, rfl, rfl, rfl, hb⟩ := hrel
    have i0 : LeSize w.heap.size wr := ⟨hb.size⟩
    by_cases hlt : k < zc.length
    · obtain ⟨b2, off2, rfl, hbs2, hc2⟩ := HI2.out.cell (by omega)
      have hcell : wr.cell? ⟨b2, off2 + k, none⟩ = some (.int .i64 (zc.getD k 0)) := by rw [hb.cell (p := ⟨b2, off2 + k, none⟩) (by simpa using hbs2)]; exact hc2 k hlt
      clear hc2
      have q0 : 0 ≤ zc[k] % 40 := Int.emod_nonneg _ (by decide)
      go_wp2_with fail
      refine (place_any _ _ _ (by omega) (by omega)).mono ?_
      rintro e w' ⟨rfl, rfl⟩
      generalize zc[k] % 40 = q at *
      by_cases hq : q < 0
      · exfalso; omega
      go_wp2_with fail
      refine (Up.run (HN.out _)).mono ?_
      rintro e w' ⟨rfl, u1, rfl⟩
      go_wp2
      go_roundw
      case rel => exact ⟨k + 1, by omega, by go_num, rfl, rfl, by (repeat' (first | (with_reducible exact Below.refl _ _) | (with_reducible assumption) | (with_reducible refine Below.setCell ?_ ?_ _) | (with_reducible refine Below.alloc ?_ ?_ _) | (with_reducible refine Below.drew ?_) | (with_reducible refine Up.base _ ?_ ?_) | (with_reducible exact LeSize.out) | exact LeSize.out | exact Nat.le_add_right_of_le LeSize.out | exact Nat.le_add_right_of_le (Nat.le_add_right_of_le LeSize.out) | (with_reducible exact Nat.le_refl _) | (simp; done) | (simp; omega)))⟩
      case measure => simp [intOf]; omega
    · go_wp2_with fail
      refine (Up.run (HN.out _)).mono ?_
      rintro e w' ⟨rfl, u1, rfl⟩
      go_wp2_with fail
      refine (Up.run (of_any none 0 0 [] _ rfl (by omega) (Bytes.nil _ _) (fun i hi => absurd hi (by simp)))).mono ?_
      rw [HX.out]
      rintro e w' ⟨rfl, u2, rfl⟩
      go_wp2_with (go_at_call 8; refine (Up.run (awake_any _)).mono ?_; rintro e w' ⟨rfl, u, rfl⟩)
      go_ret
      exact ⟨rfl, by (repeat' (first | (with_reducible exact Below.refl _ _) | (with_reducible assumption) | (with_reducible refine Below.setCell ?_ ?_ _) | (with_reducible refine Below.alloc ?_ ?_ _) | (with_reducible refine Below.drew ?_) | (with_reducible refine Up.base _ ?_ ?_) | (with_reducible exact LeSize.out) | exact LeSize.out | exact Nat.le_add_right_of_le LeSize.out | exact Nat.le_add_right_of_le (Nat.le_add_right_of_le LeSize.out) | (with_reducible exact Nat.le_refl _) | (simp; done) | (simp; omega)))⟩

set_option maxHeartbeats 2000000 in
theorem crcParts_some (b off : Nat) (cap : Nat) (zs : List Int) (a2 : Option Addr) (cap2 : Nat) (zc : List Int) (w : World)
    (hl : zs.length ≤ cap ∧ cap ≤ 9223372036854775807) (hbb : b < w.heap.size) (hi : Bytes w (some ⟨b, off, none⟩) zs) (hz : ∀ i, i < zs.length → InKind .u8 (zs.getD i 0))
    (hl2 : zc.length ≤ cap2 ∧ cap2 ≤ 9223372036854775807) (hh2 : Hdr w a2 cap2) (hi2 : Ints w a2 zc) (hz2 : ∀ i, i < zc.length → InKind .i64 (zc.getD i 0)) :
    Calls Try.prog 4 #[.slice (some ⟨b, off, none⟩) zs.length cap, .slice a2 zc.length cap2] w fun e w' => e = .returned (.bool true) ∧ Below w.heap.size w w' := by
  have HI := Lib.hid hi
  have HZ := Lib.hid hz
  have HI2 := Lib.hid hi2
  clear hi hz hi2 hz2 hh2
  by_cases h300 : (300 : Int) < zs.length
  · go_enter Try.func4, Try.ntmps4
    go_wp2_with (go_at_call 8; refine (Up.run (awake_any _)).mono ?_; rintro e w' ⟨rfl, u, rfl⟩)
    go_ret
    exact ⟨rfl, by (repeat' (first | (with_reducible exact Below.refl _ _) | (with_reducible assumption) | (with_reducible refine Below.setCell ?_ ?_ _) | (with_reducible refine Below.alloc ?_ ?_ _) | (with_reducible refine Below.drew ?_) | (with_reducible refine Up.base _ ?_ ?_) | (with_reducible exact LeSize.out) | exact LeSize.out | exact Nat.le_add_right_of_le LeSize.out | exact Nat.le_add_right_of_le (Nat.le_add_right_of_le LeSize.out) | (with_reducible exact Nat.le_refl _) | (simp; done) | (simp; omega)))⟩
  by_cases h20 : (20 : Int) < zc.length
  · go_enter Try.func4, Try.ntmps4
    go_wp2_with (go_at_call 8; refine (Up.run (awake_any _)).mono ?_; rintro e w' ⟨rfl, u, rfl⟩)
    go_ret
    exact ⟨rfl, by (repeat' (first | (with_reducible exact Below.refl _ _) | (with_reducible assumption) | (with_reducible refine Below.setCell ?_ ?_ _) | (with_reducible refine Below.alloc ?_ ?_ _) | (with_reducible refine Below.drew ?_) | (with_reducible refine Up.base _ ?_ ?_) | (with_reducible exact LeSize.out) | exact LeSize.out | exact Nat.le_add_right_of_le LeSize.out | exact Nat.le_add_right_of_le (Nat.le_add_right_of_le LeSize.out) | (with_reducible exact Nat.le_refl _) | (simp; done) | (simp; omega)))⟩
  have hm : zs.length ≤ 9223372036854775807 := by omega
  go_enter Try.func4, Try.ntmps4
  go_wp2_with fail
  refine (Up.run (of_any none 0 0 [] _ rfl (by omega) (Bytes.nil _ _) (fun i hi => absurd hi (by simp)))).mono ?_
  rintro e w' ⟨rfl, u0, rfl⟩
  go_wp2
  go_loopw [5, 6, 7] (fun c t i wr => ∃ k at' : Nat, k ≤ zc.length ∧ at' ≤ zs.length ∧ i = .int .i64 k ∧ t = .int .i64 at' ∧ c = .int .u16 (V (crcL 65535#16 (zs.take at'))) ∧ Below w.heap.size w wr) (fun _ _ i _ => zc.length - (intOf i).toNat)
  case atStart => exact ⟨0, 0, by omega, by omega, rfl, rfl, rfl, by (repeat' (first | (with_reducible exact Below.refl _ _) | (with_reducible assumption) | (with_reducible refine Below.setCell ?_ ?_ _) | (with_reducible refine Below.alloc ?_ ?_ _) | (with_reducible refine Below.drew ?_) | (with_reducible refine Up.base _ ?_ ?_) | (with_reducible exact LeSize.out) | exact LeSize.out | exact Nat.le_add_right_of_le LeSize.out | exact Nat.le_add_right_of_le (Nat.le_add_right_of_le LeSize.out) | (with_reducible exact Nat.le_refl _) | (simp; done) | (simp; omega)))⟩
  case round =>
    obtain ⟨k, t, hk, ht, rfl, rfl, rfl, hb⟩ := hrel
    have i0 : LeSize w.heap.size wr := ⟨hb.size⟩
    by_cases hlt : k < zc.length
    · obtain ⟨b2, off2, rfl, hbs2, hc2⟩ := HI2.out.cell (by omega)
      have hcell : wr.cell? ⟨b2, off2 + k, none⟩ = some (.int .i64 (zc.getD k 0)) := by rw [hb.cell (p := ⟨b2, off2 + k, none⟩) (by simpa using hbs2)]; exact hc2 k hlt
      clear hc2
      have q0 : 0 ≤ zc[k] % 40 := Int.emod_nonneg _ (by decide)
      have q1 : zc[k] % 40 < 40 := Int.emod_lt_of_pos _ (by decide)
      go_wp2_with fail
      refine (place_any _ _ _ (by omega) (by omega)).mono ?_
      rintro e w' ⟨rfl, rfl⟩
      generalize zc[k] % 40 = q at *
      obtain ⟨qn, rfl⟩ := Int.eq_ofNat_of_zero_le q0
      · by_cases hq : (qn : Int) < zs.length - t
        · go_wp2_with fail
          refine (Up.run (add_any _ _ _ _ ((zs.drop t).take qn) _ (by simp; omega) (by omega) (Bytes.sub (Row1.below HI.out hb (Nat.le_refl _)) t qn) (InB.sub HZ.out t qn))).mono ?_
          rw [crc_part]
          rintro e w' ⟨rfl, u1, rfl⟩
          go_wp2
          go_roundw
          case rel => exact ⟨k + 1, t + qn, by omega, by omega, by go_num, by go_num, rfl, by (repeat' (first | (with_reducible exact Below.refl _ _) | (with_reducible assumption) | (with_reducible refine Below.setCell ?_ ?_ _) | (with_reducible refine Below.alloc ?_ ?_ _) | (with_reducible refine Below.drew ?_) | (with_reducible refine Up.base _ ?_ ?_) | (with_reducible exact LeSize.out) | exact LeSize.out | exact Nat.le_add_right_of_le LeSize.out | exact Nat.le_add_right_of_le (Nat.le_add_right_of_le LeSize.out) | (with_reducible exact Nat.le_refl _) | (simp; done) | (simp; omega)))⟩
          case measure => simp [intOf]; omega
        · by_cases hcap : cap ≤ t
          · have ht2 : zs.length ≤ t := by omega
            have hd : zs.drop t = [] := List.drop_eq_nil_of_le (by omega)
            go_wp2_with fail
            refine (Up.run (add_any _ _ _ _ [] _ (by simp; try omega) (by omega) (Bytes.nil _ _) (fun i hi => absurd hi (by simp)))).mono ?_
            rintro e w' ⟨rfl, u1, rfl⟩
            go_wp2
            go_roundw
            case rel => exact ⟨k + 1, t, by omega, by omega, by go_num, by congr 1; omega, by first | rfl | simp [crcL], by (repeat' (first | (with_reducible exact Below.refl _ _) | (with_reducible assumption) | (with_reducible refine Below.setCell ?_ ?_ _) | (with_reducible refine Below.alloc ?_ ?_ _) | (with_reducible refine Below.drew ?_) | (with_reducible refine Up.base _ ?_ ?_) | (with_reducible exact LeSize.out) | exact LeSize.out | exact Nat.le_add_right_of_le LeSize.out | exact Nat.le_add_right_of_le (Nat.le_add_right_of_le LeSize.out) | (with_reducible exact Nat.le_refl _) | (simp; done) | (simp; omega)))⟩
            case measure => simp [intOf]; omega
          · go_wp2_with fail
            refine (Up.run (add_any _ _ _ _ ((zs.drop t).take (zs.length - t)) _ (by simp; try omega) (by omega) (Bytes.sub (Row1.below HI.out hb (Nat.le_refl _)) t _) (InB.sub HZ.out t _))).mono ?_
            rw [crc_part]
            rintro e w' ⟨rfl, u1, rfl⟩
            go_wp2
            go_roundw
            case rel => exact ⟨k + 1, t + (zs.length - t), by omega, by omega, by go_num, by congr 1; omega, by first | rfl | (rw [List.take_of_length_le (by omega)]), by (repeat' (first | (with_reducible exact Below.refl _ _) | (with_reducible assumption) | (with_reducible refine Below.setCell ?_ ?_ _) | (with_reducible refine Below.alloc ?_ ?_ _) | (with_reducible refine Below.drew ?_) | (with_reducible refine Up.base _ ?_ ?_) | (with_reducible exact LeSize.out) | exact LeSize.out | exact Nat.le_add_right_of_le LeSize.out | exact Nat.le_add_right_of_le (Nat.le_add_right_of_le LeSize.out) | (with_reducible exact Nat.le_refl _) | (simp; done) | (simp; omega)))⟩
            case measure => simp [intOf]; omega
    · skip
      · by_cases hcap : cap ≤ t
        · have ht2 : zs.length ≤ t := by omega
          have htk : zs.take t = zs := List.take_of_length_le (by omega)
          rw [htk]
          go_wp2_with fail
          refine (Up.run (add_any _ _ _ _ [] _ (by simp; try omega) (by omega) (Bytes.nil _ _) (fun i hi => absurd hi (by simp)))).mono ?_
          rintro e w' ⟨rfl, u1, rfl⟩
          rw [show crcL (crcL 65535#16 zs) [] = crcL 65535#16 zs from rfl]
          go_wp2_with fail
          refine (Up.run (of_any _ _ _ zs _ rfl hm (Row1.up u1 (Row1.below HI.out hb (Nat.le_refl _))) HZ.out)).mono ?_
          rintro e w' ⟨rfl, u2, rfl⟩
          go_wp2_with (go_at_call 8; refine (Up.run (awake_any _)).mono ?_; rintro e w' ⟨rfl, u, rfl⟩)
          go_ret
          exact ⟨rfl, by (repeat' (first | (with_reducible exact Below.refl _ _) | (with_reducible assumption) | (with_reducible refine Below.setCell ?_ ?_ _) | (with_reducible refine Below.alloc ?_ ?_ _) | (with_reducible refine Below.drew ?_) | (with_reducible refine Up.base _ ?_ ?_) | (with_reducible exact LeSize.out) | exact LeSize.out | exact Nat.le_add_right_of_le LeSize.out | exact Nat.le_add_right_of_le (Nat.le_add_right_of_le LeSize.out) | (with_reducible exact Nat.le_refl _) | (simp; done) | (simp; omega)))⟩
        · go_wp2_with fail
          refine (Up.run (add_any _ _ _ _ ((zs.drop t).take (zs.length - t)) _ (by simp; try omega) (by omega) (Bytes.sub (Row1.below HI.out hb (Nat.le_refl _)) t _) (InB.sub HZ.out t _))).mono ?_
          rw [crc_part, show zs.take (t + (zs.length - t)) = zs from List.take_of_length_le (by omega)]
          rintro e w' ⟨rfl, u1, rfl⟩
          go_wp2_with fail
          refine (Up.run (of_any _ _ _ zs _ rfl hm (Row1.up u1 (Row1.below HI.out hb (Nat.le_refl _))) HZ.out)).mono ?_
          rintro e w' ⟨rfl, u2, rfl⟩
          go_wp2_with (go_at_call 8; refine (Up.run (awake_any _)).mono ?_; rintro e w' ⟨rfl, u, rfl⟩)
          go_ret
          exact ⟨rfl, by (repeat' (first | (with_reducible exact Below.refl _ _) | (with_reducible assumption) | (with_reducible refine Below.setCell ?_ ?_ _) | (with_reducible refine Below.alloc ?_ ?_ _) | (with_reducible refine Below.drew ?_) | (with_reducible refine Up.base _ ?_ ?_) | (with_reducible exact LeSize.out) | exact LeSize.out | exact Nat.le_add_right_of_le LeSize.out | exact Nat.le_add_right_of_le (Nat.le_add_right_of_le LeSize.out) | (with_reducible exact Nat.le_refl _) | (simp; done) | (simp; omega)))⟩
theorem crcParts_walk (a : Option Addr) (cap : Nat) (zs : List Int) (a2 : Option Addr) (cap2 : Nat) (zc : List Int) (w : World)
    (hl : zs.length ≤ cap ∧ cap ≤ 9223372036854775807) (hh : Hdr w a cap) (hi : Bytes w a zs) (hz : ∀ i, i < zs.length → InKind .u8 (zs.getD i 0))
    (hl2 : zc.length ≤ cap2 ∧ cap2 ≤ 9223372036854775807) (hh2 : Hdr w a2 cap2) (hi2 : Ints w a2 zc) (hz2 : ∀ i, i < zc.length → InKind .i64 (zc.getD i 0)) :
    Calls Try.prog 4 #[.slice a zs.length cap, .slice a2 zc.length cap2] w fun e w' => e = .returned (.bool true) ∧ Below w.heap.size w w' := by
  rcases hh with ⟨rfl, rfl⟩ | ⟨b, off, rfl, hb⟩
  · have hnil : zs = [] := List.eq_nil_of_length_eq_zero (by omega)
    subst hnil
    exact crcParts_nil a2 cap2 zc w hl2 hi2
  · exact crcParts_some b off cap zs a2 cap2 zc w hl hb hi hz hl2 hh2 hi2 hz2

set_option maxRecDepth 100000 in
theorem CrcParts_lifted (os : Os) (started : os.Started) (H : Type) (enc : TypeId × Value → H) :
    ReturnsInHanded {} Try.checked os 4 .any (Rows.crcPartsSpec.pre6 enc Try.prog Try.f4 Rows.crcPartsRow.domain false) (Rows.crcPartsSpec.post enc Try.prog Try.f4 false true false false) := by
  refine returnsInHanded_of_change (C := Try.checked) own started (by kernel_rfl) Try.func4
    (ChangeSpec.witness6 (enc := enc) (C := Try.checked) false ⟨#[], #[.slice none 0 0, .slice none 0 0], []⟩ 8 (by kernel_rfl) (by kernel_rfl) (by kernel_rfl) (by kernel_rfl)) ?_
  intro W base args ds gs before hval0 hW hcnd _
  have hval : ∀ (j : Nat) t v, Try.f4.params[j]? = some t → args[j]? = some v → Value.okWide Try.prog W .any base t v := hval0
  have hW' := hW
  obtain ⟨p, q, hA0, hV, rfl, hfz, hnd⟩ := hW
  have hA : DataW.TrodAll enc Try.prog W 0 (fun _ => true) true Try.f4.params.toList args.toList ds p := hA0
  rw [Try.params4] at hA hval
  obtain ⟨v0, vs0, d0, ds0, p0, q0, hargs, rfl, rfl, h0, r0⟩ := trodAll_cons hA
  obtain ⟨v1, vs1, d1, ds1, p1, q1, rfl, rfl, rfl, h1, r1⟩ := trodAll_cons r0
  obtain ⟨rfl, rfl, rfl⟩ := trodAll_nil r1
  obtain rfl : args = #[v0, v1] := by cases args; simp_all
  obtain ⟨rfl, rfl⟩ := trodVars_none hV
  have k0 := h0
  have lt0 : ∀ x ∈ p0, x.block < W.heap.size := by obtain ⟨m, hm⟩ := k0; exact DataW.trod_lt m _ _ _ hm
  have k1 := h1
  have lt1 : ∀ x ∈ p1, x.block < W.heap.size := by obtain ⟨m, hm⟩ := k1; exact DataW.trod_lt m _ _ _ hm
  obtain ⟨a0, cap0, z0, rfl, hl0, hm0, hh0, hr0, iz0⟩ := open_ints1 Try.underlying23 Try.underlying5 (by kernel_rfl) (hval 0 23 v0 rfl rfl) k0
  obtain ⟨a1, cap1, z1, rfl, hl1, hm1, hh1, hr1, iz1⟩ := open_ints1 Try.underlying28 Try.underlying3 (by kernel_rfl) (hval 1 28 v1 rfl rfl) k1
  clear hA0 hval0
  refine (crcParts_walk a0 cap0 z0 a1 cap1 z1 W ⟨hl0, hm0⟩ hh0 hr0 iz0 ⟨hl1, hm1⟩ hh1 hr1 iz1).mono fun e W' ⟨he, bel⟩ => ?_
  subst he
  exact ⟨_, rfl, _, _, _, [], _, [], hW', trodAll_mk1 (shut_bool Try.underlying4 _), (trodAll_cons_mk (Below.trod laidOut (by kernel_rfl) (of_decide_eq_true (by kernel_rfl)) k0 bel lt0) (trodAll_cons_mk (Below.trod laidOut (by kernel_rfl) (of_decide_eq_true (by kernel_rfl)) k1 bel lt1) trodAll_mk0)), rfl, bel.frame _, fun h => by cases h⟩

theorem CrcParts_over : Rows.crcPartsRow.holds Try.pinned (OpenSpec.ofChange Rows.crcPartsSpec) :=
  OpenClaim.holds_of_wide 4 Try.f4 rfl rfl rfl rfl rfl rfl rfl ⟨rfl, rfl, rfl, rfl, rfl⟩ rfl rfl rfl rfl rfl (by kernel_rfl) Try.func4 (by kernel_rfl)
    (of_decide_eq_true (by kernel_rfl)) (by unfold Func.isWrapper; first | (rw [if_pos (by decide +kernel)]; kernel_rfl) | (rw [if_neg (by decide +kernel)]; exact ⟨rfl, rfl⟩))
    (fun os started H enc _ => CrcParts_lifted os started H enc)

/-- The given statement. -/
theorem CrcParts_holds : Rows.CrcPartsSaid := CrcParts_over
#print axioms CrcParts_holds
end Go.Proofs.Ytepdmkkeohjkhaa
