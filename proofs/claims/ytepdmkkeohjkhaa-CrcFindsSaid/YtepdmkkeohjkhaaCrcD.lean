/- The law CrcAll: the walks, and the given statement. -/
import Derived.Test.YtepdmkkeohjkhaaCrcC
import Derived.Lib.SlBytesConst
namespace Go.Proofs.Ytepdmkkeohjkhaa
open Go.ChangeShapes Go.WideShapes Go.ChangeAt Go.RowKit
set_option linter.unusedVariables false

set_option maxHeartbeats 1000000 in
theorem awake_any (w : World) :
    Calls Try.prog 8 #[] w fun e w' => e = .returned (.bool true) ∧ Below w.heap.size w w' := by
  have kc := fun (w : World) (C : Array Value) (n c : Nat) => Lib.run_convert_bytes_const (P := Try.prog) w 23 5 C n c Try.underlying23 Try.underlying5
  have hv : (V (crcL 65535#16 [49, 50, 51, 52, 53, 54, 55, 56, 57]) == 10673) = true := by unfold V; decide +kernel
  go_enter Try.func8, Try.ntmps8
  go_wp2_with fail
  refine (Up.run (of_any _ _ _ [49, 50, 51, 52, 53, 54, 55, 56, 57] _ rfl (by simp) (Or.inr ⟨_, _, rfl, by simp, ?_⟩) ?_)).mono ?_
  · intro i hi
    match i, hi with
    | 0, _ | 1, _ | 2, _ | 3, _ | 4, _ | 5, _ | 6, _ | 7, _ | 8, _ => rw [World.cell?_alloc_mark]; rfl
  · intro i hi
    match i, hi with
    | 0, _ | 1, _ | 2, _ | 3, _ | 4, _ | 5, _ | 6, _ | 7, _ | 8, _ => simp [InKind]
  rintro e w' ⟨rfl, u, rfl⟩
  go_wp2
  go_ret
  exact ⟨rfl, by (repeat' (first | (with_reducible exact Below.refl _ _) | (with_reducible assumption) | (with_reducible refine Below.setCell ?_ ?_ _) | (with_reducible refine Below.alloc ?_ ?_ _) | (with_reducible refine Below.drew ?_) | (with_reducible refine Up.base _ ?_ ?_) | (with_reducible exact LeSize.out) | exact LeSize.out | exact Nat.le_add_right_of_le LeSize.out | exact Nat.le_add_right_of_le (Nat.le_add_right_of_le LeSize.out) | (with_reducible exact Nat.le_refl _) | (simp; done) | (simp; omega)))⟩

theorem V_of {c : Int} (h : InKind .u16 c) : ∃ b : W16, c = V b := by
  have h' : 0 ≤ c ∧ c ≤ 65535 := h
  refine ⟨BitVec.ofNat 16 c.toNat, ?_⟩
  unfold V
  rw [BitVec.toNat_ofNat]; omega
set_option maxHeartbeats 1000000 in
theorem crcAll_walk (c : Int) (a : Option Addr) (cap : Nat) (zs : List Int) (w : World) (hc : InKind .u16 c) (hl : zs.length ≤ cap ∧ cap ≤ 9223372036854775807) (hh : Hdr w a cap) (hi : Bytes w a zs) (hz : ∀ i, i < zs.length → InKind .u8 (zs.getD i 0)) :
    Calls Try.prog 3 #[.int .u16 c, .slice a zs.length cap] w fun e w' => e = .returned (.bool true) ∧ Below w.heap.size w w' := by
  obtain ⟨cb, rfl⟩ := V_of hc
  have HI := Lib.hid hi
  have HZ := Lib.hid hz
  clear hi hz hh hc
  by_cases h300 : (300 : Int) < zs.length
  · go_enter Try.func3, Try.ntmps3
    go_wp2_with (go_at_call 8; refine (Up.run (awake_any _)).mono ?_; rintro e w' ⟨rfl, u, rfl⟩)
    go_ret
    exact ⟨rfl, by (repeat' (first | (with_reducible exact Below.refl _ _) | (with_reducible assumption) | (with_reducible refine Below.setCell ?_ ?_ _) | (with_reducible refine Below.alloc ?_ ?_ _) | (with_reducible refine Below.drew ?_) | (with_reducible refine Up.base _ ?_ ?_) | (with_reducible exact LeSize.out) | exact LeSize.out | exact Nat.le_add_right_of_le LeSize.out | exact Nat.le_add_right_of_le (Nat.le_add_right_of_le LeSize.out) | (with_reducible exact Nat.le_refl _) | (simp; done) | (simp; omega)))⟩
  have v0 : V 65535#16 = 65535 := by unfold V; rfl
  have hm : zs.length ≤ 9223372036854775807 := by omega
  go_enter Try.func3, Try.ntmps3
  go_wp2_with fail
  refine (Up.run (add_any cb _ _ _ zs _ rfl hm HI.out HZ.out)).mono ?_
  rintro e w' ⟨rfl, u1, rfl⟩
  go_wp2_with fail
  refine (rcrc_any cb _ _ _ zs _ rfl hm (Row1.up u1 HI.out) HZ.out).mono ?_
  rintro e w' ⟨rfl, rfl⟩
  go_wp2_with fail
  refine (Up.run (of_any _ _ _ zs _ rfl hm (Row1.up u1 HI.out) HZ.out)).mono ?_
  rintro e w' ⟨rfl, u2, rfl⟩
  go_wp2_with fail
  have c2 := rcrc_any 65535#16 a zs.length cap zs u2.w rfl hm (Row1.up u2 (Row1.up u1 HI.out)) HZ.out
  rw [v0] at c2
  refine c2.mono ?_
  rintro e w' ⟨rfl, rfl⟩
  clear c2 v0
  go_wp2_with (go_at_call 8; refine (Up.run (awake_any _)).mono ?_; rintro e w' ⟨rfl, u, rfl⟩)
  go_ret
  exact ⟨rfl, by (repeat' (first | (with_reducible exact Below.refl _ _) | (with_reducible assumption) | (with_reducible refine Below.setCell ?_ ?_ _) | (with_reducible refine Below.alloc ?_ ?_ _) | (with_reducible refine Below.drew ?_) | (with_reducible refine Up.base _ ?_ ?_) | (with_reducible exact LeSize.out) | exact LeSize.out | exact Nat.le_add_right_of_le LeSize.out | exact Nat.le_add_right_of_le (Nat.le_add_right_of_le LeSize.out) | (with_reducible exact Nat.le_refl _) | (simp; done) | (simp; omega)))⟩

set_option maxRecDepth 100000 in
theorem CrcAll_lifted (os : Os) (started : os.Started) (H : Type) (enc : TypeId × Value → H) :
    ReturnsInHanded {} Try.checked os 3 .any (Rows.crcAllSpec.pre6 enc Try.prog Try.f3 Rows.crcAllRow.domain false) (Rows.crcAllSpec.post enc Try.prog Try.f3 false true false false) := by
  refine returnsInHanded_of_change (C := Try.checked) own started (by kernel_rfl) Try.func3
    (ChangeSpec.witness6 (enc := enc) (C := Try.checked) false ⟨#[], #[.int .u16 0, .slice none 0 0], []⟩ 8 (by kernel_rfl) (by kernel_rfl) (by kernel_rfl) (by kernel_rfl)) ?_
  intro W base args ds gs before hval0 hW hcnd _
  have hval : ∀ (j : Nat) t v, Try.f3.params[j]? = some t → args[j]? = some v → Value.okWide Try.prog W .any base t v := hval0
  have hW' := hW
  obtain ⟨p, q, hA0, hV, rfl, hfz, hnd⟩ := hW
  have hA : DataW.TrodAll enc Try.prog W 0 (fun _ => true) true Try.f3.params.toList args.toList ds p := hA0
  rw [Try.params3] at hA hval
  obtain ⟨v0, vs0, d0, ds0, p0, q0, hargs, rfl, rfl, h0, r0⟩ := trodAll_cons hA
  obtain ⟨v1, vs1, d1, ds1, p1, q1, rfl, rfl, rfl, h1, r1⟩ := trodAll_cons r0
  obtain ⟨rfl, rfl, rfl⟩ := trodAll_nil r1
  obtain rfl : args = #[v0, v1] := by cases args; simp_all
  obtain ⟨rfl, rfl⟩ := trodVars_none hV
  have k0 := h0
  have lt0 : ∀ x ∈ p0, x.block < W.heap.size := by obtain ⟨m, hm⟩ := k0; exact DataW.trod_lt m _ _ _ hm
  have k1 := h1
  have lt1 : ∀ x ∈ p1, x.block < W.heap.size := by obtain ⟨m, hm⟩ := k1; exact DataW.trod_lt m _ _ _ hm
  obtain ⟨a0, rfl, w0⟩ := open_int1 Try.underlying22 (hval 0 22 v0 rfl rfl)
  obtain ⟨a1, cap1, z1, rfl, hl1, hm1, hh1, hr1, iz1⟩ := open_ints1 Try.underlying23 Try.underlying5 (by kernel_rfl) (hval 1 23 v1 rfl rfl) k1
  clear hA0 hval0
  refine (crcAll_walk a0 a1 cap1 z1 W w0 ⟨hl1, hm1⟩ hh1 hr1 iz1).mono fun e W' ⟨he, bel⟩ => ?_
  subst he
  exact ⟨_, rfl, _, _, _, [], _, [], hW', trodAll_mk1 (shut_bool Try.underlying4 _), (trodAll_cons_mk (Below.trod laidOut (by kernel_rfl) (of_decide_eq_true (by kernel_rfl)) k0 bel lt0) (trodAll_cons_mk (Below.trod laidOut (by kernel_rfl) (of_decide_eq_true (by kernel_rfl)) k1 bel lt1) trodAll_mk0)), rfl, bel.frame _, fun h => by cases h⟩

theorem CrcAll_over : Rows.crcAllRow.holds Try.pinned (OpenSpec.ofChange Rows.crcAllSpec) :=
  OpenClaim.holds_of_wide 3 Try.f3 rfl rfl rfl rfl rfl rfl rfl ⟨rfl, rfl, rfl, rfl, rfl⟩ rfl rfl rfl rfl rfl (by kernel_rfl) Try.func3 (by kernel_rfl)
    (of_decide_eq_true (by kernel_rfl)) (by unfold Func.isWrapper; first | (rw [if_pos (by decide +kernel)]; kernel_rfl) | (rw [if_neg (by decide +kernel)]; exact ⟨rfl, rfl⟩))
    (fun os started H enc _ => CrcAll_lifted os started H enc)

/-- The given statement. -/
theorem CrcAll_holds : Rows.CrcAllSaid := CrcAll_over
#print axioms CrcAll_holds
end Go.Proofs.Ytepdmkkeohjkhaa
