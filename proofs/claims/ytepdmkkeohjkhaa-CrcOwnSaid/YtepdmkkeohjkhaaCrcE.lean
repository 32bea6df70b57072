/- The law CrcOwn: the walks, and the given statement. -/
import Derived.Test.YtepdmkkeohjkhaaCrcD
import Derived.OwnWalk
namespace Go.Proofs.Ytepdmkkeohjkhaa
open Go.ChangeShapes Go.WideShapes Go.ChangeAt Go.RowKit
set_option linter.unusedVariables false

theorem infoB : (Try.prog.info? 5).map (fun i => (i.zero, i.size, i.bytes)) = some (some (.int .u8 0), 1, 1) := by kernel_rfl
/-- What the call itself has laid reads as bytes. -/
theorem bytes_of_own {w : World} {base : Nat} {e : TypeId} {v : Value} {zs : List Int} {n : Nat} (h : w.ownsRow base e 1 v n (zs.map (Value.int .u8))) : ∃ a cap, v = .slice a n cap ∧ zs.length = n ∧ Bytes w a zs := by
  obtain ⟨hl, h⟩ := h
  have hn : zs.length = n := by simpa using hl
  rcases h with ⟨rfl, rfl⟩ | ⟨g, cap, cur, rfl, _, hg, hc, _, hs, ht⟩
  · exact ⟨none, 0, rfl, hn, .inl hn⟩
  · refine ⟨_, cap, rfl, hn, .inr ⟨g, 0, rfl, ?_, fun i hi => ?_⟩⟩
    · rcases Nat.lt_or_ge g w.heap.size with h | h
      · exact h
      · rw [Array.getElem?_eq_none h] at hg; cases hg
    · have hx : cur[0 + i]? = some (.int .u8 (zs.getD i 0)) := by
        have this : (cur.toList.take (n * 1))[i]? = (zs.map (Value.int .u8))[i]? := by rw [ht]
        rw [List.getElem?_take, if_pos (by omega)] at this
        rw [Nat.zero_add, ← Array.getElem?_toList, this]
        simp [List.getD, hi]
      simp only [World.cell?, hg]
      exact hx
/-- A word's bytes behind what it sums: nothing is left. -/
theorem stp8_small {c : W16} (h : c.toNat < 256) : stps 8 c = c <<< 8 := by
  have e : stps 8 c = stps 4 (stps 4 c) := stps_add 4 4 c
  have h4 : stps 4 c = c <<< 4 := stps4_small (by omega)
  have hb : (c <<< 4).toNat < 4096 := by
    rw [BitVec.toNat_shiftLeft, Nat.shiftLeft_eq]
    have := Nat.mod_le (c.toNat * 2 ^ 4) (2 ^ 16)
    omega
  rw [e, h4, stps4_small hb, ← BitVec.shiftLeft_add]
theorem own_zero (c : W16) (hi lo : Int) (h1 : hi = ((c.toNat / 256 : Nat) : Int)) (h2 : lo = ((c.toNat % 256 : Nat) : Int)) : crcB (crcB c hi) lo = 0#16 := by
  have hlt := c.isLt
  have e1 : c ^^^ byT hi = BitVec.ofNat 16 (c.toNat % 256) := by
    have hb : byT hi = BitVec.ofNat 16 (c.toNat / 256 * 256) := by
      apply BitVec.eq_of_toNat_eq
      unfold byT
      rw [h1, BitVec.toNat_shiftLeft, Nat.shiftLeft_eq, BitVec.toNat_ofNat, BitVec.toNat_ofNat]
      simp only [Int.toNat_natCast]
      rw [Nat.mod_eq_of_lt (show c.toNat / 256 < 2 ^ 16 by omega)]
    rw [hb]
    apply BitVec.eq_of_toNat_eq
    rw [BitVec.toNat_xor, BitVec.toNat_ofNat, BitVec.toNat_ofNat, Nat.mod_eq_of_lt (show c.toNat / 256 * 256 < 2 ^ 16 by omega), Nat.mod_eq_of_lt (show c.toNat % 256 < 2 ^ 16 by omega)]
    have hd : c.toNat = (c.toNat / 256 * 256) ^^^ (c.toNat % 256) := by
      have h := Nat.two_pow_add_eq_or_of_lt (i := 8) (b := c.toNat % 256) (by omega) (c.toNat / 256)
      apply Nat.eq_of_testBit_eq
      intro i
      rw [Nat.testBit_xor]
      have e256 : c.toNat / 256 * 256 = 2 ^ 8 * (c.toNat / 2 ^ 8) := by omega
      have em : c.toNat % 256 = c.toNat % 2 ^ 8 := rfl
      rw [e256, em, Nat.testBit_two_pow_mul, Nat.testBit_mod_two_pow, Nat.testBit_div_two_pow]
      by_cases hi8 : i < 8
      · simp [hi8, show ¬ 8 ≤ i by omega]
      · simp [hi8, show 8 ≤ i by omega]
    conv => lhs; arg 1; rw [hd]
    rw [Nat.xor_comm, ← Nat.xor_assoc, Nat.xor_self, Nat.zero_xor]
  have e2 : crcB c hi = byT lo := by
    rw [crcB_eq, e1, stp8_small (by rw [BitVec.toNat_ofNat]; omega)]
    unfold byT; rw [h2]; rfl
  rw [e2, crcB_eq, BitVec.xor_self]
  rfl

theorem InU8 {zs : List Int} {hi lo : Int} (hz : ∀ i, i < zs.length → InKind .u8 (zs.getD i 0)) (h1 : 0 ≤ hi ∧ hi ≤ 255) (h2 : 0 ≤ lo ∧ lo ≤ 255) : ∀ i, i < (zs ++ [hi, lo]).length → InKind .u8 ((zs ++ [hi, lo]).getD i 0) := by
  intro i hi'
  have hlen : (zs ++ [hi, lo]).length = zs.length + 2 := by simp
  by_cases h : i < zs.length
  · have e : (zs ++ [hi, lo]).getD i 0 = zs.getD i 0 := by simp [List.getD, List.getElem?_append_left h]
    rw [e]; exact hz i h
  · by_cases h3 : i = zs.length
    · have e : (zs ++ [hi, lo]).getD i 0 = hi := by subst h3; simp [List.getD]
      rw [e]; exact h1
    · have e : (zs ++ [hi, lo]).getD i 0 = lo := by
        have : i = zs.length + 1 := by omega
        subst this; simp [List.getD]
      rw [e]; exact h2
theorem V_hi (c : W16) : V c / (256 : Int) = ((c.toNat / 256 : Nat) : Int) := by unfold V; omega
theorem V_lo (c : W16) : V c % (256 : Int) = ((c.toNat % 256 : Nat) : Int) := by unfold V; omega

set_option maxHeartbeats 2000000 in
theorem crcOwn_walk (a : Option Addr) (cap : Nat) (zs : List Int) (w : World) (hl : zs.length ≤ cap ∧ cap ≤ 9223372036854775807) (hh : Hdr w a cap) (hi : Bytes w a zs) (hz : ∀ i, i < zs.length → InKind .u8 (zs.getD i 0)) :
    Calls Try.prog 7 #[.slice a zs.length cap] w fun e w' => e = .returned (.bool true) ∧ Below w.heap.size w w' := by
  obtain ⟨i0, hinfo, hz0, hz1, hz2⟩ := info_parts infoB
  have HI := Lib.hid hi
  have HZ := Lib.hid hz
  clear hi hz
  by_cases h300 : (300 : Int) < zs.length
  · go_enter Try.func7, Try.ntmps7
    go_wp2_with (go_at_call 8; refine (Up.run (awake_any _)).mono ?_; rintro e w' ⟨rfl, u, rfl⟩)
    go_ret
    exact ⟨rfl, by (repeat' (first | (with_reducible exact Below.refl _ _) | (with_reducible assumption) | (with_reducible refine Below.setCell ?_ ?_ _) | (with_reducible refine Below.alloc ?_ ?_ _) | (with_reducible refine Below.drew ?_) | (with_reducible refine Up.base _ ?_ ?_) | (with_reducible exact LeSize.out) | exact LeSize.out | exact Nat.le_add_right_of_le LeSize.out | exact Nat.le_add_right_of_le (Nat.le_add_right_of_le LeSize.out) | (with_reducible exact Nat.le_refl _) | (simp; done) | (simp; omega)))⟩
  have hm : zs.length ≤ 9223372036854775807 := by omega
  rcases hh with ⟨rfl, rfl⟩ | ⟨b, off, rfl, hb⟩
  · have hnil : zs = [] := List.eq_nil_of_length_eq_zero (by omega)
    subst hnil
    have cc := of_any none 0 0 [] w rfl (by omega) (Or.inl rfl) (fun i hi => absurd hi (by simp))
    obtain ⟨c, hc⟩ : ∃ c, c = crcL 65535#16 [] := ⟨_, rfl⟩
    rw [← hc] at cc
    have HC := Lib.hid hc
    have CC := Lib.hid cc
    clear hc cc
    have n1 : 0 ≤ V c / (256 : Int) ∧ V c / (256 : Int) ≤ 255 := by have := V_bd c; omega
    have n2 : 0 ≤ V c % (256 : Int) ∧ V c % (256 : Int) ≤ 255 := by rw [V_lo]; omega
    have N2 := Lib.hid n2
    clear n2
    go_enter Try.func7, Try.ntmps7
    go_wp2_with fail
    refine (Up.run CC.out).mono ?_
    rintro e w' ⟨rfl, u0, rfl⟩
    go_wp2_with (at_builtin; refine wpList_append_own _ rfl _ _ 23 rfl u0.w.heap.size 5 i0 (.int .u8 0) 1 1 Try.underlying23 hinfo hz0 hz1 hz2 rfl (by decide) (.slice none 0 0) 0 [] rfl ⟨rfl, .inl ⟨rfl, rfl⟩⟩ ⟨u0.w.heap.size, 0, none⟩ 2 2 [.int .u8 (V c / (256 : Int)), .int .u8 (V c % (256 : Int))] rfl rfl ?d1 ?d2 ?d3 ?d4 ?d5 ?_)
    case d1 => intro j x hj; match j, hj with | 0, hj => simp at hj; subst hj; simp [Addr.add] | 1, hj => simp at hj; subst hj; simp [Addr.add]
    case d2 => intro x hx; simp at hx; rcases hx with rfl | rfl <;> rfl
    case d3 => unfold maxLen; omega
    case d4 => omega
    case d5 => simp
    intro v2 w2 hown2 hgrow2 _
    have hb2 : Below u0.w.heap.size u0.w w2 := below_append (v := .slice none 0 0) (e := 5) (size := 1) (n := 0) (xs := []) (Below.refl _ _) (Nat.le_refl _) ⟨rfl, .inl ⟨rfl, rfl⟩⟩ hgrow2
    rw [show [Value.int .u8 (V c / (256 : Int)), .int .u8 (V c % (256 : Int))] = [V c / (256 : Int), V c % (256 : Int)].map (Value.int .u8) by simp] at hown2
    obtain ⟨a2, cap2, rfl, hlen2, hI2⟩ := bytes_of_own hown2
    have hzero : crcL 65535#16 ([] ++ [V c / (256 : Int), V c % (256 : Int)]) = 0#16 := by
      rw [crcL_append, ← HC.out]
      exact own_zero c _ _ (V_hi c) (V_lo c)
    have c2 := of_any a2 2 cap2 ([] ++ [V c / (256 : Int), V c % (256 : Int)]) w2 (by simp) (by omega) hI2 (InU8 (fun i hi => absurd hi (by simp)) n1 N2.out)
    rw [hzero] at c2
    have v0 : V 0#16 = 0 := by unfold V; rfl
    rw [v0] at c2
    have C2 := Lib.hid c2
    clear c2 v0 hzero hown2 hlen2 hgrow2
    go_wp2_with fail
    refine (Up.run C2.out).mono ?_
    rintro e w' ⟨rfl, u3, rfl⟩
    go_wp2_with (go_at_call 8; refine (Up.run (awake_any _)).mono ?_; rintro e w' ⟨rfl, u, rfl⟩)
    go_ret
    exact ⟨rfl, ((u0.bel.trans (hb2.mono u0.bel.size)).trans (u3.bel.mono (Nat.le_trans u0.bel.size hb2.size))).trans (u.bel.mono (Nat.le_trans (Nat.le_trans u0.bel.size hb2.size) u3.bel.size))⟩
  · go_enter Try.func7, Try.ntmps7
    go_wp2_with fail
    refine (Up.run (of_any _ _ _ zs _ rfl hm HI.out HZ.out)).mono ?_
    rintro e w' ⟨rfl, u0, rfl⟩
    obtain ⟨c, hc⟩ : ∃ c, c = crcL 65535#16 zs := ⟨_, rfl⟩
    rw [← hc]
    have HC := Lib.hid hc
    clear hc
    have n1 : 0 ≤ V c / (256 : Int) ∧ V c / (256 : Int) ≤ 255 := by have := V_bd c; omega
    have n2 : 0 ≤ V c % (256 : Int) ∧ V c % (256 : Int) ≤ 255 := by rw [V_lo]; omega
    have N2 := Lib.hid n2
    clear n2
    go_wp2_with (at_builtin; refine wpList_append_own _ rfl _ _ 23 rfl u0.w.heap.size 5 i0 (.int .u8 0) 1 1 Try.underlying23 hinfo hz0 hz1 hz2 rfl (by decide) (.slice none 0 0) 0 [] rfl ⟨rfl, .inl ⟨rfl, rfl⟩⟩ ⟨b, off, none⟩ zs.length cap (zs.map (Value.int .u8)) rfl (by simp) ?c1 ?c2 ?c3 ?c4 ?c5 ?_)
    case c1 =>
      intro j x hj
      have hjl : j < zs.length := by
        rcases Nat.lt_or_ge j zs.length with h | h
        · exact h
        · rw [List.getElem?_eq_none (by simpa using h)] at hj; cases hj
      have hc := (Row1.up u0 HI.out).cell (by omega)
      obtain ⟨b', off', he, _, hcc⟩ := hc
      cases he
      have := hcc j hjl
      rw [show (Addr.add ⟨b, off, none⟩ j) = ⟨b, off + j, none⟩ by unfold Addr.add; by_cases h0 : j = 0 <;> simp [h0], this, ← hj]
      simp [List.getD, hjl]
    case c2 => intro x hx; obtain ⟨y, _, rfl⟩ := List.mem_map.1 hx; rfl
    case c3 => unfold maxLen; omega
    case c4 => omega
    case c5 => exact Nat.le_refl _
    intro v1 w1 hown hgrow _
    have hb1 : Below u0.w.heap.size u0.w w1 := (Below.refl _ _).grown hgrow (Nat.le_refl _) (fun k hk => by simp [Value.ownBlock] at hk)
    have hs1 := hb1.size
    go_wp2_with (at_builtin; refine wpList_append_own _ rfl _ _ 23 rfl u0.w.heap.size 5 i0 (.int .u8 0) 1 1 Try.underlying23 hinfo hz0 hz1 hz2 rfl (by decide) v1 zs.length (zs.map (Value.int .u8)) rfl (hown.alloc _) ⟨w1.heap.size, 0, none⟩ 2 2 [.int .u8 (V c / (256 : Int)), .int .u8 (V c % (256 : Int))] rfl rfl ?d1 ?d2 ?d3 ?d4 ?d5 ?_)
    case d1 => intro j x hj; match j, hj with | 0, hj => simp at hj; subst hj; simp [Addr.add] | 1, hj => simp at hj; subst hj; simp [Addr.add]
    case d2 => intro x hx; simp at hx; rcases hx with rfl | rfl <;> rfl
    case d3 => unfold maxLen; omega
    case d4 => omega
    case d5 => simp; omega
    intro v2 w2 hown2 hgrow2 _
    have hb2 : Below u0.w.heap.size u0.w w2 := below_append hb1 hs1 hown hgrow2
    rw [show zs.map (Value.int .u8) ++ [.int .u8 (V c / (256 : Int)), .int .u8 (V c % (256 : Int))] = (zs ++ [V c / (256 : Int), V c % (256 : Int)]).map (Value.int .u8) by simp] at hown2
    obtain ⟨a2, cap2, rfl, hlen2, hI2⟩ := bytes_of_own hown2
    have hzero : crcL 65535#16 (zs ++ [V c / (256 : Int), V c % (256 : Int)]) = 0#16 := by
      rw [crcL_append, ← HC.out]
      exact own_zero c _ _ (V_hi c) (V_lo c)
    have c2 := of_any a2 (zs.length + 2) cap2 (zs ++ [V c / (256 : Int), V c % (256 : Int)]) w2 (by simp) (by omega) hI2 (InU8 HZ.out n1 N2.out)
    rw [hzero] at c2
    have v0 : V 0#16 = 0 := by unfold V; rfl
    rw [v0] at c2
    have C2 := Lib.hid c2
    clear c2 v0 hzero hown2 hown hlen2 hgrow hgrow2
    go_wp2_with fail
    refine (Up.run C2.out).mono ?_
    rintro e w' ⟨rfl, u3, rfl⟩
    go_wp2_with (go_at_call 8; refine (Up.run (awake_any _)).mono ?_; rintro e w' ⟨rfl, u, rfl⟩)
    go_ret
    exact ⟨rfl, ((u0.bel.trans (hb2.mono u0.bel.size)).trans (u3.bel.mono (Nat.le_trans u0.bel.size hb2.size))).trans (u.bel.mono (Nat.le_trans (Nat.le_trans u0.bel.size hb2.size) u3.bel.size))⟩
set_option maxRecDepth 100000 in
theorem CrcOwn_lifted (os : Os) (started : os.Started) (H : Type) (enc : TypeId × Value → H) :
    ReturnsInHanded {} Try.checked os 7 .any (Rows.crcOwnSpec.pre6 enc Try.prog Try.f7 Rows.crcOwnRow.domain false) (Rows.crcOwnSpec.post enc Try.prog Try.f7 false true false false) := by
  refine returnsInHanded_of_change (C := Try.checked) own started (by kernel_rfl) Try.func7
    (ChangeSpec.witness6 (enc := enc) (C := Try.checked) false ⟨#[], #[.slice none 0 0], []⟩ 8 (by kernel_rfl) (by kernel_rfl) (by kernel_rfl) (by kernel_rfl)) ?_
  intro W base args ds gs before hval0 hW hcnd _
  have hval : ∀ (j : Nat) t v, Try.f7.params[j]? = some t → args[j]? = some v → Value.okWide Try.prog W .any base t v := hval0
  have hW' := hW
  obtain ⟨p, q, hA0, hV, rfl, hfz, hnd⟩ := hW
  have hA : DataW.TrodAll enc Try.prog W 0 (fun _ => true) true Try.f7.params.toList args.toList ds p := hA0
  rw [Try.params7] at hA hval
  obtain ⟨v0, vs0, d0, ds0, p0, q0, hargs, rfl, rfl, h0, r0⟩ := trodAll_cons hA
  obtain ⟨rfl, rfl, rfl⟩ := trodAll_nil r0
  obtain rfl : args = #[v0] := by cases args; simp_all
  obtain ⟨rfl, rfl⟩ := trodVars_none hV
  have k0 := h0
  have lt0 : ∀ x ∈ p0, x.block < W.heap.size := by obtain ⟨m, hm⟩ := k0; exact DataW.trod_lt m _ _ _ hm
  obtain ⟨a0, cap0, z0, rfl, hl0, hm0, hh0, hr0, iz0⟩ := open_ints1 Try.underlying23 Try.underlying5 (by kernel_rfl) (hval 0 23 v0 rfl rfl) k0
  clear hA0 hval0
  refine (crcOwn_walk a0 cap0 z0 W ⟨hl0, hm0⟩ hh0 hr0 iz0).mono fun e W' ⟨he, bel⟩ => ?_
  subst he
  exact ⟨_, rfl, _, _, _, [], _, [], hW', trodAll_mk1 (shut_bool Try.underlying4 _), (trodAll_cons_mk (Below.trod laidOut (by kernel_rfl) (of_decide_eq_true (by kernel_rfl)) k0 bel lt0) trodAll_mk0), rfl, bel.frame _, fun h => by cases h⟩

theorem CrcOwn_over : Rows.crcOwnRow.holds Try.pinned (OpenSpec.ofChange Rows.crcOwnSpec) :=
  OpenClaim.holds_of_wide 7 Try.f7 rfl rfl rfl rfl rfl rfl rfl ⟨rfl, rfl, rfl, rfl, rfl⟩ rfl rfl rfl rfl rfl (by kernel_rfl) Try.func7 (by kernel_rfl)
    (of_decide_eq_true (by kernel_rfl)) (by unfold Func.isWrapper; first | (rw [if_pos (by decide +kernel)]; kernel_rfl) | (rw [if_neg (by decide +kernel)]; exact ⟨rfl, rfl⟩))
    (fun os started H enc _ => CrcOwn_lifted os started H enc)

/-- The given statement. -/
theorem CrcOwn_holds : Rows.CrcOwnSaid := CrcOwn_over
#print axioms CrcOwn_holds
end Go.Proofs.Ytepdmkkeohjkhaa
