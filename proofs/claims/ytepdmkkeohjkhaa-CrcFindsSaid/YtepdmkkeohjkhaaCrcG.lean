/- The law CrcLinear: the walks, and the given statement. -/
import Derived.Test.YtepdmkkeohjkhaaCrcD
import Derived.OwnWalk
import Derived.Laws.OwnMore
namespace Go.Proofs.Ytepdmkkeohjkhaa
open Go.ChangeShapes Go.WideShapes Go.ChangeAt Go.RowKit
set_option linter.unusedVariables false

theorem infoBy : (Try.prog.info? 5).map (fun i => (i.zero, i.size, i.bytes)) = some (some (.int .u8 0), 1, 1) := by kernel_rfl
theorem sliced_zero (a : Option Addr) (h m s : Nat) : sliced a 0 h m s = .slice a h m := by
  cases a <;> simp [sliced, Addr.add]
attribute [go_sem high] sliced_zero
theorem made_at (z : Value) (n i : Nat) (h : i < n) : (madeCells #[z] n)[i]? = some z := by
  rw [← Array.getElem?_toList, toList_madeCells_one]; simp [h]
theorem min4_nat (P : Program) (n1 n2 n3 : Nat) (ts : Array TypeId) (t : TypeId) : ∃ n : Nat, n ≤ n1 ∧ n ≤ n2 ∧ n ≤ n3 ∧ n ≤ 300 ∧
    ∀ w : World, (Builtin.min_ ts t #[.int .i64 n1, .int .i64 n2, .int .i64 n3, .int .i64 300]).run P w = .ok (.int .i64 n) w := by
  refine ⟨min (min (min n1 n2) n3) 300, by omega, by omega, by omega, by omega, fun w => ?_⟩
  simp [Builtin.min_, Builtin.min2]
  omega
def xr3 (x y z : Int) : Int := bits .xor .u8 (bits .xor .u8 x y) z
theorem byte_bv {x : Int} (h : InKind .u8 x) : ∃ b : BitVec 8, x = (b.toNat : Int) := by
  have h' : 0 ≤ x ∧ x ≤ 255 := h
  refine ⟨BitVec.ofNat 8 x.toNat, ?_⟩
  rw [BitVec.toNat_ofNat]; omega
theorem u8_of (c : BitVec 8) : BitVec.ofInt IntKind.u8.bits (c.toNat : Int) = c := by
  show BitVec.ofInt 8 (c.toNat : Int) = c
  rw [BitVec.ofInt_natCast, BitVec.ofNat_toNat, BitVec.setWidth_eq]
theorem u8_wrap (n : Nat) : IntKind.u8.wrap (n : Int) = ((n % 256 : Nat) : Int) := by
  simp [IntKind.wrap, IntKind.bits, IntKind.signed]
theorem u8_xor (a b : BitVec 8) : bits .xor .u8 (a.toNat : Int) (b.toNat : Int) = ((a ^^^ b).toNat : Int) := by
  show IntKind.u8.wrap (((BitVec.ofInt IntKind.u8.bits (a.toNat : Int)) ^^^ (BitVec.ofInt IntKind.u8.bits (b.toNat : Int))).toNat : Int) = _
  rw [u8_of, u8_of]
  show IntKind.u8.wrap (((a ^^^ b).toNat : Nat) : Int) = _
  rw [u8_wrap, Nat.mod_eq_of_lt (a ^^^ b).isLt]
theorem byT_bv (a : BitVec 8) : byT (a.toNat : Int) = a.setWidth 16 <<< 8 := by
  unfold byT
  congr 1
  apply BitVec.eq_of_toNat_eq
  simp
theorem byT_xor (a b : BitVec 8) : byT ((a ^^^ b).toNat : Int) = byT (a.toNat : Int) ^^^ byT (b.toNat : Int) := by
  rw [byT_bv, byT_bv, byT_bv, BitVec.setWidth_xor, BitVec.shiftLeft_xor_distrib]
theorem xr3_ok {x y z : Int} (hx : InKind .u8 x) (hy : InKind .u8 y) (hz : InKind .u8 z) : byT (xr3 x y z) = byT x ^^^ byT y ^^^ byT z ∧ InKind .u8 (xr3 x y z) := by
  obtain ⟨a, rfl⟩ := byte_bv hx
  obtain ⟨b, rfl⟩ := byte_bv hy
  obtain ⟨c, rfl⟩ := byte_bv hz
  unfold xr3
  rw [u8_xor, u8_xor, byT_xor, byT_xor]
  refine ⟨rfl, ?_⟩
  have := (a ^^^ b ^^^ c).isLt
  exact ⟨by omega, by show _ ≤ (255 : Int); omega⟩
theorem crcB_xor (c d : W16) (x y z : Int) (h : byT z = byT x ^^^ byT y) : crcB (c ^^^ d) z = crcB c x ^^^ crcB d y := by
  rw [crcB_eq, crcB_eq, crcB_eq, ← stps_xor, h]
  congr 1
  rw [BitVec.xor_assoc, BitVec.xor_assoc]
  congr 1
  rw [← BitVec.xor_assoc, BitVec.xor_comm d, BitVec.xor_assoc]
theorem crcB_xor3 (c d e : W16) (x y z v : Int) (h : byT v = byT x ^^^ byT y ^^^ byT z) : crcB (c ^^^ d ^^^ e) v = crcB c x ^^^ crcB d y ^^^ crcB e z := by
  rw [crcB_eq, crcB_eq, crcB_eq, crcB_eq, ← stps_xor, ← stps_xor, h]
  congr 1
  generalize byT x = p
  generalize byT y = q
  generalize byT z = r
  ext i hi
  simp only [BitVec.getElem_xor]
  cases c[i] <;> cases d[i] <;> cases e[i] <;> cases p[i] <;> cases q[i] <;> cases r[i] <;> rfl
theorem take_snoc (x : List Int) (k : Nat) (h : k < x.length) : x.take (k + 1) = x.take k ++ [x.getD k 0] := by
  rw [List.take_succ_eq_append_getElem h]; simp [List.getD, h]
theorem crc_lin (c : W16) (x y z : List Int) (hx : ∀ i, i < x.length → InKind .u8 (x.getD i 0)) (hy : ∀ i, i < y.length → InKind .u8 (y.getD i 0)) (hz : ∀ i, i < z.length → InKind .u8 (z.getD i 0)) :
    ∀ k, k ≤ x.length → k ≤ y.length → k ≤ z.length → crcL c ((List.range k).map fun i => xr3 (x.getD i 0) (y.getD i 0) (z.getD i 0)) = crcL c (x.take k) ^^^ crcL c (y.take k) ^^^ crcL c (z.take k)
  | 0, _, _, _ => by simp [crcL]
  | k + 1, h1, h2, h3 => by
    rw [List.range_succ, List.map_append, List.map_singleton, crcL_snoc, take_snoc x k (by omega), take_snoc y k (by omega), take_snoc z k (by omega), crcL_snoc, crcL_snoc, crcL_snoc,
      crc_lin c x y z hx hy hz k (by omega) (by omega) (by omega)]
    exact crcB_xor3 _ _ _ _ _ _ _ (xr3_ok (hx k (by omega)) (hy k (by omega)) (hz k (by omega))).1
theorem Bytes.take {w : World} {a : Option Addr} {zs : List Int} (h : Bytes w a zs) (n : Nat) : Bytes w a (zs.take n) := by
  rcases h with h | ⟨b, off, ha, hlt, hc⟩
  · exact .inl (by simp [h])
  · refine .inr ⟨b, off, ha, hlt, fun i hi => ?_⟩
    simp at hi
    have h2 : i < zs.length := by omega
    have h3 : i < n := by omega
    rw [hc i h2]
    simp [List.getD, h2, h3]
theorem InB.take {zs : List Int} (hz : ∀ i, i < zs.length → InKind .u8 (zs.getD i 0)) (n : Nat) : ∀ i, i < (zs.take n).length → InKind .u8 ((zs.take n).getD i 0) := by
  intro i hi
  simp at hi
  have h2 : i < zs.length := by omega
  have h3 : i < n := by omega
  have e : (zs.take n).getD i 0 = zs.getD i 0 := by simp [List.getD, h2, h3]
  rw [e]; exact hz _ h2

set_option maxHeartbeats 2000000 in
theorem crcLinear_walk (a1 : Option Addr) (p1 : Nat) (z1 : List Int) (a2 : Option Addr) (p2 : Nat) (z2 : List Int) (a3 : Option Addr) (p3 : Nat) (z3 : List Int) (w : World)
    (hl1 : z1.length ≤ p1 ∧ p1 ≤ 9223372036854775807) (hh1 : Hdr w a1 p1) (hi1 : Bytes w a1 z1) (hz1 : ∀ i, i < z1.length → InKind .u8 (z1.getD i 0))
    (hl2 : z2.length ≤ p2 ∧ p2 ≤ 9223372036854775807) (hh2 : Hdr w a2 p2) (hi2 : Bytes w a2 z2) (hz2 : ∀ i, i < z2.length → InKind .u8 (z2.getD i 0))
    (hl3 : z3.length ≤ p3 ∧ p3 ≤ 9223372036854775807) (hh3 : Hdr w a3 p3) (hi3 : Bytes w a3 z3) (hz3 : ∀ i, i < z3.length → InKind .u8 (z3.getD i 0)) :
    Calls Try.prog 6 #[.slice a1 z1.length p1, .slice a2 z2.length p2, .slice a3 z3.length p3] w fun e w' => e = .returned (.bool true) ∧ Below w.heap.size w w' := by
  obtain ⟨i0, hinfo, hz0, hs0, hb0⟩ := info_parts infoBy
  have HI1 := Lib.hid hi1
  have HZ1 := Lib.hid hz1
  have HI2 := Lib.hid hi2
  have HZ2 := Lib.hid hz2
  have HI3 := Lib.hid hi3
  have HZ3 := Lib.hid hz3
  clear hi1 hz1 hi2 hz2 hi3 hz3 hh1 hh2 hh3
  obtain ⟨n, n1, n2, n3, n4, hmin⟩ := min4_nat Try.prog z1.length z2.length z3.length #[3, 3, 3, 3] 3
  have hmk : ∀ w : World, (Instr.makeSlice 23 (.int .i64 (n : Int)) (.int .i64 (n : Int))).run Try.prog w = .ok (.slice (some ⟨w.heap.size, 0, none⟩) n n) (w.alloc (.cells (madeCells #[.int .u8 0] n) 5)) := fun w => by
    have := run_makeSlice (P := Try.prog) w 23 5 i0 (.int .u8 0) Try.underlying23 hinfo hz0 .i64 .i64 (n : Int) (n : Int) (by omega) (by omega) (by rw [hs0]; omega) (by rw [hb0]; omega) (by omega)
    rw [hs0] at this
    simpa [Value.cells] using this
  have m1 : (n : Int) ≤ p1 := by omega
  have m2 : (n : Int) ≤ p2 := by omega
  have m3 : (n : Int) ≤ p3 := by omega
  clear hinfo hz0 hs0 hb0
  go_enter Try.func6, Try.ntmps6
  go_wp2
  have hcz : ∀ i, i < n → (w.alloc (.cells (madeCells #[.int .u8 0] n) 5)).cell? ⟨w.heap.size, i, none⟩ = some (.int .u8 0) := fun i hi => by
    rw [World.cell?_alloc_at _ _ _ _ rfl]; exact made_at _ _ _ hi
  have hfz : ∀ i, (w.alloc (.cells (madeCells #[.int .u8 0] n) 5)).frozen? ⟨w.heap.size, i, none⟩ = false := fun i => World.frozen?_alloc_at _ _ _ _ rfl
  have hb0 : Below w.heap.size w (w.alloc (.cells (madeCells #[.int .u8 0] n) 5)) := by (repeat' (first | (with_reducible exact Below.refl _ _) | (with_reducible assumption) | (with_reducible refine Below.setCell ?_ ?_ _) | (with_reducible refine Below.alloc ?_ ?_ _) | (with_reducible refine Below.drew ?_) | (with_reducible refine Up.base _ ?_ ?_) | (with_reducible exact LeSize.out) | exact LeSize.out | exact Nat.le_add_right_of_le LeSize.out | exact Nat.le_add_right_of_le (Nat.le_add_right_of_le LeSize.out) | (with_reducible exact Nat.le_refl _) | (simp; done) | (simp; omega)))
  generalize w.alloc (.cells (madeCells #[.int .u8 0] n) 5) = w1 at *
  go_loopw [9] (fun i wr => ∃ k : Nat, k ≤ n ∧ i = .int .i64 k ∧ Below w.heap.size w wr ∧ (∀ i, i < n → wr.cell? ⟨w.heap.size, i, none⟩ = some (.int .u8 (if i < k then xr3 (z1.getD i 0) (z2.getD i 0) (z3.getD i 0) else 0))) ∧ ∀ i, wr.frozen? ⟨w.heap.size, i, none⟩ = false) (fun i _ => n - (intOf i).toNat)
  case atStart => exact ⟨0, by omega, rfl, hb0, fun i hi => by simpa using hcz i hi, hfz⟩
  case round =>
    obtain ⟨k, hk, rfl, hb, hx, hf⟩ := hrel
    have i0 : LeSize w.heap.size wr := ⟨hb.size⟩
    have HX := Lib.hid hx
    have HF := Lib.hid hf
    clear hx hf hcz hfz
    by_cases hlt : k < n
    · obtain ⟨b1, off1, rfl, hbs1, hc1⟩ := HI1.out.cell (by omega)
      obtain ⟨b2, off2, rfl, hbs2, hc2⟩ := HI2.out.cell (by omega)
      obtain ⟨b3, off3, rfl, hbs3, hc3⟩ := HI3.out.cell (by omega)
      have d1 : wr.cell? ⟨b1, off1 + k, none⟩ = some (.int .u8 (z1.getD k 0)) := by rw [hb.cell (p := ⟨b1, off1 + k, none⟩) (by simpa using hbs1)]; exact hc1 k (by omega)
      have d2 : wr.cell? ⟨b2, off2 + k, none⟩ = some (.int .u8 (z2.getD k 0)) := by rw [hb.cell (p := ⟨b2, off2 + k, none⟩) (by simpa using hbs2)]; exact hc2 k (by omega)
      have d3 : wr.cell? ⟨b3, off3 + k, none⟩ = some (.int .u8 (z3.getD k 0)) := by rw [hb.cell (p := ⟨b3, off3 + k, none⟩) (by simpa using hbs3)]; exact hc3 k (by omega)
      have d4 : wr.cell? ⟨w.heap.size, k, none⟩ = some (.int .u8 0) := by rw [HX.out k hlt]; simp
      have f4 : wr.frozen? ⟨w.heap.size, k, none⟩ = false := HF.out k
      clear hc1 hc2 hc3
      generalize hv1 : z1.getD k 0 = v1 at *
      generalize hv2 : z2.getD k 0 = v2 at *
      generalize hv3 : z3.getD k 0 = v3 at *
      have HV := Lib.hid (And.intro hv1 (And.intro hv2 hv3))
      clear hv1 hv2 hv3
      have j_d1 := HasCell.of d1
      have j_d2 := HasCell.of d2
      have j_d3 := HasCell.of d3
      have j_d4 := HasCell.of d4
      have ib1 : LeSize (b1 + 1) wr := ⟨Nat.le_trans hbs1 hb.size⟩
      have ib2 : LeSize (b2 + 1) wr := ⟨Nat.le_trans hbs2 hb.size⟩
      have ib3 : LeSize (b3 + 1) wr := ⟨Nat.le_trans hbs3 hb.size⟩
      have ib4 : LeSize (w.heap.size + 1) wr := ⟨World.block_lt_of_cell? _ _ d4⟩
      go_wp2
      (refine wp_region_up_tail 17 (by kernel_rfl) (by kernel_rfl) ?_; simp only [List.take_succ_cons, List.take_zero, List.drop_succ_cons, List.drop_zero]; (repeat (go_big_quiet_step ((first | fail)))); refine wpQuiet_nil ?_; rintro _ ⟨u, rfl⟩)
      go_wp2
      go_roundw
      case rel => 
        refine ⟨k + 1, by omega, by go_num, by (repeat' (first | (with_reducible exact Below.refl _ _) | (with_reducible assumption) | (with_reducible refine Below.setCell ?_ ?_ _) | (with_reducible refine Below.alloc ?_ ?_ _) | (with_reducible refine Below.drew ?_) | (with_reducible refine Up.base _ ?_ ?_) | (with_reducible exact LeSize.out) | exact LeSize.out | exact Nat.le_add_right_of_le LeSize.out | exact Nat.le_add_right_of_le (Nat.le_add_right_of_le LeSize.out) | (with_reducible exact Nat.le_refl _) | (simp; done) | (simp; omega))), fun i hi => ?_, fun i => ?_⟩
        · by_cases hik : i = k
          · subst hik
            rw [World.cell?_setCell_same _ _ _ (by rw [u.bel.cell (p := ⟨w.heap.size, i, none⟩) ib4.out]; exact d4)]
            rw [if_pos (by omega), HV.out.1, HV.out.2.1, HV.out.2.2]; rfl
          · rw [World.cell?_setCell_other _ _ _ _ (by first | (simp; done) | (simp; omega)), u.bel.cell (p := ⟨w.heap.size, i, none⟩) ib4.out, HX.out i hi]
            by_cases h : i < k
            · rw [if_pos h, if_pos (by omega)]
            · rw [if_neg h, if_neg (by omega)]
        · rw [World.frozen?_setCell, u.bel.frozen (p := ⟨w.heap.size, i, none⟩) ib4.out]; exact HF.out i
      case measure => simp [intOf]; omega
    · have hkn : k = n := by omega
      subst hkn
      have bx : Bytes wr (some ⟨w.heap.size, 0, none⟩) ((List.range k).map fun i => xr3 (z1.getD i 0) (z2.getD i 0) (z3.getD i 0)) := by
        by_cases h0 : k = 0
        · subst h0; exact .inl (by simp)
        · refine .inr ⟨_, _, rfl, World.block_lt_of_cell? _ _ (HX.out 0 (by omega)), fun i hi => ?_⟩
          simp at hi
          rw [Nat.zero_add, HX.out i hi, if_pos hi]
          simp [List.getD, hi]
      have ix : ∀ i, i < ((List.range k).map fun i => xr3 (z1.getD i 0) (z2.getD i 0) (z3.getD i 0)).length → InKind .u8 (((List.range k).map fun i => xr3 (z1.getD i 0) (z2.getD i 0) (z3.getD i 0)).getD i 0) := by
        intro i hi
        simp at hi
        have := (xr3_ok (HZ1.out i (by omega)) (HZ2.out i (by omega)) (HZ3.out i (by omega))).2
        simpa [List.getD, hi] using this
      have e0 := crc_lin 65535#16 z1 z2 z3 HZ1.out HZ2.out HZ3.out k n1 n2 n3
      have lx : ((List.range k).map fun i => xr3 (z1.getD i 0) (z2.getD i 0) (z3.getD i 0)).length = k := by simp
      generalize ((List.range k).map fun i => xr3 (z1.getD i 0) (z2.getD i 0) (z3.getD i 0)) = zx at *
      have hm : k ≤ 9223372036854775807 := by omega
      have b1 := Bytes.take (Row1.below HI1.out hb (Nat.le_refl _)) k
      have b2 := Bytes.take (Row1.below HI2.out hb (Nat.le_refl _)) k
      have b3 := Bytes.take (Row1.below HI3.out hb (Nat.le_refl _)) k
      have j1 := InB.take HZ1.out k
      have j2 := InB.take HZ2.out k
      have j3 := InB.take HZ3.out k
      have C0 := Lib.hid (fun u : Up wr => Up.calls (u := u) (of_any _ k k zx u.w lx hm (Row1.up u bx) ix))
      have C1 := Lib.hid (fun u : Up wr => Up.calls (u := u) (of_any a1 k p1 (z1.take k) u.w (by simp; omega) hm (Row1.up u b1) j1))
      have C2 := Lib.hid (fun u : Up wr => Up.calls (u := u) (of_any a2 k p2 (z2.take k) u.w (by simp; omega) hm (Row1.up u b2) j2))
      have C3 := Lib.hid (fun u : Up wr => Up.calls (u := u) (of_any a3 k p3 (z3.take k) u.w (by simp; omega) hm (Row1.up u b3) j3))
      clear bx ix b1 b2 b3 j1 j2 j3 HX HF
      generalize crcL 65535#16 (z1.take k) = r1 at *
      generalize crcL 65535#16 (z2.take k) = r2 at *
      generalize crcL 65535#16 (z3.take k) = r3 at *
      rw [e0] at C0
      have hv := V_xor
      go_wp2
      (refine wp_region_up (by kernel_rfl) (by kernel_rfl) ?_; (repeat (go_big_quiet_step ((first | (go_at_call 11; exact C0.out _) | (go_at_call 11; exact C1.out _) | (go_at_call 11; exact C2.out _) | (go_at_call 11; exact C3.out _) | (go_at_call 8; exact Up.calls (awake_any _)) | fail)))); refine wpQuiet_nil ?_; rintro _ ⟨u, rfl⟩)
      go_wp2
      go_ret
      exact ⟨rfl, by (repeat' (first | (with_reducible exact Below.refl _ _) | (with_reducible assumption) | (with_reducible refine Below.setCell ?_ ?_ _) | (with_reducible refine Below.alloc ?_ ?_ _) | (with_reducible refine Below.drew ?_) | (with_reducible refine Up.base _ ?_ ?_) | (with_reducible exact LeSize.out) | exact LeSize.out | exact Nat.le_add_right_of_le LeSize.out | exact Nat.le_add_right_of_le (Nat.le_add_right_of_le LeSize.out) | (with_reducible exact Nat.le_refl _) | (simp; done) | (simp; omega)))⟩
set_option maxHeartbeats 1000000
set_option maxRecDepth 100000 in
theorem CrcLinear_lifted (os : Os) (started : os.Started) (H : Type) (enc : TypeId × Value → H) :
    ReturnsInHanded {} Try.checked os 6 .any (Rows.crcLinearSpec.pre6 enc Try.prog Try.f6 Rows.crcLinearRow.domain false) (Rows.crcLinearSpec.post enc Try.prog Try.f6 false true false false) := by
  refine returnsInHanded_of_change (C := Try.checked) own started (by kernel_rfl) Try.func6
    (ChangeSpec.witness6 (enc := enc) (C := Try.checked) false ⟨#[], #[.slice none 0 0, .slice none 0 0, .slice none 0 0], []⟩ 8 (by kernel_rfl) (by kernel_rfl) (by kernel_rfl) (by kernel_rfl)) ?_
  intro W base args ds gs before hval0 hW hcnd _
  have hval : ∀ (j : Nat) t v, Try.f6.params[j]? = some t → args[j]? = some v → Value.okWide Try.prog W .any base t v := hval0
  have hW' := hW
  obtain ⟨p, q, hA0, hV, rfl, hfz, hnd⟩ := hW
  have hA : DataW.TrodAll enc Try.prog W 0 (fun _ => true) true Try.f6.params.toList args.toList ds p := hA0
  rw [Try.params6] at hA hval
  obtain ⟨v0, vs0, d0, ds0, p0, q0, hargs, rfl, rfl, h0, r0⟩ := trodAll_cons hA
  obtain ⟨v1, vs1, d1, ds1, p1, q1, rfl, rfl, rfl, h1, r1⟩ := trodAll_cons r0
  obtain ⟨v2, vs2, d2, ds2, p2, q2, rfl, rfl, rfl, h2, r2⟩ := trodAll_cons r1
  obtain ⟨rfl, rfl, rfl⟩ := trodAll_nil r2
  obtain rfl : args = #[v0, v1, v2] := by cases args; simp_all
  obtain ⟨rfl, rfl⟩ := trodVars_none hV
  have k0 := h0
  have lt0 : ∀ x ∈ p0, x.block < W.heap.size := by obtain ⟨m, hm⟩ := k0; exact DataW.trod_lt m _ _ _ hm
  have k1 := h1
  have lt1 : ∀ x ∈ p1, x.block < W.heap.size := by obtain ⟨m, hm⟩ := k1; exact DataW.trod_lt m _ _ _ hm
  have k2 := h2
  have lt2 : ∀ x ∈ p2, x.block < W.heap.size := by obtain ⟨m, hm⟩ := k2; exact DataW.trod_lt m _ _ _ hm
  obtain ⟨a0, cap0, z0, rfl, hl0, hm0, hh0, hr0, iz0⟩ := open_ints1 Try.underlying23 Try.underlying5 (by kernel_rfl) (hval 0 23 v0 rfl rfl) k0
  obtain ⟨a1, cap1, z1, rfl, hl1, hm1, hh1, hr1, iz1⟩ := open_ints1 Try.underlying23 Try.underlying5 (by kernel_rfl) (hval 1 23 v1 rfl rfl) k1
  obtain ⟨a2, cap2, z2, rfl, hl2, hm2, hh2, hr2, iz2⟩ := open_ints1 Try.underlying23 Try.underlying5 (by kernel_rfl) (hval 2 23 v2 rfl rfl) k2
  clear hA0 hval0
  refine (crcLinear_walk a0 cap0 z0 a1 cap1 z1 a2 cap2 z2 W ⟨hl0, hm0⟩ hh0 hr0 iz0 ⟨hl1, hm1⟩ hh1 hr1 iz1 ⟨hl2, hm2⟩ hh2 hr2 iz2).mono fun e W' ⟨he, bel⟩ => ?_
  subst he
  exact ⟨_, rfl, _, _, _, [], _, [], hW', trodAll_mk1 (shut_bool Try.underlying4 _), (trodAll_cons_mk (Below.trod laidOut (by kernel_rfl) (of_decide_eq_true (by kernel_rfl)) k0 bel lt0) (trodAll_cons_mk (Below.trod laidOut (by kernel_rfl) (of_decide_eq_true (by kernel_rfl)) k1 bel lt1) (trodAll_cons_mk (Below.trod laidOut (by kernel_rfl) (of_decide_eq_true (by kernel_rfl)) k2 bel lt2) trodAll_mk0))), rfl, bel.frame _, fun h => by cases h⟩

theorem CrcLinear_over : Rows.crcLinearRow.holds Try.pinned (OpenSpec.ofChange Rows.crcLinearSpec) :=
  OpenClaim.holds_of_wide 6 Try.f6 rfl rfl rfl rfl rfl rfl rfl ⟨rfl, rfl, rfl, rfl, rfl⟩ rfl rfl rfl rfl rfl (by kernel_rfl) Try.func6 (by kernel_rfl)
    (of_decide_eq_true (by kernel_rfl)) (by unfold Func.isWrapper; first | (rw [if_pos (by decide +kernel)]; kernel_rfl) | (rw [if_neg (by decide +kernel)]; exact ⟨rfl, rfl⟩))
    (fun os started H enc _ => CrcLinear_lifted os started H enc)

/-- The given statement. -/
theorem CrcLinear_holds : Rows.CrcLinearSaid := CrcLinear_over
#print axioms CrcLinear_holds
end Go.Proofs.Ytepdmkkeohjkhaa
