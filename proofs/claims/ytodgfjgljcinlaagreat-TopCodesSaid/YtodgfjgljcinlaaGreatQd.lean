/- Part Qd of the proof: CrcP, CrcA, CrcB, EncM, CrcC. -/
import Derived.Test.YtodgfjgljcinlaaGreatQa
import Derived.Test.YtodgfjgljcinlaaGreatQb
namespace Go.Proofs.YtodgfjgljcinlaaGreat
set_option maxHeartbeats 8000000
set_option maxRecDepth 100000
set_option linter.unusedVariables false
section
open Go.RowKit
abbrev dj := BitVec 16
def kv (c : dj) : dj := if c.msb then (c <<< 1) ^^^ 4129#16 else c <<< 1
def cS : Nat → dj → dj
 | 0, c => c
 | n + 1, c => cS n (kv c)
theorem kC (n : Nat) (c : dj) : cS (n + 1) c = kv (cS n c) := by
 induction n generalizing c with
 | zero => rfl
 | succ n ih => show cS (n + 1) (kv c) = _; rw [ih]; rfl
theorem pe (a b : dj) : (a ^^^ b) <<< 1 = (a <<< 1) ^^^ (b <<< 1) := BitVec.shiftLeft_xor_distrib a b 1
theorem uN (a b : dj) : kv (a ^^^ b) = kv a ^^^ kv b := by
 unfold kv
 rw [BitVec.msb_xor, pe]
 generalize a <<< 1 = x
 generalize b <<< 1 = y
 generalize (4129#16 : dj) = p
 cases a.msb <;> cases b.msb <;> simp
 ·rw [BitVec.xor_assoc]
 ·rw [BitVec.xor_assoc, BitVec.xor_comm y p, ← BitVec.xor_assoc]
 ·rw [show x ^^^ p ^^^ (y ^^^ p) = (x ^^^ y) ^^^ (p ^^^ p) by
   rw [BitVec.xor_assoc, BitVec.xor_assoc, ← BitVec.xor_assoc p y p, BitVec.xor_comm p y, BitVec.xor_assoc y p p]]
  simp
theorem tD (n : Nat) (a b : dj) : cS n (a ^^^ b) = cS n a ^^^ cS n b := by
 induction n generalizing a b with
 | zero => rfl
 | succ n ih => show cS n (kv (a ^^^ b)) = _; rw [uN, ih]; rfl
theorem kP {c : dj} (h : c.toNat < 32768) : kv c = c <<< 1 := by
 have : c.msb = false := by rw [BitVec.msb_eq_decide]; simp; omega
 unfold kv; rw [this]; simp
theorem nJ {c : dj} (h : c.toNat < 4096) : cS 4 c = c <<< 4 := by
 have s : ∀ {d : dj} {m : Nat}, d.toNat < m → m ≤ 16384 → kv d = d <<< 1 ∧ (d <<< 1).toNat < 2 * m := fun {d m} hd hm => by
  refine ⟨kP (by omega), ?_⟩
  rw [BitVec.toNat_shiftLeft, Nat.shiftLeft_eq]
  have := Nat.mod_le (d.toNat * 2 ^ 1) (2 ^ 16)
  omega
 obtain ⟨a1, b1⟩ := s h (by omega)
 obtain ⟨a2, b2⟩ := s b1 (by omega)
 obtain ⟨a3, b3⟩ := s b2 (by omega)
 obtain ⟨a4, b4⟩ : kv (((c <<< 1) <<< 1) <<< 1) = (((c <<< 1) <<< 1) <<< 1) <<< 1 ∧ True := ⟨kP (by omega), trivial⟩
 show kv (kv (kv (kv c))) = _
 rw [a1, a2, a3, a4, ← BitVec.shiftLeft_add, ← BitVec.shiftLeft_add, ← BitVec.shiftLeft_add]
theorem vw : ∀ i : Fin 16, (4095#16 : dj)[i.1] = decide (i.1 < 12) := by decide
def bV (n : Nat) : dj := cS 4 (BitVec.ofNat 16 n <<< 12)
def xG (c : dj) : dj := (c <<< 4) ^^^ bV (c >>> 12).toNat
theorem sJ (c : dj) : xG c = cS 4 c := by
 have hc : c = (BitVec.ofNat 16 (c >>> 12).toNat <<< 12) ^^^ (c &&& 4095#16) := by
  ext i hi
  simp only [BitVec.ofNat_toNat, BitVec.setWidth_eq, BitVec.getElem_xor, BitVec.getElem_shiftLeft, BitVec.getElem_and]
  have : (4095#16 : dj)[i] = decide (i < 12) := by
   exact vw ⟨i, hi⟩
  rw [this]
  by_cases h : i < 12
  ·simp [h]
  ·simp [h]; rw [show 12 + (i - 12) = i by omega]; exact (BitVec.getLsbD_eq_getElem hi).symm
 have hlo : (c &&& 4095#16).toNat < 4096 := by
  rw [BitVec.toNat_and]
  exact Nat.lt_of_le_of_lt Nat.and_le_right (by decide)
 have hsh : c <<< 4 = (c &&& 4095#16) <<< 4 := by
  ext i hi
  simp only [BitVec.getElem_shiftLeft, BitVec.getElem_and]
  by_cases h : i < 4
  ·simp [h]
  ·simp [h]
   intro _
   have := vw ⟨i - 4, by omega⟩
   simp only at this
   rw [this]; simp; omega
 have e : cS 4 c = cS 4 (BitVec.ofNat 16 (c >>> 12).toNat <<< 12) ^^^ cS 4 (c &&& 4095#16) := by
  rw [← tD, ← hc]
 rw [e, nJ hlo, xG, hsh, BitVec.xor_comm]; rfl
def kl (x : Int) : dj := BitVec.ofNat 16 x.toNat <<< 8
def kw (c : dj) (x : Int) : dj := xG (xG (c ^^^ kl x))
theorem adT (m n : Nat) (c : dj) : cS (m + n) c = cS n (cS m c) := by
 induction m generalizing c with
 | zero => simp [cS]
 | succ m ih => rw [show m + 1 + n = (m + n) + 1 by omega]; show cS (m + n) (kv c) = _; rw [ih]; rfl
theorem uA (c : dj) (x : Int) : kw c x = cS 8 (c ^^^ kl x) := by
 unfold kw; rw [sJ, sJ, ← adT]
def eM (c : dj) (l : List Int) : dj := l.foldl kw c
theorem qn (c : dj) (l : List Int) (x : Int) : eM c (l ++ [x]) = kw (eM c l) x := by simp [eM]
end
section
open Go.RowKit
def V (c : dj) : Int := (c.toNat : Int)
theorem xt (c : dj) : 0 ≤ V c ∧ V c ≤ 65535 := by have := c.isLt; unfold V; omega
theorem jx (n : Nat) : IntKind.u16.wrap (n : Int) = ((n % 65536 : Nat) : Int) := by
 simp [IntKind.wrap, IntKind.bits, IntKind.signed]
theorem me (c : dj) : BitVec.ofInt IntKind.u16.bits (V c) = c := by
 show BitVec.ofInt 16 (c.toNat : Int) = c
 rw [BitVec.ofInt_natCast, BitVec.ofNat_toNat, BitVec.setWidth_eq]
theorem o7 (a b : dj) : bits .xor .u16 (V a) (V b) = V (a ^^^ b) := by
 show IntKind.u16.wrap (((BitVec.ofInt IntKind.u16.bits (V a)) ^^^ (BitVec.ofInt IntKind.u16.bits (V b))).toNat : Int) = _
 rw [me, me]
 show IntKind.u16.wrap (((a ^^^ b).toNat : Nat) : Int) = _
 rw [jx, Nat.mod_eq_of_lt (a ^^^ b).isLt]; rfl
theorem vu (c : dj) (k : Nat) : IntKind.u16.wrap (V c * ((2 ^ k : Nat) : Int)) = V (c <<< k) := by
 unfold V
 rw [← Int.natCast_mul, jx, BitVec.toNat_shiftLeft, Nat.shiftLeft_eq]
theorem xw (c : dj) (k : Nat) : V c / ((2 ^ k : Nat) : Int) = V (c >>> k) := by
 unfold V
 rw [BitVec.toNat_ushiftRight, Nat.shiftRight_eq_div_pow, Int.natCast_ediv]
theorem rB (c : dj) : IntKind.u16.wrap (V c * 2) = V (c <<< 1) := vu c 1
theorem ta (c : dj) : IntKind.u16.wrap (V c * 16) = V (c <<< 4) := vu c 4
theorem rK (c : dj) : bits .xor .u16 (V c) 4129 = V (c ^^^ 4129#16) := o7 c 4129#16
theorem we {x : Int} (h : 0 ≤ x ∧ x ≤ 255) : x * 256 = V (kl x) := by
 obtain ⟨n, rfl⟩ := Int.eq_ofNat_of_zero_le h.1
 unfold V kl
 rw [BitVec.toNat_shiftLeft, Nat.shiftLeft_eq, BitVec.toNat_ofNat]
 simp only [Int.toNat_natCast]
 rw [Nat.mod_eq_of_lt (show n < 2 ^ 16 by omega), Nat.mod_eq_of_lt (by omega)]
 omega
theorem rm {k : Nat} (h : k < 16) : (k : Int) * (4096 : Int) = V (BitVec.ofNat 16 k <<< 12) := by
 unfold V
 rw [BitVec.toNat_shiftLeft, Nat.shiftLeft_eq, BitVec.toNat_ofNat, Nat.mod_eq_of_lt (show k < 2 ^ 16 by omega), Nat.mod_eq_of_lt (by omega)]
 omega
theorem so : ∀ i : Fin 16, (32768#16 : dj)[i.1] = decide (i.1 = 15) := by decide
theorem xu (c : dj) : (bits .and .u16 (V c) 32768 != 0) = c.msb := by
 have e : bits .and .u16 (V c) 32768 = V (c &&& 32768#16) := by
  show IntKind.u16.wrap (((BitVec.ofInt IntKind.u16.bits (V c)) &&& (BitVec.ofInt IntKind.u16.bits (V 32768#16))).toNat : Int) = _
  rw [me, me]
  show IntKind.u16.wrap (((c &&& 32768#16).toNat : Nat) : Int) = _
  rw [jx, Nat.mod_eq_of_lt (c &&& 32768#16).isLt]; rfl
 rw [e]
 have h : (c &&& 32768#16) = if c.msb then 32768#16 else 0#16 := by
  ext i hi
  rw [BitVec.getElem_and, so ⟨i, hi⟩]
  by_cases h15 : i = 15
  ·subst h15
   have : c.msb = c[15] := by rw [BitVec.msb_eq_getLsbD_last]; exact (BitVec.getLsbD_eq_getElem (by omega))
   rw [← this]; cases c.msb <;> simp
  ·simp only [h15, decide_false, Bool.and_false]
   cases c.msb
   ·simp
   ·simp only [if_true]
    rw [so ⟨i, hi⟩]; simp [h15]
 rw [h]
 cases c.msb <;> decide
attribute [irreducible] V
theorem vv (v : Value) (j : Nat) (hj : j < 16) : (#[v, v, v, v, v, v, v, v, v, v, v, v, v, v, v, v] : Array Value)[j]? = some v := by
 have e : (#[v, v, v, v, v, v, v, v, v, v, v, v, v, v, v, v] : Array Value) = (List.replicate 16 v).toArray := rfl
 rw [e, List.getElem?_toArray, List.getElem?_replicate, if_pos hj]
def vy (wr : World) (q : Nat) (f : Nat → dj) : Prop := ∀ j, j < 16 → wr.cell? ⟨q, j, none⟩ = some (.int .u16 (V (f j)))
theorem sP (w : World) :
  Calls Tryz.prog 178 #[] w fun e w' => e = .returned (.agg #[.int .u16 (V (bV 0)), .int .u16 (V (bV 1)), .int .u16 (V (bV 2)), .int .u16 (V (bV 3)), .int .u16 (V (bV 4)), .int .u16 (V (bV 5)), .int .u16 (V (bV 6)), .int .u16 (V (bV 7)), .int .u16 (V (bV 8)), .int .u16 (V (bV 9)), .int .u16 (V (bV 10)), .int .u16 (V (bV 11)), .int .u16 (V (bV 12)), .int .u16 (V (bV 13)), .int .u16 (V (bV 14)), .int .u16 (V (bV 15))]) ∧ Below w.heap.size w w' := by
 go_enter Tryz.func178, Tryz.ntmps178
 go_wp2
 go_loopw [4] (fun i wr => ∃ k : Nat, k ≤ 16 ∧ i = .int .i64 k ∧ Below w.heap.size w wr ∧ LeSize (w.heap.size + 1 + 1) wr ∧ (∀ j, j < 16 → wr.frozen? ⟨w.heap.size, j, none⟩ = false ∧ wr.frozen? ⟨w.heap.size + 1, j, none⟩ = false ∧ wr.cell? ⟨w.heap.size, j, none⟩ = some (.int .u16 0)) ∧
   vy wr (w.heap.size + 1) (fun j => if j < k then bV j else 0#16)) (fun i _ => 16 - (intOf i).toNat)
 case atStart =>
  refine ⟨0, by omega, rfl, by exact yd, inferInstance, fun j hj => ?_, fun j hj => ?_⟩
  ·have h := vv (.int .u16 0) j hj
   refine ⟨World.frozen?_alloc_past _ _ _ (by simp) |>.trans (World.frozen?_alloc_at _ _ _ _ rfl), World.frozen?_alloc_at _ _ _ _ (by simp), ?_⟩
   rw [World.cell?_alloc_past _ _ _ (by simp), World.cell?_alloc_at _ _ _ _ rfl, h]
  ·rw [World.cell?_alloc_at _ _ _ _ (by simp), vv _ j hj]
   show _ = some (Value.int .u16 (V (if j < 0 then bV j else 0#16)))
   rw [if_neg (by omega)]
   unfold V; rfl
 case round =>
  obtain ⟨k, hk, rfl, hb, i1, hf, ha⟩ := hrel
  have HF := Lib.hid hf
  have HA := Lib.hid ha
  clear hf ha
  by_cases hlt : k < 16
  ·have q1 := rm hlt
   go_wp2
   go_loopw [3, 10] (fun c i wi => ∃ m : Nat, m ≤ 4 ∧ i = .int .i64 m ∧ c = .int .u16 (V (cS m (BitVec.ofNat 16 k <<< 12))) ∧ wi = wr) (fun _ i _ => 4 - (intOf i).toNat)
   case atStart => exact ⟨0, by omega, rfl, by first | exact congrArg _ q1 | rfl, rfl⟩
   case round =>
    obtain ⟨m, hm, rfl, rfl, rfl⟩ := hrel
    by_cases hlm : m < 4
    ·have q2 := xu (cS m (BitVec.ofNat 16 k <<< 12))
     have q3 := rB (cS m (BitVec.ofNat 16 k <<< 12))
     have q4 := rK (cS m (BitVec.ofNat 16 k <<< 12) <<< 1)
     have q5 : Hid (cS (m + 1) (BitVec.ofNat 16 k <<< 12) = kv (cS m (BitVec.ofNat 16 k <<< 12))) := kC _ _
     clear q1
     cases hmsb : (cS m (BitVec.ofNat 16 k <<< 12)).msb
     ·go_wp2
      go_roundw
      case rel =>
       refine ⟨m + 1, by omega, by go_num, ?_, trivial⟩
       rw [q5.out, kv, hmsb]; rfl
      case measure => simp [intOf]; omega
     ·go_wp2
      go_roundw
      case rel =>
       refine ⟨m + 1, by omega, by go_num, ?_, trivial⟩
       rw [q5.out, kv, hmsb]; rfl
      case measure => simp [intOf]; omega
    ·obtain rfl : m = 4 := by omega
     have hc1 := HA.out k hlt
     have hf1 := (HF.out k hlt).2.1
     go_wp2
     go_roundw
     case rel =>
      refine ⟨k + 1, by omega, by go_num, by exact yd, inferInstance, fun j hj => ?_, fun j hj => ?_⟩
      ·have h := HF.out j hj
       refine ⟨?_, ?_, ?_⟩
       ·simp [go_sem, h.1]
       ·simp [go_sem, h.2.1]
       ·rw [World.cell?_setCell_other _ _ _ _ (by simp)]; exact h.2.2
      ·by_cases hjk : j = k
       ·subst hjk
        rw [World.cell?_setCell_same _ _ _ hc1]
        show _ = some (Value.int .u16 (V (if j < j + 1 then bV j else 0#16)))
        rw [if_pos (by omega)]; rfl
       ·rw [World.cell?_setCell_other _ _ _ _ (by first | (simp; done) | (simp; omega))]
        refine (HA.out j hj).trans ?_
        show some (Value.int .u16 (V (if j < k then bV j else 0#16))) = some (Value.int .u16 (V (if j < k + 1 then bV j else 0#16)))
        by_cases h1 : j < k
        ·rw [if_pos h1, if_pos (by omega)]
        ·rw [if_neg h1, if_neg (by omega)]
     case measure => simp [intOf]; omega
  ·obtain rfl : k = 16 := by omega
   have a := HA.out
   have t0 : wr.cell? ⟨w.heap.size + 1, 0, none⟩ = some (.int .u16 (V (bV 0))) := a 0 (by omega)
   have t1 : wr.cell? ⟨w.heap.size + 1, 1, none⟩ = some (.int .u16 (V (bV 1))) := a 1 (by omega)
   have t2 : wr.cell? ⟨w.heap.size + 1, 2, none⟩ = some (.int .u16 (V (bV 2))) := a 2 (by omega)
   have t3 : wr.cell? ⟨w.heap.size + 1, 3, none⟩ = some (.int .u16 (V (bV 3))) := a 3 (by omega)
   have t4 : wr.cell? ⟨w.heap.size + 1, 4, none⟩ = some (.int .u16 (V (bV 4))) := a 4 (by omega)
   have t5 : wr.cell? ⟨w.heap.size + 1, 5, none⟩ = some (.int .u16 (V (bV 5))) := a 5 (by omega)
   have t6 : wr.cell? ⟨w.heap.size + 1, 6, none⟩ = some (.int .u16 (V (bV 6))) := a 6 (by omega)
   have t7 : wr.cell? ⟨w.heap.size + 1, 7, none⟩ = some (.int .u16 (V (bV 7))) := a 7 (by omega)
   have t8 : wr.cell? ⟨w.heap.size + 1, 8, none⟩ = some (.int .u16 (V (bV 8))) := a 8 (by omega)
   have t9 : wr.cell? ⟨w.heap.size + 1, 9, none⟩ = some (.int .u16 (V (bV 9))) := a 9 (by omega)
   have t10 : wr.cell? ⟨w.heap.size + 1, 10, none⟩ = some (.int .u16 (V (bV 10))) := a 10 (by omega)
   have t11 : wr.cell? ⟨w.heap.size + 1, 11, none⟩ = some (.int .u16 (V (bV 11))) := a 11 (by omega)
   have t12 : wr.cell? ⟨w.heap.size + 1, 12, none⟩ = some (.int .u16 (V (bV 12))) := a 12 (by omega)
   have t13 : wr.cell? ⟨w.heap.size + 1, 13, none⟩ = some (.int .u16 (V (bV 13))) := a 13 (by omega)
   have t14 : wr.cell? ⟨w.heap.size + 1, 14, none⟩ = some (.int .u16 (V (bV 14))) := a 14 (by omega)
   have t15 : wr.cell? ⟨w.heap.size + 1, 15, none⟩ = some (.int .u16 (V (bV 15))) := a 15 (by omega)
   have f0 := (HF.out 0 (by omega)).1
   have f1 := (HF.out 1 (by omega)).1
   have f2 := (HF.out 2 (by omega)).1
   have f3 := (HF.out 3 (by omega)).1
   have f4 := (HF.out 4 (by omega)).1
   have f5 := (HF.out 5 (by omega)).1
   have f6 := (HF.out 6 (by omega)).1
   have f7 := (HF.out 7 (by omega)).1
   have f8 := (HF.out 8 (by omega)).1
   have f9 := (HF.out 9 (by omega)).1
   have f10 := (HF.out 10 (by omega)).1
   have f11 := (HF.out 11 (by omega)).1
   have f12 := (HF.out 12 (by omega)).1
   have f13 := (HF.out 13 (by omega)).1
   have f14 := (HF.out 14 (by omega)).1
   have f15 := (HF.out 15 (by omega)).1
   have s0 := (HF.out 0 (by omega)).2.2
   have s1 := (HF.out 1 (by omega)).2.2
   have s2 := (HF.out 2 (by omega)).2.2
   have s3 := (HF.out 3 (by omega)).2.2
   have s4 := (HF.out 4 (by omega)).2.2
   have s5 := (HF.out 5 (by omega)).2.2
   have s6 := (HF.out 6 (by omega)).2.2
   have s7 := (HF.out 7 (by omega)).2.2
   have s8 := (HF.out 8 (by omega)).2.2
   have s9 := (HF.out 9 (by omega)).2.2
   have s10 := (HF.out 10 (by omega)).2.2
   have s11 := (HF.out 11 (by omega)).2.2
   have s12 := (HF.out 12 (by omega)).2.2
   have s13 := (HF.out 13 (by omega)).2.2
   have s14 := (HF.out 14 (by omega)).2.2
   have s15 := (HF.out 15 (by omega)).2.2
   clear a
   have j_s0 := HasCell.of s0
   have j_s1 := HasCell.of s1
   have j_s2 := HasCell.of s2
   have j_s3 := HasCell.of s3
   have j_s4 := HasCell.of s4
   have j_s5 := HasCell.of s5
   have j_s6 := HasCell.of s6
   have j_s7 := HasCell.of s7
   have j_s8 := HasCell.of s8
   have j_s9 := HasCell.of s9
   have j_s10 := HasCell.of s10
   have j_s11 := HasCell.of s11
   have j_s12 := HasCell.of s12
   have j_s13 := HasCell.of s13
   have j_s14 := HasCell.of s14
   have j_s15 := HasCell.of s15
   go_wp2
   go_returns
   exact ⟨rfl, by exact yd⟩
end
section
open Go.RowKit
theorem m6 {zs : List Int} {k : Nat} (h : k < zs.length) (c : dj) : eM c (zs.take (k + 1)) = kw (eM c (zs.take k)) zs[k] := by
 rw [← qn, List.take_succ_eq_append_getElem h]
theorem pE {a b : dj} (h : a = b) : Ending.returned (.int .u16 (V a)) = .returned (.int .u16 (V b)) := by rw [h]
theorem xk (c : dj) : V (c >>> 12) = (((c >>> 12).toNat : Nat) : Int) := by unfold V; rfl
theorem wh (c : dj) : (c >>> 12).toNat < 16 := by
 rw [BitVec.toNat_ushiftRight, Nat.shiftRight_eq_div_pow]
 have := c.isLt
 omega
theorem kI (c : dj) : V c / (4096 : Int) = (((c >>> 12).toNat : Nat) : Int) := by
 have h := xw c 12
 rw [xk] at h
 exact h
theorem tj (c : dj) : (V c / (4096 : Int)).toNat = (c >>> 12).toNat := by rw [kI, Int.toNat_natCast]
theorem sX (c : dj) : 0 ≤ V c / (4096 : Int) ∧ V c / (4096 : Int) < 16 := by
 have := wh c
 rw [kI]; omega
theorem vm (c0 : dj) (a : Option Addr) (len cap : Nat) (zs : List Int) (w : World) (hl : zs.length = len) (hm : len ≤ 9223372036854775807) (hi : bj w a zs) (hz : ∀ i, i < zs.length → db .u8 (zs.getD i 0)) :
  Calls Tryz.prog 127 #[.int .u16 (V c0), .slice a len cap] w fun e w' => e = .returned (.int .u16 (V (eM c0 zs))) ∧ Below w.heap.size w w' := by
 subst hl
 have HI := Lib.hid hi
 have HZ := Lib.hid hz
 clear hi hz
 go_enter Tryz.func127, Tryz.ntmps127
 go_wp2_with fail
 refine (Up.run (sP _)).mono ?_
 rintro e w' ⟨rfl, u, rfl⟩
 go_wp2
 go_loopw [0, 11] (fun c i wr => ∃ k : Nat, k ≤ zs.length ∧ i = .int .i64 k ∧ c = .int .u16 (V (eM c0 (zs.take k))) ∧ Below w.heap.size w wr ∧ vy wr u.w.heap.size bV) (fun _ i _ => zs.length - (intOf i).toNat)
 case atStart =>
  refine ⟨0, Nat.zero_le _, rfl, rfl, by exact yd, fun j hj => ?_⟩
  rw [World.cell?_alloc_at _ _ _ _ rfl]
  have h : ∀ j : Nat, j < 16 → j = 0 ∨ j = 1 ∨ j = 2 ∨ j = 3 ∨ j = 4 ∨ j = 5 ∨ j = 6 ∨ j = 7 ∨ j = 8 ∨ j = 9 ∨ j = 10 ∨ j = 11 ∨ j = 12 ∨ j = 13 ∨ j = 14 ∨ j = 15 := by omega
  rcases h j hj with rfl | rfl | rfl | rfl | rfl | rfl | rfl | rfl | rfl | rfl | rfl | rfl | rfl | rfl | rfl | rfl <;> rfl
 case round =>
  obtain ⟨k, hk, rfl, rfl, hb, ha⟩ := hrel
  have HA := Lib.hid ha
  clear ha
  by_cases hlt : k < zs.length
  ·obtain ⟨b, off, rfl, hbs, hc⟩ := HI.out.cell (by omega)
   have hcell : wr.cell? ⟨b, off + k, none⟩ = some (.int .u8 (zs.getD k 0)) := by rw [hb.cell (p := ⟨b, off + k, none⟩) (by simpa using hbs)]; exact hc k hlt
   have hx : 0 ≤ zs.getD k 0 ∧ zs.getD k 0 ≤ 255 := HZ.out k hlt
   have hg : zs.getD k 0 = zs[k] := by simp [List.getD, hlt]
   rw [hg] at hx hcell
   have hs : Hid (eM c0 (zs.take (k + 1)) = kw (eM c0 (zs.take k)) zs[k]) := m6 hlt c0
   clear hc hg
   generalize zs[k] = x at *
   generalize eM c0 (zs.take k) = c at *
   have q1 := we hx
   have q2 := o7 c (kl x)
   obtain ⟨c1, hc1⟩ : ∃ c1, c1 = c ^^^ kl x := ⟨_, rfl⟩
   rw [← hc1] at q2
   have q3 := ta c1
   obtain ⟨p1, n1⟩ := sX c1
   have t1 := HA.out (V c1 / 4096).toNat (by omega)
   have q5 := o7 (c1 <<< 4) (bV (V c1 / 4096).toNat)
   obtain ⟨c2, hc2⟩ : ∃ c2, c2 = (c1 <<< 4) ^^^ bV (V c1 / 4096).toNat := ⟨_, rfl⟩
   rw [← hc2] at q5
   have q6 := ta c2
   obtain ⟨p2, n2⟩ := sX c2
   have t2 := HA.out (V c2 / 4096).toNat (by omega)
   have q8 := o7 (c2 <<< 4) (bV (V c2 / 4096).toNat)
   obtain ⟨c3, hc3⟩ : ∃ c3, c3 = (c2 <<< 4) ^^^ bV (V c2 / 4096).toNat := ⟨_, rfl⟩
   rw [← hc3] at q8
   have hfin : Hid (kw c x = c3) := by
    show kw c x = c3
    rw [hc3, tj, hc2, tj, hc1]; rfl
   clear hc1 hc2 hc3
   go_wp2
   go_roundw
   case rel => exact ⟨k + 1, by omega, by go_num, by rw [hs.out, hfin.out], hb, HA.out⟩
   case measure => simp [intOf]; omega
  ·go_wp2
   go_ret
   exact ⟨pE (by rw [List.take_of_length_le (by omega)]), hb⟩
theorem rY (a : Option Addr) (len cap : Nat) (zs : List Int) (w : World) (hl : zs.length = len) (hm : len ≤ 9223372036854775807) (hi : bj w a zs) (hz : ∀ i, i < zs.length → db .u8 (zs.getD i 0)) :
  Calls Tryz.prog 45 #[.slice a len cap] w fun e w' => e = .returned (.int .u16 (V (eM 65535#16 zs))) ∧ Below w.heap.size w w' := by
 have v0 : V 65535#16 = 65535 := by unfold V; rfl
 have c := vm 65535#16 a len cap zs w hl hm hi hz
 rw [v0] at c
 have C := Lib.hid c
 clear c hi hz v0
 go_enter Tryz.func45, Tryz.ntmps45
 go_wp2_with fail
 refine (Up.run C.out).mono ?_
 rintro e w' ⟨rfl, u, rfl⟩
 go_wp2
 go_ret
 exact ⟨rfl, by exact yd⟩
end
section
open Go.RowKit
def fq (l : List Int) : Int := V (eM 65535#16 l)
theorem mv (l : List Int) : 0 ≤ fq l ∧ fq l ≤ 65535 := xt _
def eD (n : Int) (i : Nat) : Int := n / (256 : Int) ^ i % 256
def an : Nat → Int → List Int
 | 0, _ => []
 | k + 1, n => eD n k :: an k n
def aH (l : List Int) : Prop := ∀ x ∈ l, 0 ≤ x ∧ x ≤ 255
theorem vf (n : Int) (i : Nat) : 0 ≤ eD n i ∧ eD n i ≤ 255 := by unfold eD; omega
theorem aH.nil : aH [] := fun _ h => by cases h
theorem aH.cons {x : Int} {l : List Int} (h : 0 ≤ x ∧ x ≤ 255) (hl : aH l) : aH (x :: l) := fun y hy => by
 rcases List.mem_cons.1 hy with rfl | hy
 ·exact h
 ·exact hl y hy
theorem aH.app {l m : List Int} (h : aH l) (hm : aH m) : aH (l ++ m) := fun x hx => (List.mem_append.1 hx).elim (h x) (hm x)
theorem aH.tail {x : Int} {l : List Int} (h : aH (x :: l)) : aH l := fun y hy => h y (List.mem_cons_of_mem _ hy)
theorem aH.right {l m : List Int} (h : aH (l ++ m)) : aH m := fun y hy => h y (List.mem_append.2 (.inr hy))
theorem aH.left {l m : List Int} (h : aH (l ++ m)) : aH l := fun y hy => h y (List.mem_append.2 (.inl hy))
theorem aH.flat {α : Type} {f : α → List Int} (hf : ∀ x, aH (f x)) (l : List α) : aH (l.flatMap f) := fun y hy => by
 obtain ⟨x, _, hy⟩ := List.mem_flatMap.1 hy
 exact hf x y hy
theorem aA : ∀ (k : Nat) (n : Int), (an k n).length = k
 | 0, _ => rfl
 | k + 1, n => by simp [an, aA k n]
theorem aC : ∀ (k : Nat) (n : Int), aH (an k n)
 | 0, _ => aH.nil
 | k + 1, n => aH.cons (vf n k) (aC k n)
def bg : Int → List Int → Int
 | a, [] => a
 | a, x :: l => bg (a * 256 + x) l
theorem kV (k : Nat) : (256 : Int) ^ (k + 1) = 256 ^ k * 256 := Int.pow_succ 256 k
theorem fB (k : Nat) : (0 : Int) < 256 ^ k := Int.pow_pos (by omega)
theorem ir (n a b : Int) (ha : 0 < a) (_hb : 0 < b) : n % (a * b) = n % a + a * (n / a % b) := by
 rw [Int.emod_def n (a * b), Int.emod_def n a, Int.emod_def (n / a) b, Int.ediv_ediv_of_nonneg (by omega), Int.mul_sub, Int.mul_assoc]
 omega
theorem rV (n : Int) (k : Nat) {j : Nat} (h : j < k) : eD (n % 256 ^ k) j = eD n j := by
 unfold eD
 obtain ⟨d, rfl⟩ : ∃ d, k = j + 1 + d := ⟨k - (j + 1), by omega⟩
 have hj := fB j
 have hd := fB d
 have e : (256 : Int) ^ (j + 1 + d) = 256 ^ j * (256 * 256 ^ d) := by rw [Int.pow_add, Int.pow_succ]; rw [Int.mul_assoc]
 rw [e, ir _ _ _ hj (by omega), Int.add_mul_ediv_left _ _ (by omega), Int.ediv_eq_zero_of_lt (Int.emod_nonneg _ (by omega)) (Int.emod_lt_of_pos _ hj), Int.zero_add, ir _ _ _ (by omega) hd, Int.add_mul_emod_self_left, Int.emod_emod]
theorem jo (n : Int) (k : Nat) : ∀ j, j ≤ k → an j (n % 256 ^ k) = an j n
 | 0, _ => rfl
 | j + 1, h => by simp only [an]; rw [rV n k (by omega), jo n k j (by omega)]
theorem m7 : ∀ (k : Nat) (n a : Int), bg a (an k n) = a * 256 ^ k + n % 256 ^ k
 | 0, n, a => by simp [an, bg, Int.emod_one]
 | k + 1, n, a => by
  simp only [an, bg]
  rw [m7 k n]
  unfold eD
  rw [kV, ir _ _ _ (fB k) (by omega)]
  generalize n / 256 ^ k % 256 = y
  rw [Int.add_mul, Int.mul_comm (256 ^ k) y, Int.mul_assoc, Int.mul_comm 256 (256 ^ k)]
  omega
theorem pR {n : Int} {k : Nat} (h : 0 ≤ n) (h' : n < 256 ^ k) : bg 0 (an k n) = n := by
 rw [m7, Int.zero_mul, Int.zero_add, Int.emod_eq_of_lt h h']
theorem mD : ∀ (l m : List Int) (a : Int), bg a (l ++ m) = bg (bg a l) m
 | [], _, _ => rfl
 | x :: l, m, a => by simp only [List.cons_append, bg]; exact mD l m _
theorem gL : ∀ (l : List Int) (a : Int), 0 ≤ a → aH l → a * 256 ^ l.length ≤ bg a l ∧ bg a l < (a + 1) * 256 ^ l.length
 | [], a, _, _ => by simp [bg]; omega
 | x :: l, a, ha, h => by
  have hx := h x (List.mem_cons_self ..)
  have ih := gL l (a * 256 + x) (by omega) h.tail
  have hp := fB l.length
  simp only [bg, List.length_cons]
  rw [kV]
  have e1 : a * (256 ^ l.length * 256) = (a * 256) * 256 ^ l.length := by rw [Int.mul_comm (256 ^ l.length) 256, ← Int.mul_assoc]
  have e2 : (a + 1) * (256 ^ l.length * 256) = (a * 256 + 256) * 256 ^ l.length := by rw [Int.mul_comm (256 ^ l.length) 256, ← Int.mul_assoc, Int.add_mul, Int.one_mul]
  rw [e1, e2]
  have m1 : (a * 256) * 256 ^ l.length ≤ (a * 256 + x) * 256 ^ l.length := Int.mul_le_mul_of_nonneg_right (by omega) (by omega)
  have m2 : (a * 256 + x + 1) * 256 ^ l.length ≤ (a * 256 + 256) * 256 ^ l.length := Int.mul_le_mul_of_nonneg_right (by omega) (by omega)
  omega
theorem o9 : ∀ (l : List Int) (a : Int), 0 ≤ a → aH l → an l.length (bg a l) = l
 | [], _, _, _ => rfl
 | x :: l, a, ha, h => by
  have hx := h x (List.mem_cons_self ..)
  have hb := gL l (a * 256 + x) (by omega) h.tail
  have hp := fB l.length
  simp only [bg, List.length_cons, an]
  rw [o9 l (a * 256 + x) (by omega) h.tail]
  congr 1
  unfold eD
  have : bg (a * 256 + x) l / 256 ^ l.length = a * 256 + x := by
   have h1 : a * 256 + x ≤ bg (a * 256 + x) l / 256 ^ l.length := (Int.le_ediv_iff_mul_le hp).2 hb.1
   have h2 : bg (a * 256 + x) l / 256 ^ l.length < a * 256 + x + 1 := (Int.ediv_lt_iff_lt_mul hp).2 hb.2
   omega
  rw [this]; omega
def fF (b : Bool) : Int := if b then 1 else 0
def qB (p : Phs) : List Int := [p.min, p.gap, p.max, p.top, p.step, p.yel, p.red, p.walk, p.blinks]
def dK (p : Phs) : List Int := an 1 (fF p.on) ++ (qB p).flatMap (an 2) ++ [p.recl, fF p.lock, fF p.rest].flatMap (an 1)
def ef (l : List Int) : List Int := an 1 l.length ++ l.flatMap (an 1)
def fg (g : List Int × List Int) : List Int := ef g.1 ++ ef g.2
def eO (x : Nat) : List Int := an 8 (x : Int)
def et (d : Det) : List Int := an 1 d.ph ++ [d.on, d.off, d.dl, d.ex].flatMap eO ++ [d.mon, d.mof].flatMap (an 2)
def eu (r : Rl) : List Int := [r.bars, r.clr, r.dwl, r.ext].flatMap (an 1) ++ [r.dly, r.grn, r.foot, r.hold, r.stay, r.most].flatMap (an 2) ++ an 4 r.lim
def fd (b : Bus) : List Int := an 1 b.set ++ an 2 b.lock
def ie : Int := 5784065
def dw (t : Tab) : List Int :=
 an 3 ie ++ (((List.range 8).flatMap fun p => dK (t.ph p)) ++ ((an 1 t.gr.length ++ t.gr.flatMap fg) ++ (((List.range 8).flatMap fun p => an 1 (t.cf p)) ++
  ((an 1 t.de.length ++ t.de.flatMap et) ++ ((an 1 t.ra.length ++ t.ra.flatMap eu) ++ ((an 1 t.bu.length ++ t.bu.flatMap fd) ++
   ([t.ext, t.bud, t.start, t.rev, t.least].flatMap (an 2) ++ (((List.range 8).flatMap fun p => an 1 (t.fl p)) ++ [t.win, t.share].flatMap (an 4)))))))))
theorem pL (x : Nat) : aH (eO x) := aC _ _
theorem oU (p : Phs) : aH (dK p) := ((aC _ _).app (aH.flat (fun _ => aC _ _) _)).app (aH.flat (fun _ => aC _ _) _)
theorem z7 (l : List Int) : aH (ef l) := (aC _ _).app (aH.flat (fun _ => aC _ _) _)
theorem n4 (g : List Int × List Int) : aH (fg g) := (z7 _).app (z7 _)
theorem oy (d : Det) : aH (et d) := ((aC _ _).app (aH.flat pL _)).app (aH.flat (fun _ => aC _ _) _)
theorem ou (r : Rl) : aH (eu r) := ((aH.flat (fun _ => aC _ _) _).app (aH.flat (fun _ => aC _ _) _)).app (aC _ _)
theorem oF (b : Bus) : aH (fd b) := (aC _ _).app (aC _ _)
theorem jQ (t : Tab) : aH (dw t) :=
 (aC _ _).app ((aH.flat (fun _ => oU _) _).app (((aC _ _).app (aH.flat n4 _)).app ((aH.flat (fun _ => aC _ _) _).app
  (((aC _ _).app (aH.flat oy _)).app (((aC _ _).app (aH.flat ou _)).app (((aC _ _).app (aH.flat oF _)).app
   ((aH.flat (fun _ => aC _ _) _).app ((aH.flat (fun _ => aC _ _) _).app (aH.flat (fun _ => aC _ _) _)))))))))
def Pz (α : Type) : Type := List Int → Option (α × List Int)
def Pz.pure {α : Type} (x : α) : Pz α := fun s => some (x, s)
def Pz.bind {α β : Type} (p : Pz α) (f : α → Pz β) : Pz β := fun s => match p s with | some (x, r) => f x r | none => none
def Pz.rep {α : Type} (p : Pz α) : Nat → Pz (List α)
 | 0 => Pz.pure []
 | n + 1 => p.bind fun x => (p.rep n).bind fun l => Pz.pure (x :: l)
def bY (k : Nat) (lo hi : Int) : Pz Int := fun s => if s.length < k then none else if lo ≤ bg 0 (s.take k) ∧ bg 0 (s.take k) ≤ hi then some (bg 0 (s.take k), s.drop k) else none
structure Rw {α : Type} (p : Pz α) (e : α → List Int) (ok : α → Prop) : Prop where
 back : ∀ s x r, aH s → p s = some (x, r) → s = e x ++ r ∧ ok x
 fore : ∀ x r, ok x → p (e x ++ r) = some (x, r)
theorem Rw.num {k : Nat} {lo hi : Int} (hlo : 0 ≤ lo) (hhi : hi < 256 ^ k) : Rw (bY k lo hi) (an k) (fun n => lo ≤ n ∧ n ≤ hi) where
 back s x r hs h := by
  unfold bY at h
  split at h
  ·cases h
  ·rename_i hl
   split at h
   ·rename_i hb
    obtain ⟨rfl, rfl⟩ := by simpa using h
    refine ⟨?_, hb⟩
    have hk : (s.take k).length = k := by rw [List.length_take]; omega
    have hq : aH (s.take k) := fun y hy => hs y (List.mem_of_mem_take hy)
    have := o9 (s.take k) 0 (by omega) hq
    rw [hk] at this
    rw [this, List.take_append_drop]
   ·cases h
 fore x r h := by
  unfold bY
  have hl : (an k x).length = k := aA k x
  have ht : (an k x ++ r).take k = an k x := by rw [List.take_append_of_le_length (by omega), List.take_of_length_le (by omega)]
  have hd : (an k x ++ r).drop k = r := by rw [List.drop_append_of_le_length (by omega), List.drop_of_length_le (by omega), List.nil_append]
  rw [if_neg (by rw [List.length_append]; omega), ht, hd, pR (by omega) (by omega), if_pos h]
theorem Rw.bind {α β : Type} {p : Pz α} {q : Pz β} {e : α → List Int} {f : β → List Int} {ok : α → Prop} {ok' : β → Prop} (hp : Rw p e ok) (hq : Rw q f ok') :
  Rw (p.bind fun x => q.bind fun y => Pz.pure (x, y)) (fun z => e z.1 ++ f z.2) (fun z => ok z.1 ∧ ok' z.2) where
 back s z r hs h := by
  unfold Pz.bind at h
  split at h
  ·rename_i x s1 h1
   obtain ⟨e1, o1⟩ := hp.back s x s1 hs h1
   dsimp only at h
   split at h
   ·rename_i y s2 h2
    obtain ⟨e2, o2⟩ := hq.back s1 y s2 (by rw [e1] at hs; exact hs.right) h2
    unfold Pz.pure at h
    obtain ⟨rfl, rfl⟩ := by simpa using h
    exact ⟨by rw [e1, e2, List.append_assoc], o1, o2⟩
   ·cases h
  ·cases h
 fore z r h := by
  unfold Pz.bind
  rw [List.append_assoc, hp.fore _ _ h.1]
  simp only
  rw [hq.fore _ _ h.2]
  rfl
theorem Rw.map {α β : Type} {p : Pz α} {e : α → List Int} {ok : α → Prop} (hp : Rw p e ok) (f : α → β) (g : β → α) (hg : ∀ x, ok x → g (f x) = x) (hf : ∀ y, f (g y) = y) :
  Rw (p.bind fun x => Pz.pure (f x)) (fun y => e (g y)) (fun y => ok (g y)) where
 back s y r hs h := by
  unfold Pz.bind at h
  split at h
  ·rename_i x s1 h1
   obtain ⟨e1, o1⟩ := hp.back s x s1 hs h1
   unfold Pz.pure at h
   obtain ⟨rfl, rfl⟩ := by simpa using h
   rw [hg x o1]
   exact ⟨e1, o1⟩
  ·cases h
 fore y r h := by
  unfold Pz.bind
  rw [hp.fore _ _ h]
  simp only [Pz.pure, hf]
theorem Rw.congr {α : Type} {p q : Pz α} {e e' : α → List Int} {ok ok' : α → Prop} (h : Rw p e ok) (hp : p = q) (he : ∀ x, e x = e' x) (ho : ∀ x, ok x ↔ ok' x) : Rw q e' ok' := by
 subst hp
 exact ⟨fun s x r hs hh => by rw [← he x, ← ho x]; exact h.back s x r hs hh, fun x r hh => by rw [← he x]; exact h.fore x r ((ho x).2 hh)⟩
theorem Rw.test {α : Type} {p : Pz α} {e : α → List Int} {ok : α → Prop} (hp : Rw p e ok) (t : α → Bool) :
  Rw (p.bind fun x s => if t x = true then some (x, s) else none) e (fun x => ok x ∧ t x = true) where
 back s x r hs h := by
  unfold Pz.bind at h
  split at h
  ·rename_i y s1 h1
   obtain ⟨e1, o1⟩ := hp.back s y s1 hs h1
   dsimp only at h
   split at h
   ·rename_i ht
    obtain ⟨rfl, rfl⟩ := by simpa using h
    exact ⟨e1, o1, ht⟩
   ·cases h
  ·cases h
 fore x r h := by
  unfold Pz.bind
  rw [hp.fore _ _ h.1]
  simp [h.2]
theorem Rw.rep {α : Type} {p : Pz α} {e : α → List Int} {ok : α → Prop} (hp : Rw p e ok) : ∀ n, Rw (p.rep n) (fun l => l.flatMap e) (fun l => l.length = n ∧ ∀ x ∈ l, ok x)
 | 0 => by
  refine ⟨fun s x r _ h => ?_, fun x r h => ?_⟩
  ·unfold Pz.rep Pz.pure at h
   obtain ⟨rfl, rfl⟩ := by simpa using h
   exact ⟨rfl, rfl, fun _ h => by cases h⟩
  ·have : x = [] := List.eq_nil_of_length_eq_zero h.1
   subst this; rfl
 | n + 1 => by
  have hn := Rw.rep hp n
  refine ⟨fun s l r hs h => ?_, fun l r h => ?_⟩
  ·unfold Pz.rep Pz.bind at h
   split at h
   ·rename_i x s1 h1
    obtain ⟨e1, o1⟩ := hp.back s x s1 hs h1
    dsimp only at h
    split at h
    ·rename_i l2 s2 h2
     obtain ⟨e2, o2, o3⟩ := hn.back s1 l2 s2 (by rw [e1] at hs; exact hs.right) h2
     unfold Pz.pure at h
     obtain ⟨rfl, rfl⟩ := by simpa using h
     refine ⟨by rw [e1, e2, List.flatMap_cons, List.append_assoc], by simp [o2], fun y hy => ?_⟩
     rcases List.mem_cons.1 hy with rfl | hy
     ·exact o1
     ·exact o3 y hy
    ·cases h
   ·cases h
  ·obtain ⟨hl, ho⟩ := h
   cases l with
   | nil => simp at hl
   | cons x l =>
    unfold Pz.rep Pz.bind
    rw [List.flatMap_cons, List.append_assoc, hp.fore _ _ (ho x (List.mem_cons_self ..))]
    simp only
    rw [hn.fore _ _ ⟨by simpa using hl, fun y hy => ho y (List.mem_cons_of_mem _ hy)⟩]
    rfl
theorem Rw.many {α : Type} {p : Pz α} {e : α → List Int} {ok : α → Prop} (hp : Rw p e ok) {m : Nat} (hm : m ≤ 255) :
  Rw ((bY 1 0 m).bind fun n => p.rep n.toNat) (fun l => an 1 l.length ++ l.flatMap e) (fun l => l.length ≤ m ∧ ∀ x ∈ l, ok x) where
 back s l r hs h := by
  have hn := Rw.num (k := 1) (lo := 0) (hi := (m : Int)) (by omega) (by omega)
  unfold Pz.bind at h
  split at h
  ·rename_i x s1 h1
   obtain ⟨e1, o1, o1'⟩ := hn.back s x s1 hs h1
   obtain ⟨e2, o2, o3⟩ := (Rw.rep hp x.toNat).back s1 l r (by rw [e1] at hs; exact hs.right) h
   have : (l.length : Int) = x := by omega
   exact ⟨by rw [e1, e2, this, List.append_assoc], by omega, o3⟩
  ·cases h
 fore l r h := by
  have hn := Rw.num (k := 1) (lo := 0) (hi := (m : Int)) (by omega) (by omega)
  unfold Pz.bind
  rw [List.append_assoc, hn.fore _ _ ⟨by omega, by omega⟩]
  simp only [Int.toNat_natCast]
  exact (Rw.rep hp l.length).fore l r ⟨rfl, h.2⟩
theorem Pz.assoc {α β γ : Type} (p : Pz α) (f : α → Pz β) (g : β → Pz γ) : (p.bind f).bind g = p.bind fun x => (f x).bind g := by
 funext s
 unfold Pz.bind
 cases p s with
 | none => rfl
 | some z => rfl
theorem Pz.pure_bind {α β : Type} (x : α) (f : α → Pz β) : (Pz.pure x).bind f = f x := rfl
theorem Pz.none {α β : Type} {p : Pz α} {f : α → Pz β} {s : List Int} (h : p s = .none) : p.bind f s = .none := by unfold Pz.bind; rw [h]
theorem Pz.some {α β : Type} {p : Pz α} {f : α → Pz β} {s r : List Int} {x : α} (h : p s = .some (x, r)) : p.bind f s = f x r := by unfold Pz.bind; rw [h]
def dU : Pz Int := bY 2 0 9999
def oZ : Pz Bool := (bY 1 0 1).bind fun n => Pz.pure (n == 1)
def kz : Pz Int := bY 1 0 255
def gd (ok : Nat → Bool) : Pz Nat := (bY 8 0 18446744073709551615).bind fun n s => if ok n.toNat = true then some (n.toNat, s) else none
def gU (on : Bool) (l : List Int) (rc : Int) (lk rs : Bool) : Phs := ⟨on, l.getD 0 0, l.getD 1 0, l.getD 2 0, l.getD 3 0, l.getD 4 0, l.getD 5 0, l.getD 6 0, l.getD 7 0, l.getD 8 0, rc, lk, rs⟩
def mz : Pz Phs := oZ.bind fun on => (dU.rep 9).bind fun l => (bY 1 0 3).bind fun rc => oZ.bind fun lk => oZ.bind fun rs => Pz.pure (gU on l rc lk rs)
def i8 : Pz (List Int) := (bY 1 0 8).bind fun n => (bY 1 0 7).rep n.toNat
def sZ : Pz (List Int × List Int) := i8.bind fun a => i8.bind fun b => Pz.pure (a, b)
def l4 : Pz Det := (bY 1 0 7).bind fun p => (gd ec).bind fun on => (gd ec).bind fun off => (gd dE).bind fun dl => (gd dE).bind fun ex => dU.bind fun mon => dU.bind fun mof => Pz.pure ⟨p, on, off, dl, ex, mon, mof⟩
def rlP : Pz Rl := (kz.rep 4).bind fun a => (dU.rep 6).bind fun b => (bY 4 0 2147483647).bind fun m => Pz.pure ⟨a.getD 0 0, a.getD 1 0, a.getD 2 0, a.getD 3 0, b.getD 0 0, b.getD 1 0, b.getD 2 0, b.getD 3 0, b.getD 4 0, b.getD 5 0, m⟩
def tL : Pz Bus := kz.bind fun a => dU.bind fun b => Pz.pure ⟨a, b⟩
def dO {α : Type} (m : Nat) (p : Pz α) : Pz (List α) := (bY 1 0 m).bind fun n => p.rep n.toNat
def vI : Phs := ⟨false, 0, 0, 0, 0, 0, 0, 0, 0, 0, 0, false, false⟩
def af (ps : List Phs) (gr : List (List Int × List Int)) (cf : List Int) (de : List Det) (ra : List Rl) (bu : List Bus) (ts fl : List Int) (win share : Int) : Tab :=
 {ph := fun i => ps.getD i vI, gr := gr, cf := fun i => cf.getD i 0, de := de, ra := ra, bu := bu, ext := ts.getD 0 0, bud := ts.getD 1 0, start := ts.getD 2 0, rev := ts.getD 3 0, least := ts.getD 4 0, fl := fun i => fl.getD i 0, win := win, share := share }
def cb : Pz Tab := (mz.rep 8).bind fun ps => (dO 4 sZ).bind fun gr => (kz.rep 8).bind fun cf => (dO 16 l4).bind fun de => (dO 4 rlP).bind fun ra => (dO 4 tL).bind fun bu =>
 (dU.rep 5).bind fun ts => ((bY 1 0 2).rep 8).bind fun fl => (bY 4 0 2147483647).bind fun win => (bY 4 0 2147483647).bind fun share => Pz.pure (af ps gr cf de ra bu ts fl win share)
theorem gV {m : Int} {l : List Int} : bH m l = true ↔ ∀ x ∈ l, 0 ≤ x ∧ x ≤ m := by simp [bH]
theorem kW : Rw dU (an 2) (fun n => 0 ≤ n ∧ n ≤ 9999) := Rw.num (by omega) (by decide)
theorem r9 : Rw kz (an 1) (fun n => 0 ≤ n ∧ n ≤ 255) := Rw.num (by omega) (by decide)
theorem rt : Rw oZ (fun b => an 1 (fF b)) (fun _ => True) := by
 refine ((Rw.num (k := 1) (lo := 0) (hi := 1) (by omega) (by decide)).map (fun n => n == 1) fF (fun x h => ?_) (fun y => ?_)).congr rfl (fun _ => rfl) (fun x => ?_)
 ·have : x = 0 ∨ x = 1 := by omega
  rcases this with rfl | rfl <;> rfl
 ·cases y <;> rfl
 ·cases x <;> simp [fF]
theorem pb (ok : Nat → Bool) : Rw (gd ok) eO (fun n => n < 18446744073709551616 ∧ ok n = true) := by
 have h := ((Rw.num (k := 8) (lo := 0) (hi := 18446744073709551615) (by omega) (by decide)).map (fun n => n.toNat) (fun n => (n : Int)) (fun x h => by omega) (fun y => by simp)).test ok
 exact h.congr ((Pz.assoc _ _ _).trans rfl) (fun _ => rfl) (fun x => ⟨fun h => ⟨by omega, h.2⟩, fun h => ⟨by omega, h.2⟩⟩)
theorem xp {l : List Int} (h : l.length = 9) : [l.getD 0 0, l.getD 1 0, l.getD 2 0, l.getD 3 0, l.getD 4 0, l.getD 5 0, l.getD 6 0, l.getD 7 0, l.getD 8 0] = l := by
 match l, h with
 | [a, b, c, d, e, f, g, i, j], _ => rfl
theorem xE {l : List Int} (h : l.length = 6) : [l.getD 0 0, l.getD 1 0, l.getD 2 0, l.getD 3 0, l.getD 4 0, l.getD 5 0] = l := by
 match l, h with
 | [a, b, c, d, e, f], _ => rfl
theorem xj {l : List Int} (h : l.length = 5) : [l.getD 0 0, l.getD 1 0, l.getD 2 0, l.getD 3 0, l.getD 4 0] = l := by
 match l, h with
 | [a, b, c, d, e], _ => rfl
theorem xi {l : List Int} (h : l.length = 4) : [l.getD 0 0, l.getD 1 0, l.getD 2 0, l.getD 3 0] = l := by
 match l, h with
 | [a, b, c, d], _ => rfl
theorem xC : Rw mz dK (fun p => gq p = true) := by
 have h := (rt.bind ((kW.rep 9).bind ((Rw.num (k := 1) (lo := 0) (hi := 3) (by omega) (by decide)).bind (rt.bind rt)))).map (fun z => gU z.1 z.2.1 z.2.2.1 z.2.2.2.1 z.2.2.2.2) (fun p => (p.on, qB p, p.recl, p.lock, p.rest))
  (fun x h => by obtain ⟨on, l, rc, lk, rs⟩ := x; have := xp h.2.1.1; simp only [gU, qB]; rw [this]) (fun y => rfl)
 simp only [Pz.assoc, Pz.pure_bind] at h
 refine h.congr rfl (fun p => ?_) (fun p => ?_)
 ·simp [dK, List.append_assoc]
 ·simp only [gq, Bool.and_eq_true, gV, true_and, and_true, qB]
  simp
theorem nX : Rw i8 ef (fun l => dB l = true) := by
 have h := (Rw.num (k := 1) (lo := 0) (hi := 7) (by omega) (by decide)).many (m := 8) (by omega)
 refine h.congr rfl (fun _ => rfl) (fun l => ?_)
 simp [dB, bH]
theorem xg : Rw sZ fg (fun g => gC g = true) := by
 refine (nX.bind nX).congr rfl (fun _ => rfl) (fun g => ?_)
 simp [gC]
theorem xy : Rw l4 et (fun d => eU d = true ∧ (d.on < 18446744073709551616 ∧ d.off < 18446744073709551616 ∧ d.dl < 18446744073709551616 ∧ d.ex < 18446744073709551616)) := by
 have h := ((Rw.num (k := 1) (lo := 0) (hi := 7) (by omega) (by decide)).bind ((pb ec).bind ((pb ec).bind ((pb dE).bind ((pb dE).bind (kW.bind kW)))))).map (fun z => (⟨z.1, z.2.1, z.2.2.1, z.2.2.2.1, z.2.2.2.2.1, z.2.2.2.2.2.1, z.2.2.2.2.2.2⟩ : Det)) (fun d => (d.ph, d.on, d.off, d.dl, d.ex, d.mon, d.mof)) (fun _ _ => rfl) (fun _ => rfl)
 simp only [Pz.assoc, Pz.pure_bind] at h
 refine h.congr rfl (fun d => ?_) (fun d => ?_)
 ·simp [et, List.append_assoc]
 ·simp only [eU, Bool.and_eq_true, gV, List.mem_cons, List.not_mem_nil, or_false, forall_eq, forall_eq_or_imp]
  constructor
  ·rintro ⟨a, ⟨b1, b2⟩, ⟨c1, c2⟩, ⟨d1, d2⟩, ⟨e1, e2⟩, f⟩; exact ⟨⟨a, b2, c2, d2, e2, f⟩, b1, c1, d1, e1⟩
  ·rintro ⟨⟨a, b2, c2, d2, e2, f⟩, b1, c1, d1, e1⟩; exact ⟨a, ⟨b1, b2⟩, ⟨c1, c2⟩, ⟨d1, d2⟩, ⟨e1, e2⟩, f⟩
theorem xz : Rw rlP eu (fun r => iL r = true) := by
 have h := ((r9.rep 4).bind ((kW.rep 6).bind (Rw.num (k := 4) (lo := 0) (hi := 2147483647) (by omega) (by decide)))).map
  (fun z => (⟨z.1.getD 0 0, z.1.getD 1 0, z.1.getD 2 0, z.1.getD 3 0, z.2.1.getD 0 0, z.2.1.getD 1 0, z.2.1.getD 2 0, z.2.1.getD 3 0, z.2.1.getD 4 0, z.2.1.getD 5 0, z.2.2⟩ : Rl))
  (fun r => ([r.bars, r.clr, r.dwl, r.ext], [r.dly, r.grn, r.foot, r.hold, r.stay, r.most], r.lim))
  (fun x h => by obtain ⟨a, b, m⟩ := x; simp only; rw [xi h.1.1, xE h.2.1.1]) (fun _ => rfl)
 simp only [Pz.assoc, Pz.pure_bind] at h
 refine h.congr rfl (fun r => ?_) (fun r => ?_)
 ·simp [eu, List.append_assoc]
 ·simp only [iL, Bool.and_eq_true, gV]
  simp
theorem xh : Rw tL fd (fun b => fK b = true) := by
 have h := (r9.bind kW).map (fun z => (⟨z.1, z.2⟩ : Bus)) (fun b => (b.set, b.lock)) (fun _ _ => rfl) (fun _ => rfl)
 simp only [Pz.assoc, Pz.pure_bind] at h
 refine h.congr rfl (fun _ => rfl) (fun b => ?_)
 simp [fK, bH]
def nM (t : Tab) : List Int := (dw t).drop 3
theorem nI (t : Tab) : dw t = an 3 ie ++ nM t := by
 unfold nM dw
 rw [List.drop_append_of_le_length (by rw [aA]; omega), List.drop_of_length_le (by rw [aA]; omega), List.nil_append]
def kX (t : Tab) : Prop := ∀ d ∈ t.de, d.on < 18446744073709551616 ∧ d.off < 18446744073709551616 ∧ d.dl < 18446744073709551616 ∧ d.ex < 18446744073709551616
def ny (t : Tab) : Tab := { t with ph := fun i => ((List.range 8).map t.ph).getD i vI, cf := fun i => ((List.range 8).map t.cf).getD i 0, fl := fun i => ((List.range 8).map t.fl).getD i 0 }
def wy (t : Tab) : List Phs × List (List Int × List Int) × List Int × List Det × List Rl × List Bus × List Int × List Int × Int × Int := ((List.range 8).map t.ph, t.gr, (List.range 8).map t.cf, t.de, t.ra, t.bu, [t.ext, t.bud, t.start, t.rev, t.least], (List.range 8).map t.fl, t.win, t.share)
def wG (z : List Phs × List (List Int × List Int) × List Int × List Det × List Rl × List Bus × List Int × List Int × Int × Int) : List Int :=
 z.1.flatMap dK ++ ((an 1 z.2.1.length ++ z.2.1.flatMap fg) ++ (z.2.2.1.flatMap (an 1) ++ ((an 1 z.2.2.2.1.length ++ z.2.2.2.1.flatMap et) ++ ((an 1 z.2.2.2.2.1.length ++ z.2.2.2.2.1.flatMap eu) ++ ((an 1 z.2.2.2.2.2.1.length ++ z.2.2.2.2.2.1.flatMap fd) ++
   (z.2.2.2.2.2.2.1.flatMap (an 2) ++ (z.2.2.2.2.2.2.2.1.flatMap (an 1) ++ (an 4 z.2.2.2.2.2.2.2.2.1 ++ an 4 z.2.2.2.2.2.2.2.2.2))))))))
theorem mP (t : Tab) : nM t = wG (wy t) := by
 unfold nM dw
 rw [List.drop_append_of_le_length (by rw [aA]; omega), List.drop_of_length_le (by rw [aA]; omega), List.nil_append]
 simp [wG, wy, List.flatMap_map]
theorem sf {α : Type} (d : α) {l : List α} (h : l.length = 8) : (List.range 8).map (fun i => l.getD i d) = l := by
 match l, h with
 | [a, b, c, d, e, f, g, i], _ => rfl
def ww (z : List Phs × List (List Int × List Int) × List Int × List Det × List Rl × List Bus × List Int × List Int × Int × Int) : Tab := af z.1 z.2.1 z.2.2.1 z.2.2.2.1 z.2.2.2.2.1 z.2.2.2.2.2.1 z.2.2.2.2.2.2.1 z.2.2.2.2.2.2.2.1 z.2.2.2.2.2.2.2.2.1 z.2.2.2.2.2.2.2.2.2
def pK (z : List Phs × List (List Int × List Int) × List Int × List Det × List Rl × List Bus × List Int × List Int × Int × Int) : Prop :=
 (z.1.length = 8 ∧ ∀ x ∈ z.1, gq x = true) ∧ (z.2.1.length ≤ 4 ∧ ∀ x ∈ z.2.1, gC x = true) ∧ (z.2.2.1.length = 8 ∧ ∀ x ∈ z.2.2.1, 0 ≤ x ∧ x ≤ 255) ∧
 (z.2.2.2.1.length ≤ 16 ∧ ∀ d ∈ z.2.2.2.1, eU d = true ∧ (d.on < 18446744073709551616 ∧ d.off < 18446744073709551616 ∧ d.dl < 18446744073709551616 ∧ d.ex < 18446744073709551616)) ∧
 (z.2.2.2.2.1.length ≤ 4 ∧ ∀ x ∈ z.2.2.2.2.1, iL x = true) ∧ (z.2.2.2.2.2.1.length ≤ 4 ∧ ∀ x ∈ z.2.2.2.2.2.1, fK x = true) ∧ (z.2.2.2.2.2.2.1.length = 5 ∧ ∀ x ∈ z.2.2.2.2.2.2.1, 0 ≤ x ∧ x ≤ 9999) ∧
 (z.2.2.2.2.2.2.2.1.length = 8 ∧ ∀ x ∈ z.2.2.2.2.2.2.2.1, 0 ≤ x ∧ x ≤ 2) ∧ (0 ≤ z.2.2.2.2.2.2.2.2.1 ∧ z.2.2.2.2.2.2.2.2.1 ≤ 2147483647) ∧ (0 ≤ z.2.2.2.2.2.2.2.2.2 ∧ z.2.2.2.2.2.2.2.2.2 ≤ 2147483647)
theorem vo {z : List Phs × List (List Int × List Int) × List Int × List Det × List Rl × List Bus × List Int × List Int × Int × Int} (h : pK z) : wy (ww z) = z := by
 obtain ⟨ps, gr, cf, de, ra, bu, ts, fl, win, share⟩ := z
 obtain ⟨⟨h1, _⟩, _, ⟨h2, _⟩, _, _, _, ⟨h3, _⟩, ⟨h4, _⟩, _⟩ := h
 simp only at h1 h2 h3 h4
 simp only [wy, ww, af]
 rw [sf _ h1, sf _ h2, sf _ h4, xj h3]
theorem sC (t : Tab) : pK (wy t) ↔ dS t = true ∧ kX t := by
 unfold pK wy dS kX
 simp only [Bool.and_eq_true, gV, List.all_eq_true, decide_eq_true_eq, List.length_map, List.length_range, true_and, List.mem_map, List.mem_range, forall_exists_index, and_imp, forall_apply_eq_imp_iff₂, List.mem_cons, List.not_mem_nil, or_false, forall_eq_or_imp, forall_eq, List.length_cons, List.length_nil]
 constructor
 ·rintro ⟨a, ⟨b1, b2⟩, c, ⟨d1, d2⟩, ⟨e1, e2⟩, ⟨f1, f2⟩, g, h, i, j⟩
  exact ⟨⟨⟨⟨⟨⟨⟨⟨⟨a, b1, b2⟩, c⟩, d1, fun x hx => (d2 x hx).1⟩, e1, e2⟩, f1, f2⟩, g⟩, h⟩, i, j⟩, fun x hx => (d2 x hx).2⟩
 ·rintro ⟨⟨⟨⟨⟨⟨⟨⟨⟨a, b1, b2⟩, c⟩, d1, d2⟩, e1, e2⟩, f1, f2⟩, g⟩, h⟩, i, j⟩, k⟩
  exact ⟨a, ⟨b1, b2⟩, c, ⟨d1, fun x hx => ⟨d2 x hx, k x hx⟩⟩, ⟨e1, e2⟩, ⟨f1, f2⟩, g, h, i, j⟩
theorem sz : Rw ((mz.rep 8).bind fun ps => (dO 4 sZ).bind fun gr => (kz.rep 8).bind fun cf => (dO 16 l4).bind fun de => (dO 4 rlP).bind fun ra => (dO 4 tL).bind fun bu =>
 (dU.rep 5).bind fun ts => ((bY 1 0 2).rep 8).bind fun fl => (bY 4 0 2147483647).bind fun win => (bY 4 0 2147483647).bind fun share => Pz.pure (ps, gr, cf, de, ra, bu, ts, fl, win, share)) wG pK := by
 have h4 : Rw (bY 4 0 2147483647) (an 4) (fun n => 0 ≤ n ∧ n ≤ 2147483647) := Rw.num (by omega) (by decide)
 have h := ((xC.rep 8).bind ((xg.many (m := 4) (by omega)).bind ((r9.rep 8).bind ((xy.many (m := 16) (by omega)).bind ((xz.many (m := 4) (by omega)).bind ((xh.many (m := 4) (by omega)).bind ((kW.rep 5).bind
  (((Rw.num (k := 1) (lo := 0) (hi := 2) (by omega) (by decide)).rep 8).bind (h4.bind h4)))))))))
 simp only [Pz.assoc, Pz.pure_bind] at h
 refine h.congr ?_ (fun _ => rfl) (fun _ => Iff.rfl)
 simp only [dO, Pz.assoc]
theorem pd : cb = ((mz.rep 8).bind fun ps => (dO 4 sZ).bind fun gr => (kz.rep 8).bind fun cf => (dO 16 l4).bind fun de => (dO 4 rlP).bind fun ra => (dO 4 tL).bind fun bu =>
 (dU.rep 5).bind fun ts => ((bY 1 0 2).rep 8).bind fun fl => (bY 4 0 2147483647).bind fun win => (bY 4 0 2147483647).bind fun share => Pz.pure (ps, gr, cf, de, ra, bu, ts, fl, win, share)).bind fun z => Pz.pure (ww z) := by
 simp only [Pz.assoc, Pz.pure_bind]; rfl
theorem qR {s r : List Int} {t : Tab} (hs : aH s) (h : cb s = some (t, r)) : s = nM t ++ r ∧ dS t = true ∧ kX t := by
 rw [pd] at h
 unfold Pz.bind at h
 split at h
 ·rename_i z s1 h1
  obtain ⟨e1, o1⟩ := sz.back s z s1 hs h1
  unfold Pz.pure at h
  obtain ⟨rfl, rfl⟩ := by simpa using h
  have e := vo o1
  refine ⟨?_, (sC _).1 (by rw [e]; exact o1)⟩
  rw [mP, e]; exact e1
 ·cases h
theorem qS (t : Tab) (r : List Int) (h : dS t = true) (hf : kX t) : cb (nM t ++ r) = some (ny t, r) := by
 rw [pd, mP, Pz.some (sz.fore (wy t) r ((sC t).2 ⟨h, hf⟩))]
 rfl
def ep (b : List Int) : List Int := b ++ an 2 (fq b)
def fx (t : Tab) : List Int := ep (dw t)
def d8 (b : List Int) : Option Tab :=
 if 2048 < b.length then none else
 match bY 3 0 16777215 b with
 | none => none
 | some (m, s) => if m ≠ ie then none else
  match cb s with
  | none => none
  | some (t, s2) =>
   match bY 2 0 65535 s2 with
   | none => none
   | some (c, s3) => if c ≠ fq (b.take (b.length - s2.length)) then none else if 0 < s3.length then none else some t
theorem jX {b : List Int} (h : aH b) : aH (ep b) := h.app (aC _ _)
theorem sN : Rw (bY 3 0 16777215) (an 3) (fun n => 0 ≤ n ∧ n ≤ 16777215) := Rw.num (by omega) (by decide)
theorem sr : Rw (bY 2 0 65535) (an 2) (fun n => 0 ≤ n ∧ n ≤ 65535) := Rw.num (by omega) (by decide)
theorem mK (a b : List Int) : (a ++ b).take ((a ++ b).length - b.length) = a := by
 rw [List.length_append, Nat.add_sub_cancel, List.take_append_of_le_length (Nat.le_refl _), List.take_length]
theorem ab1 {b : List Int} {t : Tab} (hb : aH b) (h : d8 b = some t) : b = fx t ∧ dS t = true ∧ kX t := by
 unfold d8 at h
 split at h
 ·cases h
 ·split at h
  ·cases h
  ·rename_i m s h1
   obtain ⟨e1, _⟩ := sN.back b m s hb h1
   split at h
   ·cases h
   ·rename_i hm
    have hm : m = ie := Decidable.not_not.1 hm
    subst hm
    have hs : aH s := by rw [e1] at hb; exact hb.right
    split at h
    ·cases h
    ·rename_i t' s2 h2
     obtain ⟨e2, mt, fb⟩ := qR hs h2
     have hs2 : aH s2 := by rw [e2] at hs; exact hs.right
     split at h
     ·cases h
     ·rename_i c s3 h3
      obtain ⟨e3, _⟩ := sr.back s2 c s3 hs2 h3
      split at h
      ·cases h
      ·rename_i hc
       have hc : c = _ := Decidable.not_not.1 hc
       split at h
       ·cases h
       ·rename_i h0
        have : s3 = [] := List.eq_nil_of_length_eq_zero (by omega)
        subst this
        obtain rfl := Option.some.inj h
        refine ⟨?_, mt, fb⟩
        have eb : b = dw t' ++ s2 := by rw [nI, e1, e2, List.append_assoc]
        rw [eb, mK] at hc
        rw [eb, e3, hc, List.append_nil]
        rfl
theorem ry (t : Tab) (h : dS t = true) (hf : kX t) (hl : (fx t).length ≤ 2048) : d8 (fx t) = some (ny t) := by
 have e : fx t = an 3 ie ++ (nM t ++ an 2 (fq (dw t))) := by unfold fx ep; rw [nI, List.append_assoc]
 have hs := mv (dw t)
 have h3 := sr.fore (fq (dw t)) [] hs
 rw [List.append_nil] at h3
 have h1 : bY 3 0 16777215 (fx t) = some (ie, nM t ++ an 2 (fq (dw t))) := by rw [e]; exact sN.fore ie _ (by decide)
 have h4 : (fx t).take ((fx t).length - (an 2 (fq (dw t))).length) = dw t := mK _ _
 unfold d8
 rw [if_neg (by omega), h1]
 simp only
 rw [if_neg (by simp), qS t _ h hf]
 simp only
 rw [h3]
 simp only
 rw [h4, if_neg (by simp), if_neg (by simp)]
theorem yt {α : Type} (f : α → List Int) (k : Nat) (hf : ∀ x, (f x).length = k) : ∀ l : List α, (l.flatMap f).length = l.length * k
 | [] => by simp
 | x :: l => by rw [List.flatMap_cons, List.length_append, hf, yt f k hf l, List.length_cons, Nat.add_mul]; omega
theorem pc {α : Type} (f : α → List Int) (k : Nat) : ∀ l : List α, (∀ x ∈ l, (f x).length ≤ k) → (l.flatMap f).length ≤ l.length * k
 | [], _ => by simp
 | x :: l, hf => by
  have h1 := hf x (List.mem_cons_self ..)
  have h2 := pc f k l fun y hy => hf y (List.mem_cons_of_mem _ hy)
  rw [List.flatMap_cons, List.length_append, List.length_cons, Nat.add_mul]; omega
theorem lq (p : Phs) : (dK p).length = 22 := by simp [dK, qB, aA]
theorem gy (l : List Int) : (ef l).length = 1 + l.length := by unfold ef; rw [List.length_append, aA, yt _ 1 (fun x => aA 1 x)]; omega
theorem lj (g : List Int × List Int) : (fg g).length = 2 + g.1.length + g.2.length := by unfold fg; rw [List.length_append, gy, gy]; omega
theorem kG (d : Det) : (et d).length = 37 := by simp [et, eO, aA]
theorem lh (r : Rl) : (eu r).length = 20 := by simp [eu, aA]
theorem lu (b : Bus) : (fd b).length = 3 := by simp [fd, aA]
theorem qN (t : Tab) : (dw t).length = 3 + 176 + (1 + (t.gr.flatMap fg).length) + 8 + (1 + t.de.length * 37) + (1 + t.ra.length * 20) + (1 + t.bu.length * 3) + 10 + 8 + 8 := by
 have h1 := yt (fun p => dK (t.ph p)) 22 (fun x => lq _) (List.range 8)
 have h2 := yt (fun p => an 1 (t.cf p)) 1 (fun x => aA _ _) (List.range 8)
 have h3 := yt (fun p => an 1 (t.fl p)) 1 (fun x => aA _ _) (List.range 8)
 have h4 := yt (an 2) 2 (fun x => aA _ _) [t.ext, t.bud, t.start, t.rev, t.least]
 have h5 := yt (an 4) 4 (fun x => aA _ _) [t.win, t.share]
 simp only [dw, List.length_append, aA, h1, h2, h3, h4, h5, yt et 37 kG, yt eu 20 lh, yt fd 3 lu, List.length_range, List.length_cons, List.length_nil]
 omega
theorem o6 {t : Tab} (h : dS t = true) : (fx t).length ≤ 2048 := by
 have hb := qN t
 unfold dS at h
 simp only [Bool.and_eq_true, decide_eq_true_eq, List.all_eq_true] at h
 have hg := pc fg 18 t.gr (fun g hg => by
  have := h.1.1.1.1.1.1.1.2.2 g hg
  simp only [gC, dB, Bool.and_eq_true, decide_eq_true_eq] at this
  rw [lj]; omega)
 have := h.1.1.1.1.1.1.1.2.1
 have := h.1.1.1.1.1.2.1
 have := h.1.1.1.1.2.1
 have := h.1.1.1.2.1
 unfold fx ep
 rw [List.length_append, aA]
 omega
end
section
open Go.RowKit
def dQ (c : dj) (x : Int) (j : Nat) : dj := cS j (c ^^^ kl x) ^^^ (kl x <<< j)
theorem vU (c : dj) (x : Int) : dQ c x 8 = kw c x := by
 have : kl x <<< 8 = 0#16 := by unfold kl; rw [← BitVec.shiftLeft_add]; exact BitVec.shiftLeft_eq_zero (by decide)
 unfold dQ; rw [this, uA]; simp
theorem vS (c : dj) (x : Int) : dQ c x 0 = c := by unfold dQ; rw [BitVec.shiftLeft_zero]; show (c ^^^ kl x) ^^^ kl x = c; rw [BitVec.xor_assoc, BitVec.xor_self, BitVec.xor_zero]
theorem ac0 (c : dj) (x : Int) (j : Nat) : dQ c x (j + 1) = if (dQ c x j).msb != (kl x <<< j).msb then (dQ c x j <<< 1) ^^^ 4129#16 else dQ c x j <<< 1 := by
 unfold dQ
 rw [kC]
 generalize cS j (c ^^^ kl x) = d
 have hy : kl x <<< (j + 1) = (kl x <<< j) <<< 1 := BitVec.shiftLeft_add _ _ _
 rw [hy]
 generalize kl x <<< j = y
 unfold kv
 rw [BitVec.msb_xor, pe]
 generalize d <<< 1 = d1
 generalize y <<< 1 = y1
 generalize (4129#16 : dj) = p
 have e : d1 ^^^ p ^^^ y1 = d1 ^^^ y1 ^^^ p := by rw [BitVec.xor_assoc, BitVec.xor_comm p y1, ← BitVec.xor_assoc]
 cases d.msb <;> cases y.msb <;> simp [e]
theorem xo (c : dj) : V c / (32768 : Int) = if c.msb then 1 else 0 := by
 rw [BitVec.msb_eq_decide]
 have := c.isLt
 unfold V
 by_cases h : 2 ^ (16 - 1) ≤ c.toNat
 ·simp only [h, decide_true, if_true]; omega
 ·simp only [h, decide_false]; simp; omega
theorem uU : ∀ x : Fin 256, ∀ j : Fin 8, IntKind.u16.wrap (bits .and .u8 (((x.1 : Nat) : Int) / (2 : Int) ^ (7 - j.1)) 1) = if (kl ((x.1 : Nat) : Int) <<< j.1).msb then (1 : Int) else 0 := by decide +kernel
theorem sU (c : dj) {x : Int} (hx : 0 ≤ x ∧ x ≤ 255) {j : Nat} (hj : j < 8) :
  (V c / (32768 : Int) != IntKind.u16.wrap (bits .and .u8 (x / (2 : Int) ^ (7 - j)) 1)) = (c.msb != (kl x <<< j).msb) := by
 obtain ⟨n, rfl⟩ := Int.eq_ofNat_of_zero_le hx.1
 have h := uU ⟨n, by omega⟩ ⟨j, hj⟩
 simp only at h
 rw [h, xo]
 cases c.msb <;> cases (kl (n : Int) <<< j).msb <;> rfl
theorem tf (c0 : dj) (a : Option Addr) (len cap : Nat) (zs : List Int) (w : World) (hl : zs.length = len) (hm : len ≤ 9223372036854775807) (hi : bj w a zs) (hz : ∀ i, i < zs.length → db .u8 (zs.getD i 0)) :
  Calls Tryz.prog 39 #[.int .u16 (V c0), .slice a len cap] w fun e w' => e = .returned (.int .u16 (V (eM c0 zs))) ∧ w = w' := by
 subst hl
 have HI := Lib.hid hi
 have HZ := Lib.hid hz
 clear hi hz
 go_enter Tryz.func39, Tryz.ntmps39
 go_wp2
 go_loop [0, 5] (fun c i => ∃ k : Nat, k ≤ zs.length ∧ i = .int .i64 k ∧ c = .int .u16 (V (eM c0 (zs.take k)))) (fun _ i => zs.length - (intOf i).toNat)
 case atStart => exact ⟨0, Nat.zero_le _, rfl, rfl⟩
 case round =>
  obtain ⟨k, hk, rfl, rfl⟩ := hrel
  by_cases hlt : k < zs.length
  ·obtain ⟨b, off, rfl, hbs, hc⟩ := HI.out.cell (by omega)
   have hcell := hc k hlt
   have hx : 0 ≤ zs.getD k 0 ∧ zs.getD k 0 ≤ 255 := HZ.out k hlt
   have hg : zs.getD k 0 = zs[k] := by simp [List.getD, hlt]
   rw [hg] at hx
   simp only [hg] at hcell
   have hs : Hid (eM c0 (zs.take (k + 1)) = kw (eM c0 (zs.take k)) zs[k]) := m6 hlt c0
   clear hc hg
   go_wp2
   generalize zs[k] = x at *
   generalize eM c0 (zs.take k) = c at *
   go_loop [0, 6] (fun v i => ∃ j : Nat, j ≤ 8 ∧ i = .int .i64 (7 - (j : Int)) ∧ v = .int .u16 (V (dQ c x j))) (fun _ i => (intOf i + 1).toNat)
   case atStart => exact ⟨0, by omega, rfl, by rw [vS]⟩
   case round =>
    obtain ⟨j, hj, rfl, rfl⟩ := hrel
    by_cases hj8 : j < 8
    ·have h7 : 0 ≤ 7 - (j : Int) := by omega
     have h7' : 7 - (j : Int) < 8 := by omega
     have q3 := rB (dQ c x j)
     have q4 := rK (dQ c x j <<< 1)
     have q5 := sU (dQ c x j) hx hj8
     have q6 : Hid (dQ c x (j + 1) = if (dQ c x j).msb != (kl x <<< j).msb then (dQ c x j <<< 1) ^^^ 4129#16 else dQ c x j <<< 1) := ac0 c x j
     cases hm : ((dQ c x j).msb != (kl x <<< j).msb)
     ·rw [hm] at q5
      have hfin : Hid (dQ c x (j + 1) = dQ c x j <<< 1) := by show _ = _; rw [q6.out, hm]; rfl
      clear hm q6
      go_wp2
      go_round
      case rel => exact ⟨j + 1, by omega, by congr 1; omega, by rw [hfin.out]⟩
      case measure => simp [intOf]; omega
     ·rw [hm] at q5
      have hfin : Hid (dQ c x (j + 1) = (dQ c x j <<< 1) ^^^ 4129#16) := by show _ = _; rw [q6.out, hm]; rfl
      clear hm q6
      go_wp2
      go_round
      case rel => exact ⟨j + 1, by omega, by congr 1; omega, by rw [hfin.out]⟩
      case measure => simp [intOf]; omega
    ·obtain rfl : j = 8 := by omega
     have h8 := vU c x
     go_wp2
     go_round
     case rel => exact ⟨k + 1, by omega, by go_num, by rw [hs.out, h8]⟩
     case measure => simp [intOf]; omega
  ·go_wp2
   go_ret
   exact ⟨pE (by rw [List.take_of_length_le (by omega)]), rfl⟩
end
end Go.Proofs.YtodgfjgljcinlaaGreat
