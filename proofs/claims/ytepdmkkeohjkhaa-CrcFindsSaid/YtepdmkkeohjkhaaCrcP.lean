/- Plain laws of the checksum over 16-bit words: no program is in sight. -/
import Derived.Test.YtepdmkkeohjkhaaOpen
namespace Go.Proofs.Ytepdmkkeohjkhaa
open Go.RowKit
set_option linter.unusedVariables false

abbrev W16 := BitVec 16
/-- One bit further. -/
def stp (c : W16) : W16 := if c.msb then (c <<< 1) ^^^ 4129#16 else c <<< 1
def stps : Nat → W16 → W16
  | 0, c => c
  | n + 1, c => stps n (stp c)
theorem stps_succ (n : Nat) (c : W16) : stps (n + 1) c = stp (stps n c) := by
  induction n generalizing c with
  | zero => rfl
  | succ n ih => show stps (n + 1) (stp c) = _; rw [ih]; rfl
theorem xor_shl (a b : W16) : (a ^^^ b) <<< 1 = (a <<< 1) ^^^ (b <<< 1) := BitVec.shiftLeft_xor_distrib a b 1
theorem stp_xor (a b : W16) : stp (a ^^^ b) = stp a ^^^ stp b := by
  unfold stp
  rw [BitVec.msb_xor, xor_shl]
  generalize a <<< 1 = x
  generalize b <<< 1 = y
  generalize (4129#16 : W16) = p
  cases a.msb <;> cases b.msb <;> simp
  · rw [BitVec.xor_assoc]
  · rw [BitVec.xor_assoc, BitVec.xor_comm y p, ← BitVec.xor_assoc]
  · rw [show x ^^^ p ^^^ (y ^^^ p) = (x ^^^ y) ^^^ (p ^^^ p) by
      rw [BitVec.xor_assoc, BitVec.xor_assoc, ← BitVec.xor_assoc p y p, BitVec.xor_comm p y, BitVec.xor_assoc y p p]]
    simp
theorem stps_xor (n : Nat) (a b : W16) : stps n (a ^^^ b) = stps n a ^^^ stps n b := by
  induction n generalizing a b with
  | zero => rfl
  | succ n ih => show stps n (stp (a ^^^ b)) = _; rw [stp_xor, ih]; rfl
theorem stp_small {c : W16} (h : c.toNat < 32768) : stp c = c <<< 1 := by
  have : c.msb = false := by rw [BitVec.msb_eq_decide]; simp; omega
  unfold stp; rw [this]; simp
theorem stps4_small {c : W16} (h : c.toNat < 4096) : stps 4 c = c <<< 4 := by
  have s : ∀ {d : W16} {m : Nat}, d.toNat < m → m ≤ 16384 → stp d = d <<< 1 ∧ (d <<< 1).toNat < 2 * m := fun {d m} hd hm => by
    refine ⟨stp_small (by omega), ?_⟩
    rw [BitVec.toNat_shiftLeft, Nat.shiftLeft_eq]
    have := Nat.mod_le (d.toNat * 2 ^ 1) (2 ^ 16)
    omega
  obtain ⟨a1, b1⟩ := s h (by omega)
  obtain ⟨a2, b2⟩ := s b1 (by omega)
  obtain ⟨a3, b3⟩ := s b2 (by omega)
  obtain ⟨a4, b4⟩ : stp (((c <<< 1) <<< 1) <<< 1) = (((c <<< 1) <<< 1) <<< 1) <<< 1 ∧ True := ⟨stp_small (by omega), trivial⟩
  show stp (stp (stp (stp c))) = _
  rw [a1, a2, a3, a4, ← BitVec.shiftLeft_add, ← BitVec.shiftLeft_add, ← BitVec.shiftLeft_add]
theorem low12 : ∀ i : Fin 16, (4095#16 : W16)[i.1] = decide (i.1 < 12) := by decide
/-- The table's rows. -/
def tabT (n : Nat) : W16 := stps 4 (BitVec.ofNat 16 n <<< 12)
def nib (c : W16) : W16 := (c <<< 4) ^^^ tabT (c >>> 12).toNat
theorem nib_eq (c : W16) : nib c = stps 4 c := by
  have hc : c = (BitVec.ofNat 16 (c >>> 12).toNat <<< 12) ^^^ (c &&& 4095#16) := by
    ext i hi
    simp only [BitVec.ofNat_toNat, BitVec.setWidth_eq, BitVec.getElem_xor, BitVec.getElem_shiftLeft, BitVec.getElem_and]
    have : (4095#16 : W16)[i] = decide (i < 12) := by
      exact low12 ⟨i, hi⟩
    rw [this]
    by_cases h : i < 12
    · simp [h]
    · simp [h]; rw [show 12 + (i - 12) = i by omega]; exact (BitVec.getLsbD_eq_getElem hi).symm
  have hlo : (c &&& 4095#16).toNat < 4096 := by
    rw [BitVec.toNat_and]
    exact Nat.lt_of_le_of_lt Nat.and_le_right (by decide)
  have hsh : c <<< 4 = (c &&& 4095#16) <<< 4 := by
    ext i hi
    simp only [BitVec.getElem_shiftLeft, BitVec.getElem_and]
    by_cases h : i < 4
    · simp [h]
    · simp [h]
      intro _
      have := low12 ⟨i - 4, by omega⟩
      simp only at this
      rw [this]; simp; omega
  have e : stps 4 c = stps 4 (BitVec.ofNat 16 (c >>> 12).toNat <<< 12) ^^^ stps 4 (c &&& 4095#16) := by
    rw [← stps_xor, ← hc]
  rw [e, stps4_small hlo, nib, hsh, BitVec.xor_comm]; rfl
/-- A byte, at the top. -/
def byT (x : Int) : W16 := BitVec.ofNat 16 x.toNat <<< 8
def crcB (c : W16) (x : Int) : W16 := nib (nib (c ^^^ byT x))
theorem stps_add (m n : Nat) (c : W16) : stps (m + n) c = stps n (stps m c) := by
  induction m generalizing c with
  | zero => simp [stps]
  | succ m ih => rw [show m + 1 + n = (m + n) + 1 by omega]; show stps (m + n) (stp c) = _; rw [ih]; rfl
theorem crcB_eq (c : W16) (x : Int) : crcB c x = stps 8 (c ^^^ byT x) := by
  unfold crcB; rw [nib_eq, nib_eq, ← stps_add]
def crcL (c : W16) (l : List Int) : W16 := l.foldl crcB c
theorem crcL_snoc (c : W16) (l : List Int) (x : Int) : crcL c (l ++ [x]) = crcB (crcL c l) x := by simp [crcL]
theorem crcL_append (c : W16) (l m : List Int) : crcL c (l ++ m) = crcL (crcL c l) m := by simp [crcL]
end Go.Proofs.Ytepdmkkeohjkhaa
