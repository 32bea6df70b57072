/- Plain laws of sets of phases: numbers by their eight bits. No program is in sight. -/
import Derived.Test.YtbnbakienajhmaaBits
namespace Go.Proofs.Ytbnbakienajhmaa
set_option linter.unusedVariables false

/-- The bit of a number of 64 bits. -/
def bitM (s : Int) (i : Nat) : Bool := ((s % 18446744073709551616).toNat).testBit i
def packN (f : Nat → Bool) : Nat :=
  (f 0).toNat + 2 * (f 1).toNat + 4 * (f 2).toNat + 8 * (f 3).toNat + 16 * (f 4).toNat + 32 * (f 5).toNat + 64 * (f 6).toNat + 128 * (f 7).toNat
def packM (f : Nat → Bool) : Int := (packN f : Int)
theorem packN_lt (f : Nat → Bool) : packN f < 256 := by
  have h : ∀ b : Bool, b.toNat ≤ 1 := by decide
  have := h (f 0); have := h (f 1); have := h (f 2); have := h (f 3); have := h (f 4); have := h (f 5); have := h (f 6); have := h (f 7)
  unfold packN; omega
theorem packM_bd (f : Nat → Bool) : 0 ≤ packM f ∧ packM f ≤ 255 := by have := packN_lt f; unfold packM; omega
theorem packN_congr {f g : Nat → Bool} (h : ∀ i, i < 8 → f i = g i) : packN f = packN g := by
  unfold packN
  rw [h 0 (by omega), h 1 (by omega), h 2 (by omega), h 3 (by omega), h 4 (by omega), h 5 (by omega), h 6 (by omega), h 7 (by omega)]
theorem packM_congr {f g : Nat → Bool} (h : ∀ i, i < 8 → f i = g i) : packM f = packM g := by unfold packM; rw [packN_congr h]
theorem pack_test : ∀ b0 b1 b2 b3 b4 b5 b6 b7 : Bool, ∀ i : Fin 8,
    (b0.toNat + 2 * b1.toNat + 4 * b2.toNat + 8 * b3.toNat + 16 * b4.toNat + 32 * b5.toNat + 64 * b6.toNat + 128 * b7.toNat).testBit i.1 =
      (match i with | 0 => b0 | 1 => b1 | 2 => b2 | 3 => b3 | 4 => b4 | 5 => b5 | 6 => b6 | 7 => b7) := by decide +kernel
theorem packN_test (f : Nat → Bool) (i : Nat) : (packN f).testBit i = (decide (i < 8) && f i) := by
  by_cases hi : i < 8
  · have := pack_test (f 0) (f 1) (f 2) (f 3) (f 4) (f 5) (f 6) (f 7) ⟨i, hi⟩
    unfold packN
    rw [this]
    match i, hi with
    | 0, _ => rfl
    | 1, _ => rfl
    | 2, _ => rfl
    | 3, _ => rfl
    | 4, _ => rfl
    | 5, _ => rfl
    | 6, _ => rfl
    | 7, _ => rfl
  · have h1 := packN_lt f
    have h2 : packN f < 2 ^ i := Nat.lt_of_lt_of_le h1 (show 2 ^ 8 ≤ 2 ^ i from Nat.pow_le_pow_right (by decide) (by omega))
    rw [Nat.testBit_lt_two_pow h2]; simp [hi]
theorem bitM_pack (f : Nat → Bool) {i : Nat} (hi : i < 8) : bitM (packM f) i = f i := by
  have := packN_lt f
  have e : (packM f % 18446744073709551616).toNat = packN f := by unfold packM; omega
  unfold bitM; rw [e, packN_test]; simp [hi]
theorem bitM_eq (s : Int) (i : Nat) : bitM s i = decide ((s % 18446744073709551616).toNat / 2 ^ i % 2 = 1) := Nat.testBit_eq_decide_div_mod_eq
theorem bitM_div {s : Int} {i : Nat} (hi : i < 8) : bitM s i = decide (s / 2 ^ i % 2 = 1) := by
  rw [bitM_eq, decide_eq_decide]
  match i, hi with
  | 0, _ => simp only [Nat.pow_zero, Int.pow_zero]; omega
  | 1, _ => simp only [show (2:Nat)^1 = 2 from rfl, show (2:Int)^1 = 2 from rfl]; omega
  | 2, _ => simp only [show (2:Nat)^2 = 4 from rfl, show (2:Int)^2 = 4 from rfl]; omega
  | 3, _ => simp only [show (2:Nat)^3 = 8 from rfl, show (2:Int)^3 = 8 from rfl]; omega
  | 4, _ => simp only [show (2:Nat)^4 = 16 from rfl, show (2:Int)^4 = 16 from rfl]; omega
  | 5, _ => simp only [show (2:Nat)^5 = 32 from rfl, show (2:Int)^5 = 32 from rfl]; omega
  | 6, _ => simp only [show (2:Nat)^6 = 64 from rfl, show (2:Int)^6 = 64 from rfl]; omega
  | 7, _ => simp only [show (2:Nat)^7 = 128 from rfl, show (2:Int)^7 = 128 from rfl]; omega
theorem nat_pack (n : Nat) : packN (fun i => n.testBit i) = n % 256 := by
  apply Nat.eq_of_testBit_eq
  intro i
  rw [packN_test, show 256 = 2 ^ 8 from rfl, Nat.testBit_mod_two_pow]
theorem mod_pack (s : Int) : s % 256 = packM (bitM s) := by
  unfold packM bitM
  rw [nat_pack]
  omega
theorem and255 (s : Int) : bits .and .i64 s 255 = packM (bitM s) := by
  rw [← mod_pack]; exact and_mask s 8 (by decide)
theorem pack_pack (f : Nat → Bool) : packM (bitM (packM f)) = packM f := packM_congr fun i hi => bitM_pack f hi
theorem pack_of {s : Int} (h : 0 ≤ s ∧ s ≤ 255) : packM (bitM s) = s := by rw [← mod_pack]; omega
theorem pack_ext {a b : Int} (ha : 0 ≤ a ∧ a ≤ 255) (hb : 0 ≤ b ∧ b ≤ 255) (h : ∀ i, i < 8 → bitM a i = bitM b i) : a = b := by
  rw [← pack_of ha, ← pack_of hb]; exact packM_congr h
theorem wrap_small {n : Nat} (h : n < 256) : IntKind.i64.wrap (n : Int) = n := IntWalk.i64_in _ (by omega)
theorem toNat_small {n : Nat} (h : n < 256) : ((n : Int) % 18446744073709551616).toNat = n := by omega
theorem or_pack (f g : Nat → Bool) : bits .or .i64 (packM f) (packM g) = packM (fun i => f i || g i) := by
  rw [bits_or]; unfold packM
  rw [toNat_small (packN_lt f), toNat_small (packN_lt g)]
  have e : packN f ||| packN g = packN (fun i => f i || g i) := Nat.eq_of_testBit_eq fun i => by
    rw [Nat.testBit_or, packN_test, packN_test, packN_test]; cases decide (i < 8) <;> simp
  rw [e, wrap_small (packN_lt _)]
theorem and_pack (f g : Nat → Bool) : bits .and .i64 (packM f) (packM g) = packM (fun i => f i && g i) := by
  rw [bits_and]; unfold packM
  rw [toNat_small (packN_lt f), toNat_small (packN_lt g)]
  have e : packN f &&& packN g = packN (fun i => f i && g i) := Nat.eq_of_testBit_eq fun i => by
    rw [Nat.testBit_and, packN_test, packN_test, packN_test]; cases decide (i < 8) <;> simp
  rw [e, wrap_small (packN_lt _)]
/-- A number's bits, all 64 of them, against a set. -/
theorem and_bits (s : Int) (g : Nat → Bool) : bits .and .i64 s (packM g) = packM (fun i => bitM s i && g i) := by
  rw [bits_and]
  have e1 : (packM g % 18446744073709551616).toNat = packN g := toNat_small (packN_lt g)
  rw [e1]
  have e : (s % 18446744073709551616).toNat &&& packN g = packN (fun i => bitM s i && g i) := Nat.eq_of_testBit_eq fun i => by
    rw [Nat.testBit_and, packN_test, packN_test]; unfold bitM; cases decide (i < 8) <;> simp
  rw [e, wrap_small (packN_lt _)]; rfl
theorem pack_zero {f : Nat → Bool} : packM f = 0 ↔ ∀ i, i < 8 → f i = false := by
  constructor
  · intro h i hi
    have := bitM_pack f hi
    rw [h] at this
    rw [← this]; unfold bitM; simp
  · intro h
    rw [packM_congr (g := fun _ => false) h]; rfl
/-- One phase's bit. -/
def oneM (p : Int) : Nat → Bool := fun i => decide (p = (i : Int))
theorem pow_pack {i : Nat} (hi : i < 8) : (2 ^ i : Int) = packM (oneM i) := by
  match i, hi with
  | 0, _ => decide
  | 1, _ => decide
  | 2, _ => decide
  | 3, _ => decide
  | 4, _ => decide
  | 5, _ => decide
  | 6, _ => decide
  | 7, _ => decide
/-- What the sets' functions give. -/
def hasM (s p : Int) : Bool := decide (0 ≤ p ∧ p < 8) && bitM s p.toNat
def withM (s p : Int) : Int := packM fun i => bitM s i || oneM p i
def withoutM (s p : Int) : Int := packM fun i => bitM s i && !oneM p i
def ofM (l : List Int) : Int := packM fun i => l.contains (i : Int)
def setL (s : Int) (k : Nat) : List Int := ((List.range k).filter (bitM s)).map Int.ofNat
theorem setL_succ (s : Int) (k : Nat) : setL s (k + 1) = setL s k ++ if bitM s k then [(k : Int)] else [] := by
  unfold setL
  rw [List.range_succ, List.filter_append, List.map_append]
  congr 1
  cases h : bitM s k <;> simp [List.filter, h]
abbrev listM (s : Int) : List Int := setL s 8
theorem setL_length (s : Int) (k : Nat) : (setL s k).length ≤ k := by
  unfold setL; rw [List.length_map]; exact Nat.le_trans (List.length_filter_le _ _) (by rw [List.length_range]; exact Nat.le_refl _)
theorem mem_setL {s : Int} {k : Nat} {p : Int} : p ∈ setL s k ↔ 0 ≤ p ∧ p < k ∧ bitM s p.toNat = true := by
  unfold setL
  simp only [List.mem_map, List.mem_filter, List.mem_range]
  constructor
  · rintro ⟨i, ⟨hi, hb⟩, rfl⟩; exact ⟨by simp, by simpa using hi, by simpa using hb⟩
  · rintro ⟨h1, h2, h3⟩; exact ⟨p.toNat, ⟨by omega, h3⟩, by simp; omega⟩
theorem mem_listM {s p : Int} : p ∈ listM s ↔ hasM s p = true := by
  unfold hasM
  rw [mem_setL]; simp [and_assoc]
theorem of_list_with (s p : Int) : ofM (listM s ++ [p]) = withM s p := packM_congr fun i hi => by
  rw [Bool.eq_iff_iff]
  simp only [List.contains_iff_mem, List.mem_append, mem_listM, List.mem_singleton, Bool.or_eq_true]
  have h8 : (i : Int) < 8 := by omega
  unfold hasM oneM
  have h0 : (0 : Int) ≤ i := by omega
  simp only [h8, h0, and_self, decide_true, Bool.true_and, Int.toNat_natCast, decide_eq_true_eq]
  exact or_congr Iff.rfl ⟨Eq.symm, Eq.symm⟩
theorem hasM_pack (f : Nat → Bool) (p : Int) : hasM (packM f) p = (decide (0 ≤ p ∧ p < 8) && f p.toNat) := by
  unfold hasM
  by_cases h : 0 ≤ p ∧ p < 8
  · rw [bitM_pack f (by omega)]
  · simp [h]
theorem hasM_nat (s : Int) {i : Nat} (hi : i < 8) : hasM s i = bitM s i := by
  have h8 : (i : Int) < 8 := by omega
  unfold hasM; simp [h8]
end Go.Proofs.Ytbnbakienajhmaa
