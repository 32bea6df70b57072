/- Comparisons of floats, under names that the walk leaves closed. -/
import Derived.Test.YteohpfelgaffoaaOpen
namespace Go.Proofs.Yteohpfelgaffoaa
open Go.RowKit
set_option linter.unusedVariables false

def flt (x y : Nat) : Bool := FloatKind.f64.format.order x y == some .lt
def fgt (x y : Nat) : Bool := FloatKind.f64.format.order x y == some .gt
def feq (x y : Nat) : Bool := FloatKind.f64.format.order x y == some .eq
def fle (x y : Nat) : Bool := flt x y || feq x y
def fge (x y : Nat) : Bool := fgt x y || feq x y
theorem flt_fold (x y : Nat) : (FloatKind.f64.format.order x y == some .lt) = flt x y := rfl
theorem fgt_fold (x y : Nat) : (FloatKind.f64.format.order x y == some .gt) = fgt x y := rfl
theorem feq_fold (x y : Nat) : (FloatKind.f64.format.order x y == some .eq) = feq x y := rfl
theorem fle_fold (x y : Nat) : (flt x y || feq x y) = fle x y := rfl
theorem fge_fold (x y : Nat) : (fgt x y || feq x y) = fge x y := rfl
attribute [go_sem] flt_fold fgt_fold feq_fold fle_fold fge_fold

/-! ### The numbers behind the words -/
def bigE : Nat := 3000
def BIG : Nat := 2 ^ bigE
theorem big_pos : 0 < BIG := Nat.two_pow_pos _
def dkey : Ieee.Datum → Int
  | .number s m i => Ieee.signed s m (i + 1074).toNat
  | .infinity s => if s then -(BIG : Int) else BIG
  | .nan .. => 0
def DGood : Ieee.Datum → Prop
  | .number _ m i => -1074 ≤ i ∧ m * 2 ^ (i + 1074).toNat < BIG
  | _ => True
theorem signed_add (s : Bool) (m a p : Nat) : Ieee.signed s m (a + p) = Ieee.signed s m a * 2 ^ p := by
  unfold Ieee.signed
  cases s <;> simp [Nat.shiftLeft_eq, Nat.pow_add, Int.mul_assoc, Int.natCast_mul, Int.neg_mul]
theorem compare_mul (u v : Int) (p : Nat) : compare (u * 2 ^ p) (v * 2 ^ p) = compare u v := by
  have hp : (0 : Int) < 2 ^ p := Int.pow_pos (by decide)
  rcases Int.lt_trichotomy u v with h | h | h
  · rw [Int.compare_eq_lt.2 h, Int.compare_eq_lt.2 (Int.mul_lt_mul_of_pos_right h hp)]
  · subst h; simp
  · rw [Int.compare_eq_gt.2 h, Int.compare_eq_gt.2 (Int.mul_lt_mul_of_pos_right h hp)]
theorem signed_lt {s : Bool} {m a : Nat} (h : m * 2 ^ a < BIG) : -(BIG : Int) < Ieee.signed s m a ∧ Ieee.signed s m a < BIG := by
  unfold Ieee.signed
  cases s <;> simp only [Nat.shiftLeft_eq, Bool.false_eq_true, if_false, if_true] <;> omega
theorem order_good {a b : Ieee.Datum} (ha : DGood a) (hb : DGood b) : a.order b = if a.isNaN || b.isNaN then none else some (compare (dkey a) (dkey b)) := by
  cases a with
  | nan s t => cases b <;> simp [Ieee.Datum.order, Ieee.Datum.isNaN]
  | infinity s =>
    cases b with
    | nan t u => simp [Ieee.Datum.order, Ieee.Datum.isNaN]
    | infinity t =>
      have hq := big_pos
      cases s <;> cases t <;> simp [Ieee.Datum.order, Ieee.Datum.isNaN, dkey]
      · exact (Int.compare_eq_gt.2 (by omega)).symm
      · exact (Int.compare_eq_lt.2 (by omega)).symm
    | number t n j =>
      have hl := signed_lt (s := t) hb.2
      cases s <;> simp [Ieee.Datum.order, Ieee.Datum.isNaN, dkey]
      · exact (Int.compare_eq_gt.2 (by omega)).symm
      · exact (Int.compare_eq_lt.2 (by omega)).symm
  | number s m i =>
    cases b with
    | nan t u => simp [Ieee.Datum.order, Ieee.Datum.isNaN]
    | infinity t =>
      have hl := signed_lt (s := s) ha.2
      cases t <;> simp [Ieee.Datum.order, Ieee.Datum.isNaN, dkey]
      · exact (Int.compare_eq_lt.2 (by omega)).symm
      · exact (Int.compare_eq_gt.2 (by omega)).symm
    | number t n j =>
      have hi := ha.1
      have hj := hb.1
      simp only [Ieee.Datum.order, Ieee.Datum.isNaN, dkey, Bool.or_self, Bool.false_eq_true, if_false]
      have e1 : (i + 1074).toNat = (i - min i j).toNat + (min i j + 1074).toNat := by omega
      have e2 : (j + 1074).toNat = (j - min i j).toNat + (min i j + 1074).toNat := by omega
      rw [e1, e2, signed_add, signed_add, compare_mul]
theorem read_good (x : Nat) : DGood (FloatKind.f64.format.read x) := by
  show DGood (Ieee.double.read x)
  unfold Ieee.Format.read
  have hb : Ieee.double.binade = 2 ^ 52 := rfl
  have hp : Ieee.double.leastPlace = -1074 := by decide
  have hr : Ieee.double.infRung = 2047 * 2 ^ 52 := by decide
  simp only [hb, hp, hr]
  generalize x % Ieee.double.signWeight = r
  split
  · rename_i h
    refine ⟨by omega, ?_⟩
    have : (-1074 + 1074 : Int).toNat = 0 := by decide
    rw [this, Nat.pow_zero, Nat.mul_one]
    exact Nat.lt_trans h (Nat.pow_lt_pow_right (by decide) (show 52 < bigE by decide))
  · split
    · rename_i h1 h2
      refine ⟨by omega, ?_⟩
      have hm : 2 ^ 52 + r % 2 ^ 52 < 2 ^ 53 := by have := Nat.mod_lt r (show 2 ^ 52 > 0 by decide); omega
      have key : ∀ e m : Nat, e + 53 < bigE → m < 2 ^ 53 → m * 2 ^ e < BIG := fun e m he hm => by
        have h4 := Nat.mul_le_mul_right (2 ^ e) (Nat.le_of_lt hm)
        rw [← Nat.pow_add] at h4
        exact Nat.lt_of_le_of_lt h4 (Nat.pow_lt_pow_right (by decide) (by omega))
      refine key _ _ ?_ hm
      have : r / 2 ^ 52 < 2047 := Nat.div_lt_of_lt_mul (by omega)
      unfold bigE
      omega
    · split <;> trivial
def fkey (x : Nat) : Int := dkey (FloatKind.f64.format.read x)
def fnan (x : Nat) : Bool := (FloatKind.f64.format.read x).isNaN
theorem order_key (x y : Nat) : FloatKind.f64.format.order x y = if fnan x || fnan y then none else some (compare (fkey x) (fkey y)) := order_good (read_good x) (read_good y)
theorem flt_key (x y : Nat) : flt x y = (!fnan x && !fnan y && decide (fkey x < fkey y)) := by
  unfold flt; rw [order_key]
  cases fnan x <;> cases fnan y <;> simp
  rcases Int.lt_trichotomy (fkey x) (fkey y) with h | h | h
  · rw [Int.compare_eq_lt.2 h]; simp [h]
  · rw [h]; simp
  · rw [Int.compare_eq_gt.2 h]; simp; omega
theorem fgt_key (x y : Nat) : fgt x y = (!fnan x && !fnan y && decide (fkey y < fkey x)) := by
  unfold fgt; rw [order_key]
  cases fnan x <;> cases fnan y <;> simp
  rcases Int.lt_trichotomy (fkey x) (fkey y) with h | h | h
  · rw [Int.compare_eq_lt.2 h]; simp; omega
  · rw [h]; simp
  · rw [Int.compare_eq_gt.2 h]; simp [h]
theorem feq_key (x y : Nat) : feq x y = (!fnan x && !fnan y && decide (fkey x = fkey y)) := by
  unfold feq; rw [order_key]
  cases fnan x <;> cases fnan y <;> simp
  rcases Int.lt_trichotomy (fkey x) (fkey y) with h | h | h
  · rw [Int.compare_eq_lt.2 h]; simp; omega
  · rw [h]; simp
  · rw [Int.compare_eq_gt.2 h]; simp; omega
theorem fle_key (x y : Nat) : fle x y = (!fnan x && !fnan y && decide (fkey x ≤ fkey y)) := by
  unfold fle; rw [flt_key, feq_key]
  cases fnan x <;> cases fnan y <;> simp
  rw [Bool.eq_iff_iff]; simp; omega
theorem fge_key (x y : Nat) : fge x y = (!fnan x && !fnan y && decide (fkey y ≤ fkey x)) := by
  unfold fge; rw [fgt_key, feq_key]
  cases fnan x <;> cases fnan y <;> simp
  rw [Bool.eq_iff_iff]; simp; omega
end Go.Proofs.Yteohpfelgaffoaa
