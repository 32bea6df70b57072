/- Plain laws of plans: where phases stand, rows, rounds. No function of the program. -/
import Derived.Test.YtbnbakienajhmaaTabB
namespace Go.Proofs.Ytbnbakienajhmaa
set_option linter.unusedVariables false

def rowZ (gr : List (List Int × List Int)) (g k : Int) : List Int := if 0 ≤ g ∧ g < gr.length ∧ 0 ≤ k ∧ k ≤ 1 then rowOf gr g.toNat k.toNat else []
/-- The least place below n, above a, where a phase of a set stands; -1. -/
def nextN (r : List Int) (want a : Int) : Nat → Int
  | 0 => -1
  | n + 1 => if nextN r want a n = -1 ∧ a < n ∧ hasM want (r.getD n 0) = true then n else nextN r want a n
def nextZ (r : List Int) (want a : Int) : Int := nextN r want a r.length
theorem nextN_none {r : List Int} {want a : Int} : ∀ {n : Nat}, nextN r want a n = -1 → ∀ j : Nat, j < n → a < j → hasM want (r.getD j 0) = false
  | 0, _, _, h, _ => absurd h (Nat.not_lt_zero _)
  | n + 1, h, j, hj, ha => by
    unfold nextN at h
    split at h
    · omega
    · rename_i hc
      rcases Nat.lt_succ_iff_lt_or_eq.1 hj with h2 | rfl
      · exact nextN_none h j h2 ha
      · cases hh : hasM want (r.getD j 0)
        · rfl
        · exact absurd ⟨h, ha, hh⟩ hc
theorem nextN_of {r : List Int} {want a : Int} : ∀ {n : Nat}, (∀ j : Nat, j < n → a < j → hasM want (r.getD j 0) = false) → nextN r want a n = -1
  | 0, _ => rfl
  | n + 1, h => by
    unfold nextN
    have h1 := nextN_of (n := n) (fun j hj => h j (by omega))
    rw [if_neg, h1]
    rintro ⟨_, h2, h3⟩
    rw [h n (by omega) h2] at h3; cases h3
theorem nextN_keep {r : List Int} {want a : Int} {n : Nat} (h : nextN r want a n ≠ -1) : ∀ m, nextN r want a (n + m) = nextN r want a n
  | 0 => rfl
  | m + 1 => by
    have ih := nextN_keep h m
    rw [← Nat.add_assoc]
    show (if _ then _ else _) = _
    rw [if_neg (fun hc => h (by rw [← ih]; exact hc.1)), ih]
theorem nextZ_at {r : List Int} {want a : Int} {i : Nat} (hi : i < r.length) (h0 : ∀ j : Nat, j < i → a < j → hasM want (r.getD j 0) = false) (h1 : hasM want (r.getD i 0) = true) (ha : a < i) : nextZ r want a = i := by
  unfold nextZ
  have e1 : nextN r want a (i + 1) = i := by
    unfold nextN; rw [if_pos ⟨nextN_of h0, ha, h1⟩]
  rw [show r.length = (i + 1) + (r.length - (i + 1)) by omega, nextN_keep (by rw [e1]; omega), e1]
theorem nextZ_none {r : List Int} {want a : Int} (h0 : ∀ j : Nat, j < r.length → a < j → hasM want (r.getD j 0) = false) : nextZ r want a = -1 := nextN_of h0

/-! ### Groups -/
def memZ (gr : List (List Int × List Int)) (g : Int) : Int := bits .or .i64 (ofM (rowZ gr g 0)) (ofM (rowZ gr g 1))
def wanZ (gr : List (List Int × List Int)) (want : Int) (g : Int) : Bool := bits .and .i64 (memZ gr g) want != 0
/-- The first of k groups behind g, round, that is wanted. -/
def folN (f : Int → Bool) (n g : Int) : Nat → Int
  | 0 => -1
  | k + 1 => if folN f n g k = -1 ∧ f ((g + 1 + k) % n) = true then (g + 1 + k) % n else folN f n g k
def grpZ (n g : Int) : Int := if g < 0 ∨ n ≤ g then n - 1 else g
def folZ (f : Int → Bool) (n g : Int) : Int := folN f n (grpZ n g) n.toNat
theorem folN_keep {f : Int → Bool} {n g : Int} {k : Nat} (h : folN f n g k ≠ -1) : ∀ m, folN f n g (k + m) = folN f n g k
  | 0 => rfl
  | m + 1 => by
    have ih := folN_keep h m
    rw [← Nat.add_assoc]
    show (if _ then _ else _) = _
    rw [if_neg (fun hc => h (by rw [← ih]; exact hc.1)), ih]
def withN (f : Int → Bool) (n : Nat) : List Int := ((List.range n).filter fun g : Nat => f (g : Int)).map fun g : Nat => (g : Int)
theorem withN_succ (f : Int → Bool) (n : Nat) : withN f (n + 1) = withN f n ++ if f (n : Int) then [(n : Int)] else [] := by
  unfold withN
  rw [List.range_succ, List.filter_append, List.map_append]
  congr 1
  cases h : f (n : Int) <;> simp [List.filter, h]
theorem withN_len (f : Int → Bool) (n : Nat) : (withN f n).length ≤ n := by
  unfold withN; rw [List.length_map]; exact Nat.le_trans (List.length_filter_le _ _) (by rw [List.length_range]; exact Nat.le_refl _)
/-- How many of them are at most g. -/
def uptoN (l : List Int) (g : Int) : Nat → Nat
  | 0 => 0
  | k + 1 => uptoN l g k
end Go.Proofs.Ytbnbakienajhmaa
