/- The table that numbers give, as a plain function of them; the bounds of a table. No function of the program. -/
import Derived.Test.YtbnbakienajhmaaTel
namespace Go.Proofs.Ytbnbakienajhmaa
set_option linter.unusedVariables false

/-- The number at place i, as one from 0 to n - 1. -/
def fr (zs : List Int) (i : Nat) (n : Int) : Int := zs.getD i 0 % n
theorem fr_bd (zs : List Int) (i : Nat) {n : Int} (hn : 1 ≤ n) : 0 ≤ fr zs i n ∧ fr zs i n < n := ⟨Int.emod_nonneg _ (by omega), Int.emod_lt_of_pos _ (by omega)⟩
def phM (zs : List Int) (i : Nat) : Phs :=
  let min := 1 + fr zs i 12
  let max := min + fr zs (i + 5) 25
  let w := fr zs (i + 7) 2 == 1
  let walk := if w then 1 + fr zs (i + 8) 10 else 0
  let r := fr zs (i + 9) 7
  { on := true, min := min, gap := fr zs (i + 1) 9, max := max, top := max + fr zs (i + 6) 15, step := 1 + fr zs (i + 2) 6, yel := 10 + fr zs (i + 3) 4, red := fr zs (i + 4) 5,
    walk := walk, blinks := if w then 1 + (fr zs (i + 8) 97).tdiv 10 else 0,
    recl := if decide (3 < r) || r == 3 && walk == 0 then 0 else r, lock := decide (0 < fr zs (i + 10) 3), rest := fr zs (i + 11) 4 == 1 }
def ph0 : Phs := ⟨false, 0, 0, 0, 0, 0, 0, 0, 0, 0, 0, false, false⟩
/-- A phase that is zero, or by numbers. -/
structure PhOk (p : Phs) : Prop where
  on : p.on = true
  min : 1 ≤ p.min ∧ p.min ≤ 12
  gap : 0 ≤ p.gap ∧ p.gap ≤ 8
  max : p.min ≤ p.max ∧ p.max ≤ p.min + 24
  top : p.max ≤ p.top ∧ p.top ≤ p.max + 14
  step : 1 ≤ p.step ∧ p.step ≤ 6
  yel : 10 ≤ p.yel ∧ p.yel ≤ 13
  red : 0 ≤ p.red ∧ p.red ≤ 4
  foot : (p.walk = 0 ∧ p.blinks = 0) ∨ (1 ≤ p.walk ∧ p.walk ≤ 10 ∧ 1 ≤ p.blinks ∧ p.blinks ≤ 10)
  recl : 0 ≤ p.recl ∧ p.recl ≤ 3 ∧ (p.recl = 3 → 1 ≤ p.walk)
theorem phM_ok (zs : List Int) (i : Nat) : PhOk (phM zs i) := by
  have h0 := fr_bd zs i (n := 12) (by omega)
  have h1 := fr_bd zs (i + 1) (n := 9) (by omega)
  have h2 := fr_bd zs (i + 2) (n := 6) (by omega)
  have h3 := fr_bd zs (i + 3) (n := 4) (by omega)
  have h4 := fr_bd zs (i + 4) (n := 5) (by omega)
  have h5 := fr_bd zs (i + 5) (n := 25) (by omega)
  have h6 := fr_bd zs (i + 6) (n := 15) (by omega)
  have h8 := fr_bd zs (i + 8) (n := 10) (by omega)
  have h9 := fr_bd zs (i + 8) (n := 97) (by omega)
  have h10 := fr_bd zs (i + 9) (n := 7) (by omega)
  have h11 : 0 ≤ (fr zs (i + 8) 97).tdiv 10 ∧ (fr zs (i + 8) 97).tdiv 10 ≤ 9 := by
    rw [Int.tdiv_eq_ediv_of_nonneg h9.1]; omega
  refine ⟨rfl, ?_, ?_, ?_, ?_, ?_, ?_, ?_, ?_, ?_⟩
  · simp only [phM]; omega
  · simp only [phM]; omega
  · simp only [phM]; omega
  · simp only [phM]; omega
  · simp only [phM]; omega
  · simp only [phM]; omega
  · simp only [phM]; omega
  · simp only [phM]; split <;> omega
  · simp only [phM]
    cases hw : (fr zs (i + 7) 2 == 1)
    · simp only [Bool.false_eq_true, if_false]
      split
      · omega
      · rename_i hc; simp at hc; omega
    · simp only [if_true]
      split
      · omega
      · rename_i hc; simp at hc; omega

/-! ### Rows -/
def fillN (n p lim : Nat) : Nat := min n (lim - p)
def fillR (p m : Nat) : List Int := (List.range m).map fun i => ((p + i : Nat) : Int)
def rw0 (zs : List Int) (g : Nat) : Nat := (fr zs (1 + 2 * g) 3).toNat
def rw1 (zs : List Int) (g m0 : Nat) : Nat := if rw0b zs g = 0 ∧ m0 = 0 then 1 else rw0b zs g
where rw0b (zs : List Int) (g : Nat) : Nat := (fr zs (2 + 2 * g) 3).toNat
/-- The first row of group g begins at p; both rows' lengths. -/
def rowsGo (zs : List Int) (k : Nat) : Nat → Nat × List (List Int × List Int)
  | 0 => (0, [])
  | g + 1 =>
    let q := rowsGo zs k g
    let lim := 8 - (k - 1 - g)
    let m0 := fillN (rw0 zs g) q.1 lim
    let m1 := fillN (rw1 zs g m0) (q.1 + m0) lim
    (q.1 + m0 + m1, q.2 ++ [(fillR q.1 m0, fillR (q.1 + m0) m1)])
def groupsN (zs : List Int) : Nat := (1 + fr zs 0 3).toNat
def rowsM (zs : List Int) : Nat × List (List Int × List Int) := rowsGo zs (groupsN zs) (groupsN zs)
theorem groupsN_bd (zs : List Int) : 1 ≤ groupsN zs ∧ groupsN zs ≤ 3 := by have := fr_bd zs 0 (n := 3) (by omega); unfold groupsN; omega
theorem rowsGo_bd (zs : List Int) (k : Nat) (hk : k ≤ 3) : ∀ g, g ≤ k → g ≤ (rowsGo zs k g).1 ∧ (rowsGo zs k g).1 ≤ 8 - (k - g) ∧ (rowsGo zs k g).2.length = g
  | 0, _ => by simp [rowsGo]
  | g + 1, h => by
    obtain ⟨h1, h2, h3⟩ := rowsGo_bd zs k hk g (by omega)
    have h4 := fr_bd zs (1 + 2 * g) (n := 3) (by omega)
    have h5 := fr_bd zs (2 + 2 * g) (n := 3) (by omega)
    simp only [rowsGo, fillN, List.length_append, List.length_cons, List.length_nil]
    generalize hm0 : min (rw0 zs g) (8 - (k - 1 - g) - (rowsGo zs k g).1) = m0
    have hw1 : m0 = 0 → 1 ≤ rw1 zs g m0 := fun h => by unfold rw1; split <;> omega
    refine ⟨?_, ?_, by omega⟩
    · rcases Nat.eq_zero_or_pos m0 with hz | hz
      · have := hw1 hz; omega
      · omega
    · omega
theorem rowsM_bd (zs : List Int) : 1 ≤ (rowsM zs).1 ∧ (rowsM zs).1 ≤ 8 ∧ (rowsM zs).2.length = groupsN zs := by
  obtain ⟨h1, h2⟩ := groupsN_bd zs
  obtain ⟨h3, h4, h5⟩ := rowsGo_bd zs (groupsN zs) h2 (groupsN zs) (Nat.le_refl _)
  unfold rowsM
  omega
end Go.Proofs.Ytbnbakienajhmaa
