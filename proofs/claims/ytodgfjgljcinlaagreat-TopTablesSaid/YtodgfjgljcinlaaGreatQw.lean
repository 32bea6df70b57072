/- Part Qw of the proof: PlU, PlT, AllP, AllQ. -/
import Derived.Test.YtodgfjgljcinlaaGreatQc
import Derived.Test.YtodgfjgljcinlaaGreatQa
import Derived.Test.YtodgfjgljcinlaaGreatQb
namespace Go.Proofs.YtodgfjgljcinlaaGreat
set_option maxHeartbeats 8000000
set_option maxRecDepth 100000
set_option linter.unusedVariables false
section
open Go.RowKit
theorem yT (a m k : Nat) : yj a m ++ yj (a + m) k = yj a (m + k) := by
 unfold yj
 rw [List.range_add, List.map_append, List.map_map]
 congr 1
 refine List.map_congr_left fun i _ => ?_
 show ((a + m + i : Nat) : Int) = ((a + (m + i) : Nat) : Int)
 omega
theorem yO (a m : Nat) : (yj a m).length = m := by simp [yj]
theorem acO {a m i : Nat} (h : i < m) : (yj a m).getD i 0 = ((a + i : Nat) : Int) := by simp [yj, List.getD, h]
theorem aat (a m g k : Nat) (h : a + m ≤ 8) : ∀ n, n ≤ m → (za (yj a m) g k n).map (·.p) = yj a n
 | 0, _ => rfl
 | n + 1, hn => by
  rw [fP, List.map_append, aat a m g k h n (by omega), acO (by omega), ← yT a n 1]
  have : qL ((a + n : Nat) : Int) = true := by unfold qL; simp; omega
  rw [if_pos this]
  simp [yj]
theorem ac3 {l : List (List Int × List Int)} (x : List Int × List Int) {i : Nat} (h : i < l.length) (j : Nat) : ak (l ++ [x]) i j = ak l i j := by
 unfold ak; rw [List.getElem?_append_left h]
theorem ael {l : List (List Int × List Int)} (x : List Int × List Int) {i : Nat} (h : i < l.length) (n : Nat) : gB (l ++ [x]) i n = gB l i n := by
 unfold gB
 have : (fun k => za (ak (l ++ [x]) i k) i k (ak (l ++ [x]) i k).length) = fun k => za (ak l i k) i k (ak l i k).length := funext fun k => by rw [ac3 x h]
 rw [this]
theorem acG {l : List (List Int × List Int)} (x : List Int × List Int) : ∀ n, n ≤ l.length → ja (l ++ [x]) n = ja l n
 | 0, _ => rfl
 | n + 1, h => by rw [fp, fp, acG x n (by omega), ael x (by omega)]
theorem aav (zs : List Int) (k : Nat) (hk : k ≤ 3) : ∀ g, g ≤ k → (ja (yk zs k g).2 g).map (·.p) = yj 0 (yk zs k g).1
 | 0, _ => rfl
 | g + 1, h => by
  have ih := aav zs k hk g (by omega)
  obtain ⟨b1, b2, b3⟩ := yL zs k hk g (by omega)
  obtain ⟨c1, c2, c3⟩ := yL zs k hk (g + 1) h
  simp only [yk] at c1 c2 c3 ⊢
  generalize yk zs k g = q at *
  generalize yr (rw0 zs g) q.1 (8 - (k - 1 - g)) = m0 at *
  generalize yr (rw1 zs g m0) (q.1 + m0) (8 - (k - 1 - g)) = m1 at *
  have e0 : ak (q.2 ++ [(yj q.1 m0, yj (q.1 + m0) m1)]) g 0 = yj q.1 m0 := by unfold ak; rw [List.getElem?_append_right (by omega), b3]; simp
  have e1 : ak (q.2 ++ [(yj q.1 m0, yj (q.1 + m0) m1)]) g 1 = yj (q.1 + m0) m1 := by unfold ak; rw [List.getElem?_append_right (by omega), b3]; simp
  rw [fp, acG _ _ (by omega), List.map_append, ih, gQ, gQ, e0, e1, yO, yO]
  have e2 : gB (q.2 ++ [(yj q.1 m0, yj (q.1 + m0) m1)]) g 0 = [] := rfl
  rw [e2, List.nil_append, List.map_append, aat _ _ _ _ (by omega) _ (Nat.le_refl _), aat _ _ _ _ (by omega) _ (Nat.le_refl _)]
  have := yT 0 q.1 m0
  rw [Nat.zero_add] at this
  rw [← List.append_assoc, this]
  have := yT 0 (q.1 + m0) m1
  rw [Nat.zero_add] at this
  rw [this]
theorem aeo (zs : List Int) : (io (ye zs).gr).map (·.p) = yj 0 (yf zs).1 := by
 have hb := yx zs
 have hg := yD zs
 show (ja (yf zs).2 (yf zs).2.length).map (·.p) = _
 rw [hb.2.2]
 exact aav zs (yo zs) hg.2 (yo zs) (Nat.le_refl _)
theorem aem {gr : List (List Int × List Int)} {g k i : Nat} (hg : g < gr.length) (hk : k < 2) (hi : i < (ak gr g k).length) (hp : qL ((ak gr g k).getD i 0) = true) : (⟨g, k, i, (ak gr g k).getD i 0⟩ : Spot) ∈ io gr := by
 unfold io ja
 refine List.mem_flatMap.2 ⟨g, by simpa using hg, ?_⟩
 unfold gB
 refine List.mem_flatMap.2 ⟨k, by simpa using hk, ?_⟩
 unfold za
 refine List.mem_filterMap.2 ⟨i, by simpa using hi, ?_⟩
 rw [if_pos hp]
theorem yK (s p q : Int) : aT (iI s p) q = (aT s q || (decide (0 ≤ q ∧ q < 8) && decide (p = q))) := by
 unfold iI
 rw [zN]
 unfold aT kq
 by_cases hq : 0 ≤ q ∧ q < 8
 ·have e : ((q.toNat : Nat) : Int) = q := by omega
  simp only [hq, and_self, decide_true, Bool.true_and, e]
 ·simp [hq]
def acI (cf : Nat → Int) : Prop := ∀ a b : Nat, a < 8 → b < 8 → aT (cf a) b = aT (cf b) a
theorem aeM {gr : List (List Int × List Int)} {zs : List Int} {p q : Nat} {cf : Nat → Int} (h : acI cf) (hpq : q < p) (hp : p < 8) : acI (cfS gr zs p q cf) := by
 unfold cfS
 split
 ·intro a b ha hb
  have hq' : (0 : Int) ≤ q ∧ (q : Int) < 8 := by omega
  have hp' : (0 : Int) ≤ p ∧ (p : Int) < 8 := by omega
  have key : ∀ x y : Nat, x < 8 → y < 8 → aT ((dT (dT cf p (iI (cf p) q)) q (iI (dT cf p (iI (cf p) q) q) p)) x) y = (aT (cf x) y || (decide (x = p) && decide (y = q)) || (decide (x = q) && decide (y = p))) := fun x y hx hy => by
   have hy' : (0 : Int) ≤ y ∧ (y : Int) < 8 := by omega
   unfold dT
   by_cases h1 : x = q
   ·subst h1
    have hne : x ≠ p := by omega
    rw [if_pos rfl, if_neg hne, yK]
    simp only [hy', and_self, decide_true, Bool.true_and, hne, decide_false, Bool.false_and, Bool.or_false]
    congr 1
    rw [Bool.eq_iff_iff]; simp only [decide_eq_true_eq]; omega
   ·rw [if_neg h1]
    by_cases h2 : x = p
    ·subst h2
     rw [if_pos rfl, yK]
     simp only [hy', and_self, decide_true, Bool.true_and, h1, decide_false, Bool.false_and, Bool.or_false]
     congr 1
     rw [Bool.eq_iff_iff]; simp only [decide_eq_true_eq]; omega
    ·rw [if_neg h2]
     simp [h1, h2]
  rw [key a b ha hb, key b a hb ha, h a b ha hb, Bool.or_assoc, Bool.or_assoc]
  congr 1
  rw [Bool.or_comm, Bool.and_comm (decide (a = q)), Bool.and_comm (decide (a = p))]
 ·exact h
theorem adV {gr : List (List Int × List Int)} {zs : List Int} {p : Nat} {cf : Nat → Int} (h : acI cf) (hp : p < 8) : ∀ q, q ≤ p → acI (cfQ gr zs p cf q)
 | 0, _ => h
 | q + 1, hq => aeM (adV h hp q (by omega)) (by omega) hp
theorem adU {gr : List (List Int × List Int)} {zs : List Int} : ∀ n, n ≤ 8 → acI (cfP gr zs n)
 | 0, _ => fun _ _ _ _ => by simp [cfP]; unfold aT fm; simp
 | n + 1, h => adV (adU n (by omega)) (by omega) n (Nat.le_refl _)
theorem aeq (zs : List Int) : acI (ye zs).cf := adU (yf zs).1 (yx zs).2.1
theorem zX (f g : Nat → Bool) : bits .andNot .i64 (cj f) (cj g) = cj fun i => f i && !g i := by
 rw [ab0]
 unfold cj
 rw [yF (dN _), yF (dN _)]
 have hp : dA g < 2 ^ 64 := by have := dN g; omega
 have e : dA f &&& (2 ^ 64 - (dA g + 1)) = dA (fun i => f i && !g i) := Nat.eq_of_testBit_eq fun i => by
  rw [Nat.testBit_and, Nat.testBit_two_pow_sub_succ hp, cF, cF, cF]
  by_cases hi : i < 8
  ·have : i < 64 := by omega
   simp [hi, this]
  ·simp [hi]
 rw [e, ki (dN _)]
theorem zZ {e g : Int} (he : 0 ≤ e ∧ e ≤ 255) (hg : 0 ≤ g ∧ g ≤ 255) (h : ∀ q : Nat, q < 8 → aT e q = true → aT g q = true) : bits .andNot .i64 e g = 0 := by
 rw [← yN he, ← yN hg, zX, gm]
 intro i hi
 have := h i hi
 rw [rL _ hi, rL _ hi] at this
 cases hb : fm e i
 ·rfl
 ·rw [this hb]; rfl
theorem acJ {e g : Int} (he : 0 ≤ e ∧ e ≤ 255) (hg : 0 ≤ g ∧ g ≤ 255) (h : ∀ q : Nat, q < 8 → aT e q = true → aT g q = false) : bits .and .i64 e g = 0 := by
 rw [← yN he, ← yN hg, adf, gm]
 intro i hi
 have := h i hi
 rw [rL _ hi, rL _ hi] at this
 cases hb : fm e i
 ·rfl
 ·rw [this hb]; rfl
theorem zl (q : Int) : aT 0 q = false := by unfold aT fm; simp
end
section
open Go.RowKit
def yQ (l : List Int) : Int := l.foldr (· + ·) 0
theorem aap (zs : List Int) (a : Int) : aT (eB (ye zs)) a = (decide (0 ≤ a) && decide (a < (yf zs).1)) := by
 have hb := yx zs
 unfold eB tB
 rw [zN, Bool.eq_iff_iff]
 simp only [Bool.and_eq_true, decide_eq_true_eq, List.contains_iff_mem]
 unfold onL
 simp only [List.mem_map, List.mem_filter, List.mem_range]
 constructor
 ·rintro ⟨⟨h0, h8⟩, i, ⟨hi, hon⟩, he⟩
  refine ⟨h0, ?_⟩
  have : ((ye zs).ph i).on = (ph1 zs (yf zs).1 i).on := rfl
  rw [this] at hon
  unfold ph1 at hon
  split at hon
  ·omega
  ·cases hon
 ·rintro ⟨h0, h1⟩
  refine ⟨⟨h0, by omega⟩, a.toNat, ⟨by omega, ?_⟩, by omega⟩
  show (ph1 zs (yf zs).1 a.toNat).on = true
  unfold ph1
  rw [if_pos (by omega)]; rfl
theorem abN (zs : List Int) : 0 ≤ (ye zs).rev ∧ (ye zs).rev < 8 := yh zs 181 (by omega)
theorem aep (zs : List Int) : 0 ≤ (ye zs).ext ∧ (ye zs).ext < 12 := yh zs 178 (by omega)
theorem abL {α : Type} {f : α → Int} {b : Int} : ∀ (l : List α), (∀ x ∈ l, f x ≤ b) → yQ (l.map f) ≤ l.length * b
 | [], _ => by simp [yQ]
 | x :: l, h => by
  have h1 := h x (List.mem_cons_self ..)
  have h2 := abL l fun y hy => h y (List.mem_cons_of_mem _ hy)
  show f x + yQ (l.map f) ≤ ((l.length + 1 : Nat) : Int) * b
  rw [Int.natCast_add, Int.add_mul]
  simp only [Int.natCast_one, Int.one_mul]
  omega
theorem acu (zs : List Int) : (io (ye zs).gr).length ≤ 8 := by
 have h1 := congrArg List.length (aeo zs)
 rw [List.length_map, yO] at h1
 have := yx zs
 omega
end
section
open Go.RowKit
theorem yE {m : Int} {l : List Int} : bH m l = true ↔ ∀ x ∈ l, 0 ≤ x ∧ x ≤ m := by
 unfold bH; simp [List.all_eq_true]
theorem aeS (zs : List Int) (k : Nat) : gq ((ye zs).ph k) = true := by
 rcases adW zs k with ⟨_, h⟩ | h
 ·obtain ⟨_, h1, h2, h3, h4, h5, h6, h7, h8, h9⟩ := h
  unfold gq
  rw [Bool.and_eq_true, yE, yE]
  simp only [List.mem_cons, List.not_mem_nil, or_false, forall_eq_or_imp, forall_eq]
  omega
 ·rw [h]; rfl
theorem ab7 (zs : List Int) (k : Nat) (hk : k ≤ 3) (g : Nat) (h : g + 1 ≤ k) : 1 ≤ yr (rw0 zs g) (yk zs k g).1 (8 - (k - 1 - g)) + yr (rw1 zs g (yr (rw0 zs g) (yk zs k g).1 (8 - (k - 1 - g)))) ((yk zs k g).1 + yr (rw0 zs g) (yk zs k g).1 (8 - (k - 1 - g))) (8 - (k - 1 - g)) := by
 obtain ⟨b1, b2, b3⟩ := yL zs k hk g (by omega)
 have h5 := yh zs (2 + 2 * g) (n := 3) (by omega)
 simp only [yr]
 generalize hm0 : min (rw0 zs g) (8 - (k - 1 - g) - (yk zs k g).1) = m0
 have hw1 : m0 = 0 → 1 ≤ rw1 zs g m0 := fun h => by unfold rw1; split <;> omega
 rcases Nat.eq_zero_or_pos m0 with hz | hz
 ·have := hw1 hz; omega
 ·omega
theorem acx (zs : List Int) (k : Nat) (hk : k ≤ 3) : ∀ g, g ≤ k → ∀ x ∈ (yk zs k g).2, ∃ a m n, x = (yj a m, yj (a + m) n) ∧ a + m + n ≤ 8 ∧ 1 ≤ m + n
 | 0, _, x, hx => by cases hx
 | g + 1, h, x, hx => by
  obtain ⟨c1, c2, c3⟩ := yL zs k hk (g + 1) h
  have ih := acx zs k hk g (by omega)
  have hn := ab7 zs k hk g h
  simp only [yk, List.mem_append, List.mem_singleton] at c1 c2 hx
  rcases hx with hx | rfl
  ·exact ih x hx
  ·exact ⟨_, _, _, rfl, by omega, hn⟩
theorem adk (a m : Nat) (h : a + m ≤ 8) : dB (yj a m) = true := by
 unfold dB
 rw [Bool.and_eq_true, List.all_eq_true]
 refine ⟨by rw [yO]; simp; omega, fun x hx => ?_⟩
 unfold yj at hx
 obtain ⟨i, hi, rfl⟩ := List.mem_map.1 hx
 rw [List.mem_range] at hi
 rw [yE]
 intro y hy
 rw [List.mem_singleton] at hy
 omega
theorem aeR (zs : List Int) : (ye zs).gr.all gC = true := by
 rw [List.all_eq_true]
 intro x hx
 obtain ⟨a, m, n, rfl, h, _⟩ := acx zs (yo zs) (yD zs).2 (yo zs) (Nat.le_refl _) x hx
 unfold gC
 rw [Bool.and_eq_true]
 exact ⟨adk _ _ (by omega), adk _ _ (by omega)⟩
theorem ad8 {gr : List (List Int × List Int)} {zs : List Int} {p q : Nat} {cf : Nat → Int} (hpq : q < p) (hp : p < 8) (x y : Nat) (hx : x < 8) (hy : y < 8) :
  aT (cfS gr zs p q cf x) y = (aT (cf x) y || (cfC gr zs p q && ((decide (x = p) && decide (y = q)) || (decide (x = q) && decide (y = p))))) := by
 unfold cfS
 have hy' : (0 : Int) ≤ y ∧ (y : Int) < 8 := by omega
 split
 ·rename_i hc
  rw [hc, Bool.true_and]
  unfold dT
  by_cases h1 : x = q
  ·subst h1
   have hne : x ≠ p := by omega
   rw [if_pos rfl, if_neg hne, yK]
   simp only [hy', and_self, decide_true, Bool.true_and, hne, decide_false, Bool.false_and, Bool.false_or]
   congr 1
   rw [Bool.eq_iff_iff]; simp only [decide_eq_true_eq]; omega
  ·rw [if_neg h1]
   by_cases h2 : x = p
   ·subst h2
    rw [if_pos rfl, yK]
    simp only [hy', and_self, decide_true, Bool.true_and, h1, decide_false, Bool.false_and, Bool.or_false]
    congr 1
    rw [Bool.eq_iff_iff]; simp only [decide_eq_true_eq]; omega
   ·rw [if_neg h2]
    simp [h1, h2]
 ·rename_i hc
  simp at hc
  rw [hc]; simp
structure CfOk (gr : List (List Int × List Int)) (n : Nat) (cf : Nat → Int) : Prop where
 bd : ∀ a, 0 ≤ cf a ∧ cf a ≤ 255
 ne : ∀ a b : Nat, a < 8 → b < 8 → aT (cf a) b = true → a ≠ b ∧ gk gr a b = false ∧ gk gr b a = false
theorem abZ (gr : List (List Int × List Int)) (a b : Int) : gk gr b a = gk gr a b := by
 unfold gk
 cases bh gr a <;> cases bh gr b <;> simp only []
 rename_i x y
 rw [Bool.eq_iff_iff]
 simp only [Bool.and_eq_true, beq_iff_eq, bne_iff_ne]
 constructor
 ·rintro ⟨h1, h2⟩; exact ⟨h1.symm, fun e => h2 e.symm⟩
 ·rintro ⟨h1, h2⟩; exact ⟨h1.symm, fun e => h2 e.symm⟩
theorem CfOk.s {gr : List (List Int × List Int)} {zs : List Int} {n p q : Nat} {cf : Nat → Int} (h : CfOk gr n cf) (hpq : q < p) (hp : p < 8) : CfOk gr n (cfS gr zs p q cf) := by
 refine ⟨fun a => ?_, fun a b ha hb hh => ?_⟩
 ·unfold cfS
  split
  ·unfold dT
   split
   ·exact yB _
   ·split
    ·exact yB _
    ·exact h.bd a
  ·exact h.bd a
 ·rw [ad8 hpq hp a b ha hb, Bool.or_eq_true, Bool.and_eq_true] at hh
  rcases hh with hh | ⟨hc, hh⟩
  ·exact h.ne a b ha hb hh
  ·unfold cfC at hc
   rw [Bool.and_eq_true] at hc
   have hc1 : gk gr p q = false := by simpa using hc.1
   have hc2 : gk gr q p = false := by rw [abZ]; exact hc1
   simp only [Bool.or_eq_true, Bool.and_eq_true, decide_eq_true_eq] at hh
   rcases hh with ⟨rfl, rfl⟩ | ⟨rfl, rfl⟩
   ·exact ⟨by omega, hc1, hc2⟩
   ·exact ⟨by omega, hc2, hc1⟩
theorem CfOk.q {gr : List (List Int × List Int)} {zs : List Int} {n p : Nat} {cf : Nat → Int} (h : CfOk gr n cf) (hp : p < 8) : ∀ q, q ≤ p → CfOk gr n (cfQ gr zs p cf q)
 | 0, _ => h
 | q + 1, hq => CfOk.s (CfOk.q h hp q (by omega)) (by omega) hp
theorem adp (gr : List (List Int × List Int)) (zs : List Int) (m : Nat) : ∀ n, n ≤ 8 → CfOk gr m (cfP gr zs n)
 | 0, _ => ⟨fun _ => by unfold cfP; omega, fun a b _ _ h => by unfold cfP at h; rw [zl] at h; cases h⟩
 | n + 1, h => CfOk.q (adp gr zs m n (by omega)) (by omega) n (Nat.le_refl _)
theorem aaw (zs : List Int) : CfOk (ye zs).gr (yf zs).1 (ye zs).cf := adp _ zs _ (yf zs).1 (yx zs).2.1
theorem adj (zs : List Int) (i : Nat) (n : Int) (hn : 1 ≤ n ∧ n ≤ 8) : eU (zo zs i n) = true ∧ vL (zo zs i n).off (zo zs i n).on = false := by
 have b0 := yh zs i (n := n) (by omega)
 have b1 := yh zs (i + 1) (n := 4) (by omega)
 have b2 := yh zs (i + 2) (n := 3) (by omega)
 have b3 := yh zs (i + 3) (n := 4) (by omega)
 have b4 := yh zs (i + 4) (n := 6) (by omega)
 have b6 := yh zs (i + 6) (n := 60) (by omega)
 have b7 := yh zs (i + 7) (n := 300) (by omega)
 unfold zo
 simp only
 generalize fr zs i n = x0 at *
 generalize fr zs (i + 1) 4 = x1 at *
 generalize fr zs (i + 2) 3 = x2 at *
 generalize fr zs (i + 3) 4 = x3 at *
 generalize fr zs (i + 4) 6 = x4 at *
 generalize (if fr zs (i + 5) 3 == 1 then 20 + fr zs (i + 6) 60 else 0) = y1, hy1 : (if fr zs (i + 5) 3 == 1 then 20 + fr zs (i + 6) 60 else 0) = y1
 generalize hy2 : (if fr zs (i + 5) 9 == 2 then 60 + fr zs (i + 7) 300 else 0) = y2
 have c1 : 0 ≤ y1 ∧ y1 ≤ 9999 := by rw [← hy1]; split <;> omega
 have c2 : 0 ≤ y2 ∧ y2 ≤ 9999 := by rw [← hy2]; split <;> omega
 have l1 : ec (onT x1) = true := by rcases (show x1 = 0 ∨ x1 = 1 ∨ x1 = 2 ∨ x1 = 3 by omega) with rfl | rfl | rfl | rfl <;> kernel_rfl
 have l2 : ec (aee x1 x2) = true ∧ vL (aee x1 x2) (onT x1) = false := by
  rcases (show x1 = 0 ∨ x1 = 1 ∨ x1 = 2 ∨ x1 = 3 by omega) with rfl | rfl | rfl | rfl <;> rcases (show x2 = 0 ∨ x2 = 1 ∨ x2 = 2 by omega) with rfl | rfl | rfl <;> exact ⟨by kernel_rfl, by kernel_rfl⟩
 have l3 : ∀ x, 0 ≤ x ∧ x < 6 → dE (aer x) = true := fun x hx => by rcases (show x = 0 ∨ x = 1 ∨ x = 2 ∨ x = 3 ∨ x = 4 ∨ x = 5 by omega) with rfl | rfl | rfl | rfl | rfl | rfl <;> kernel_rfl
 refine ⟨?_, l2.2⟩
 unfold eU
 rw [l1, l2.1, l3 x3 (by omega), l3 x4 (by omega)]
 simp only [Bool.true_and, Bool.and_eq_true, yE, List.mem_cons, List.not_mem_nil, or_false, forall_eq_or_imp, forall_eq]
 omega
def zp (n : Nat) : Int := cj fun i => decide (i < n)
theorem zf (n : Nat) (p : Nat) (hp : p < 8) : aT (zp n) p = decide (p < n) := by unfold zp; rw [rL _ hp, yH _ hp]
theorem acD {n : Nat} (h : n ≤ 8) : (2 ^ n - 1 : Int) = zp n := by
 rcases (show n = 0 ∨ n = 1 ∨ n = 2 ∨ n = 3 ∨ n = 4 ∨ n = 5 ∨ n = 6 ∨ n = 7 ∨ n = 8 by omega) with rfl | rfl | rfl | rfl | rfl | rfl | rfl | rfl | rfl <;> decide
theorem aeE (zs : List Int) : eB (ye zs) = zp (yf zs).1 := by
 refine ab3 (yB _) (yB _) fun i hi => ?_
 rw [← rL _ hi, ← rL _ hi, aap, zf _ _ hi, Bool.eq_iff_iff]
 simp only [Bool.and_eq_true, decide_eq_true_eq]
 omega
theorem ae3 (zs : List Int) {p : Nat} (h : p < (yf zs).1) : PhOk ((ye zs).ph p) := by
 show PhOk (ph1 zs (yf zs).1 p)
 unfold ph1
 rw [if_pos h]; exact adK _ _
theorem zy {s : Int} {p : Int} (h : aT s p = true) : ∃ k : Nat, p = k ∧ k < 8 := pa h
theorem zr (gr : List (List Int × List Int)) (p q : Int) (x : Int) : aT (yw gr p q) x = (decide (0 ≤ x ∧ x < 8) && (decide (p = x) || (gk gr p q && decide (q = x)))) := by
 have h1 : aT (tB [p]) x = (decide (0 ≤ x ∧ x < 8) && decide (p = x)) := by
  unfold tB
  rw [zN]
  by_cases h : 0 ≤ x ∧ x < 8
  ·have e : ((x.toNat : Nat) : Int) = x := by omega
   simp only [h, and_self, decide_true, Bool.true_and, e]
   rw [Bool.eq_iff_iff, List.contains_iff_mem]; simp [eq_comm]
  ·simp [h]
 unfold yw
 cases gk gr p q
 ·simp [h1]
 ·simp only [if_true, Bool.true_and]
  rw [yK, h1]
  cases decide (0 ≤ x ∧ x < 8) <;> simp
theorem zS (gr : List (List Int × List Int)) (p q : Int) : 0 ≤ yw gr p q ∧ yw gr p q ≤ 255 := by
 unfold yw
 split <;> exact yB _
end
section
open Go.RowKit
theorem mF {code : Int} {n : Nat} {f : Nat → Bool} (h : ∀ i, i < n → f i = false) : bL code n f = (0, 0) := by
 unfold bL
 have : (List.range n).find? f = none := by
  rw [List.find?_eq_none]
  intro x hx
  rw [h x (by simpa using hx)]; simp
 rw [this]
theorem adJ {p : Phs} (h : PhOk p) : gW p = false := by
 obtain ⟨_, h1, h2, h3, h4, h5, h6, h7, h8, h9⟩ := h
 unfold gW
 simp only [Bool.or_eq_false_iff, Bool.and_eq_false_iff, decide_eq_false_iff_not, bne_eq_false_iff_eq]
 refine ⟨⟨⟨⟨⟨⟨by omega, by omega⟩, by omega⟩, by omega⟩, .inl (by omega)⟩, ?_⟩, ?_⟩
 ·rw [Bool.eq_iff_iff, beq_iff_eq, beq_iff_eq]; omega
 ·by_cases h : p.recl = 3
  ·right; rw [beq_eq_false_iff_ne]; omega
  ·left; rw [beq_eq_false_iff_ne]; exact h
theorem adG {zs : List Int} {p : Nat} (h : aT (eB (ye zs)) p = true) : p < (yf zs).1 := by
 rw [aap] at h
 simp at h; omega
theorem aeT (zs : List Int) : bi (ye zs) (eB (ye zs)) 0 = (0, 0) := mF fun p hp => by
 cases hon : aT (eB (ye zs)) p
 ·rfl
 ·rw [adJ (ae3 zs (adG hon))]; rfl
def yI (on : Int) : Int → List (List Int × List Int) → Option Int
 | seen, [] => some seen
 | seen, r :: l => if r.1.length + r.2.length = 0 then none else match pq on seen (r.1 ++ r.2) with | none => none | some s => yI on s l
theorem aab (on : Int) : ∀ (l m : List (List Int × List Int)) (seen : Int), yI on seen (l ++ m) = (yI on seen l).bind fun s => yI on s m
 | [], m, seen => rfl
 | r :: l, m, seen => by
  simp only [List.cons_append, yI]
  split
  ·rfl
  ·split
   ·rfl
   ·exact aab on l m _
theorem abe (on : Int) : ∀ (l : List (List Int × List Int)) (seen : Int) (g : Nat), yI on seen l = some on → dd on seen g l = (0, 0)
 | [], seen, g, h => by
  unfold yI at h; unfold dd
  rw [if_pos (by simpa using h)]
 | r :: l, seen, g, h => by
  unfold yI at h; unfold dd
  split at h
  ·cases h
  ·rename_i hn
   rw [if_neg hn]
   split at h
   ·cases h
   ·rename_i s hs
    rw [hs]; exact abe on l s (g + 1) h
theorem adC {a : Nat} (h : a < 8) : iI (zp a) a = zp (a + 1) := ab3 (yB _) (yB _) fun i hi => by
 rw [← rL _ hi, ← rL _ hi, yK, zf _ _ hi, zf _ _ hi, Bool.eq_iff_iff]
 simp only [Bool.or_eq_true, Bool.and_eq_true, decide_eq_true_eq]
 omega
theorem abg (n : Nat) (hn : n ≤ 8) : ∀ m a, a + m ≤ n → pq (zp n) (zp a) (yj a m) = some (zp (a + m))
 | 0, a, _ => rfl
 | m + 1, a, h => by
  have e : yj a (m + 1) = (a : Int) :: yj (a + 1) m := by
   rw [Nat.add_comm m 1, ← yT]; rfl
  rw [e]
  unfold pq
  rw [if_neg (by rw [zf _ _ (by omega), zf _ _ (by omega)]; simp; omega), adC (by omega), abg n hn m (a + 1) (by omega), Nat.add_assoc, Nat.add_comm 1 m]
theorem adP (zs : List Int) (k : Nat) (hk : k ≤ 3) (n : Nat) (hn : n ≤ 8) : ∀ g, g ≤ k → (yk zs k g).1 ≤ n → yI (zp n) (zp 0) (yk zs k g).2 = some (zp (yk zs k g).1)
 | 0, _, _ => rfl
 | g + 1, h, hl => by
  have hnew := ab7 zs k hk g h
  simp only [yk] at hl ⊢
  rw [aab, adP zs k hk n hn g (by omega) (by omega), Option.bind_some]
  unfold yI
  rw [yT, if_neg (by rw [yO, yO]; omega), abg n hn _ _ (by omega)]
  unfold yI
  simp only [Nat.add_assoc]
theorem aeU (zs : List Int) : bi (ye zs) (eB (ye zs)) 1 = (0, 0) := by
 have hb := yx zs
 have hg := yD zs
 show ka (ye zs) (eB (ye zs)) = (0, 0)
 unfold ka
 have hlen : (ye zs).gr.length = yo zs := hb.2.2
 rw [if_neg (by omega), aeE]
 have h0 : (0 : Int) = zp 0 := by decide
 rw [h0]
 exact abe _ _ _ _ (adP zs (yo zs) hg.2 _ hb.2.1 (yo zs) (Nat.le_refl _) (Nat.le_refl _))
theorem aeV (zs : List Int) : bi (ye zs) (eB (ye zs)) 2 = (0, 0) := mF fun p hp => by
 have h1 : aT ((ye zs).cf p) p = false := by
  cases h : aT ((ye zs).cf p) p
  ·rfl
  ·exact absurd rfl ((aaw zs).ne p p hp hp h).1
 have h2 : jW (ye zs) (eB (ye zs)) p = false := by
  unfold jW
  rw [h1, Bool.false_or, List.any_eq_false]
  intro q hq
  rw [ql] at hq
  obtain ⟨q, rfl, hq8⟩ := zy hq
  have e := aeq zs p q hp hq8
  rw [Int.toNat_natCast, ← e]
  cases hb : aT ((ye zs).cf p) q
  ·simp
  ·rw [((aaw zs).ne p q hp hq8 hb).2.1]; simp
 rw [h2, Bool.and_false]
theorem yP {α : Type} (f : Nat → α) (d : α) {n k : Nat} (h : k < ((List.range n).map f).length) : ((List.range n).map f).getD k d = f k := by
 rw [List.length_map, List.length_range] at h
 rw [List.getD_eq_getElem?_getD, List.getElem?_map, List.getElem?_range h]; rfl
theorem zO {zs : List Int} {x : Int} (h : 0 ≤ x ∧ x < (yf zs).1) : aT (eB (ye zs)) x = true := by
 rw [aap]; simp; omega
theorem aeW (zs : List Int) : bi (ye zs) (eB (ye zs)) 3 = (0, 0) := mF fun d hd => by
 have hb := yx zs
 have e : (ye zs).de.getD d oR = zo zs (180 + 8 * ((fr zs 175 9).toNat - d)) ((yf zs).1 : Nat) := yP (fun j => zo zs (180 + 8 * ((fr zs 175 9).toNat - j)) ((yf zs).1 : Nat)) oR hd
 rw [e]
 unfold po
 rw [(adj zs _ _ (by omega)).2, Bool.false_or]
 have := yh zs (180 + 8 * ((fr zs 175 9).toNat - d)) (n := ((yf zs).1 : Nat)) (by omega)
 rw [show (zo zs (180 + 8 * ((fr zs 175 9).toNat - d)) ((yf zs).1 : Nat)).ph = fr zs (180 + 8 * ((fr zs 175 9).toNat - d)) ((yf zs).1 : Nat) from rfl, zO this]
 rfl
theorem acy {gr : List (List Int × List Int)} {p q x y : Int} (hx : aT (yw gr p q) x = true) (hy : aT (yw gr p q) y = true) (hne : x ≠ y) : gk gr x y = true := by
 rw [zr] at hx hy
 simp only [Bool.and_eq_true, Bool.or_eq_true, decide_eq_true_eq] at hx hy
 rcases hx.2 with rfl | ⟨hb, rfl⟩
 ·rcases hy.2 with rfl | ⟨hb, rfl⟩
  ·exact absurd rfl hne
  ·exact hb
 ·rcases hy.2 with rfl | ⟨_, rfl⟩
  ·rw [abZ]; exact hb
  ·exact absurd rfl hne
theorem aai (zs : List Int) (p q : Int) : eh (ye zs) (yw (ye zs).gr p q) = false := by
 unfold eh
 rw [List.any_eq_false]
 intro x hx
 rw [Bool.not_eq_true, List.any_eq_false]
 intro y hy hh
 rw [ql] at hx hy
 rw [Bool.and_eq_true, bne_iff_ne] at hh
 have hb := acy hx hy hh.1
 have hcl := hh.2
 obtain ⟨x, rfl, hx8⟩ := zy hx
 obtain ⟨y, rfl, hy8⟩ := zy hy
 unfold lK at hcl
 rw [Bool.or_eq_true, Int.toNat_natCast, Int.toNat_natCast] at hcl
 rcases hcl with h | h
 ·have := ((aaw zs).ne _ _ hx8 hy8 h).2.1; rw [hb] at this; cases this
 ·have := ((aaw zs).ne _ _ hy8 hx8 h).2.2; rw [hb] at this; cases this
theorem adg (zs : List Int) (p q : Int) : mo (ye zs) (yw (ye zs).gr p q) = false := by
 unfold mo
 rw [List.any_eq_false]
 intro x hx
 rw [Bool.not_eq_true, List.any_eq_false]
 intro y hy hh
 rw [ql] at hx hy
 rw [Bool.and_eq_true, bne_iff_ne] at hh
 rw [acy hx hy hh.1] at hh
 cases hh.2
theorem aco {a b : Int} (ha : 0 ≤ a ∧ a ≤ 255) (hb : 0 ≤ b ∧ b ≤ 255) : (0 ≤ bits .or .i64 a b ∧ bits .or .i64 a b ≤ 255) ∧ ∀ q : Nat, q < 8 → aT (bits .or .i64 a b) q = (aT a q || aT b q) := by
 have e : bits .or .i64 a b = cj fun i => fm a i || fm b i := by
  have := pv (fm a) (fm b)
  rw [yN ha, yN hb] at this
  exact this
 refine ⟨by rw [e]; exact yB _, fun q hq => ?_⟩
 rw [rL _ hq, e, yH _ hq, rL _ hq, rL _ hq]
theorem adl (x d : Int) {n : Nat} (hn : n ≤ 8) (hd : 0 ≤ d ∧ d ≤ 255) : (0 ≤ bits .andNot .i64 (bits .and .i64 x (2 ^ n - 1)) d ∧ bits .andNot .i64 (bits .and .i64 x (2 ^ n - 1)) d ≤ 255) ∧ ∀ q : Nat, q < 8 → aT (bits .andNot .i64 (bits .and .i64 x (2 ^ n - 1)) d) q = ((fm x q && decide (q < n)) && !aT d q) := by
 have e : bits .andNot .i64 (bits .and .i64 x (2 ^ n - 1)) d = cj fun i => (fm x i && decide (i < n)) && !fm d i := by
  rw [acD hn]
  unfold zp
  rw [sR]
  have := zX (fun i => fm x i && decide (i < n)) (fm d)
  rw [yN hd] at this
  exact this
 refine ⟨by rw [e]; exact yB _, fun q hq => ?_⟩
 rw [rL _ hq, e, yH _ hq, rL _ hq]
theorem zu {zs : List Int} {p q : Int} (hp : 0 ≤ p ∧ p < (yf zs).1) (hq : 0 ≤ q ∧ q < (yf zs).1) {x : Nat} (h : aT (yw (ye zs).gr p q) x = true) : aT (eB (ye zs)) x = true := by
 rw [zr] at h
 simp only [Bool.and_eq_true, Bool.or_eq_true, decide_eq_true_eq] at h
 rcases h.2 with rfl | ⟨_, rfl⟩
 ·exact zO hp
 ·exact zO hq
theorem acv {gr : List (List Int × List Int)} {p q : Int} (hp : 0 ≤ p ∧ p < 8) : aT (yw gr p q) p = true := by
 rw [zr]; simp; omega
theorem zU {gr : List (List Int × List Int)} {p q : Int} (hp : 0 ≤ p ∧ p < 8) : yw gr p q ≠ 0 := fun e => by
 have := acv (gr := gr) (q := q) hp
 rw [e, zl] at this; cases this
theorem acw (zs : List Int) (i : Nat) : pB (ye zs) (eB (ye zs)) (rlM (ye zs).gr zs i (yf zs).1) = false ∧ iL (rlM (ye zs).gr zs i (yf zs).1) = true := by
 have hb := yx zs
 have b0 := yh zs i (n := ((yf zs).1 : Nat)) (by omega)
 have b1 := yh zs (i + 1) (n := ((yf zs).1 : Nat)) (by omega)
 have b2 := yh zs (i + 2) (n := ((yf zs).1 : Nat)) (by omega)
 have b3 := yh zs (i + 3) (n := ((yf zs).1 : Nat)) (by omega)
 have b4 := yh zs (i + 4) (n := ((yf zs).1 : Nat) + 1) (by omega)
 have b5 := yh zs (i + 5) (n := ((yf zs).1 : Nat)) (by omega)
 have b6 := yh zs (i + 6) (n := 10) (by omega)
 have b8 := yh zs (i + 8) (n := 4) (by omega)
 have b9 := yh zs (i + 9) (n := 6) (by omega)
 have b10 := yh zs (i + 10) (n := 6) (by omega)
 have b11 := yh zs (i + 11) (n := 15) (by omega)
 have b13 := yh zs (i + 13) (n := 30) (by omega)
 have bl := acA (fr zs (i + 14) 3)
 have hon : 0 ≤ eB (ye zs) ∧ eB (ye zs) ≤ 255 := yB _
 have hdw : ∀ x : Nat, x < 8 → aT (yw (ye zs).gr (fr zs i ((yf zs).1 : Nat)) (fr zs (i + 1) ((yf zs).1 : Nat))) x = true → aT (eB (ye zs)) x = true := fun x _ h => zu b0 b1 h
 have hdn := zU (gr := (ye zs).gr) (p := fr zs i ((yf zs).1 : Nat)) (q := fr zs (i + 1) ((yf zs).1 : Nat)) (by omega)
 have hdc := aai zs (fr zs i ((yf zs).1 : Nat)) (fr zs (i + 1) ((yf zs).1 : Nat))
 have hdb := zS (ye zs).gr (fr zs i ((yf zs).1 : Nat)) (fr zs (i + 1) ((yf zs).1 : Nat))
 have hew : ∀ x : Nat, x < 8 → aT (yw (ye zs).gr (fr zs (i + 2) ((yf zs).1 : Nat)) (fr zs (i + 3) ((yf zs).1 : Nat))) x = true → aT (eB (ye zs)) x = true := fun x _ h => zu b2 b3 h
 have hen := zU (gr := (ye zs).gr) (p := fr zs (i + 2) ((yf zs).1 : Nat)) (q := fr zs (i + 3) ((yf zs).1 : Nat)) (by omega)
 have hec := aai zs (fr zs (i + 2) ((yf zs).1 : Nat)) (fr zs (i + 3) ((yf zs).1 : Nat))
 have hea := adg zs (fr zs (i + 2) ((yf zs).1 : Nat)) (fr zs (i + 3) ((yf zs).1 : Nat))
 have heb := zS (ye zs).gr (fr zs (i + 2) ((yf zs).1 : Nat)) (fr zs (i + 3) ((yf zs).1 : Nat))
 obtain ⟨hbb, hbh⟩ := adl (fr zs (i + 7) 256) (yw (ye zs).gr (fr zs i ((yf zs).1 : Nat)) (fr zs (i + 1) ((yf zs).1 : Nat))) hb.2.1 hdb
 have hc : ∃ clr hold, (if fr zs (i + 4) (((yf zs).1 : Nat) + 1) < ((yf zs).1 : Nat) then yw (ye zs).gr (fr zs (i + 4) (((yf zs).1 : Nat) + 1)) (fr zs (i + 5) ((yf zs).1 : Nat)) else 0) = clr ∧
   (if fr zs (i + 4) (((yf zs).1 : Nat) + 1) < ((yf zs).1 : Nat) then 1 + fr zs (i + 6) 10 else 0) = hold ∧ (∀ x : Nat, x < 8 → aT clr x = true → aT (eB (ye zs)) x = true) ∧ eh (ye zs) clr = false ∧ (0 ≤ clr ∧ clr ≤ 255) ∧ (0 ≤ hold ∧ hold ≤ 10) ∧ (decide (0 < hold) != (clr != 0)) = false := by
  by_cases hlt : fr zs (i + 4) (((yf zs).1 : Nat) + 1) < ((yf zs).1 : Nat)
  ·rw [if_pos hlt, if_pos hlt]
   refine ⟨_, _, rfl, rfl, fun x _ h => zu ⟨b4.1, hlt⟩ b5 h, aai zs _ _, zS _ _ _, by omega, ?_⟩
   have h1 := zU (gr := (ye zs).gr) (p := fr zs (i + 4) (((yf zs).1 : Nat) + 1)) (q := fr zs (i + 5) ((yf zs).1 : Nat)) (by omega)
   have h2 : decide (0 < 1 + fr zs (i + 6) 10) = true := by simp; omega
   rw [h2, bne_eq_false_iff_eq, eq_comm, bne_iff_ne]
   exact h1
  ·rw [if_neg hlt, if_neg hlt]
   exact ⟨0, 0, rfl, rfl, fun x _ h => (by rw [zl] at h; cases h), rfl, by omega, by omega, rfl⟩
 obtain ⟨clr, hold, hce, hho, hcw, hcc, hcb, hhb, hch⟩ := hc
 have hmo : ∃ most, (if fr zs (i + 12) 3 == 1 then 1 + fr zs (i + 11) 15 + fr zs (i + 13) 30 else 0) = most ∧ (0 ≤ most ∧ most ≤ 50) ∧ (decide (0 < most) && decide (most < 1 + fr zs (i + 11) 15)) = false := by
  split
  ·exact ⟨_, rfl, by omega, by rw [Bool.and_eq_false_iff]; right; simp; omega⟩
  ·exact ⟨0, rfl, by omega, rfl⟩
 obtain ⟨most, hme, hmb, hml⟩ := hmo
 unfold rlM
 simp only [hce, hho, hme]
 generalize yw (ye zs).gr (fr zs i ((yf zs).1 : Nat)) (fr zs (i + 1) ((yf zs).1 : Nat)) = dwl at *
 generalize yw (ye zs).gr (fr zs (i + 2) ((yf zs).1 : Nat)) (fr zs (i + 3) ((yf zs).1 : Nat)) = ext at *
 generalize bits .andNot .i64 (bits .and .i64 (fr zs (i + 7) 256) (2 ^ (yf zs).1 - 1)) dwl = bars at *
 have hbw : ∀ x : Nat, x < 8 → aT bars x = true → aT (eB (ye zs)) x = true := fun x hx h => by
  rw [hbh x hx] at h
  simp only [Bool.and_eq_true, decide_eq_true_eq] at h
  exact zO (by omega)
 refine ⟨?_, ?_⟩
 ·obtain ⟨o1, p1⟩ := aco hbb hcb
  obtain ⟨o2, p2⟩ := aco o1 hdb
  obtain ⟨o3, p3⟩ := aco o2 heb
  have hz := zZ o3 hon fun q hq h => by
   rw [p3 q hq, p2 q hq, p1 q hq] at h
   simp only [Bool.or_eq_true] at h
   rcases h with ((h | h) | h) | h
   ·exact hbw q hq h
   ·exact hcw q hq h
   ·exact hdw q hq h
   ·exact hew q hq h
  have hz2 := acJ hdb hbb fun q hq h => by rw [hbh q hq, h]; simp
  unfold pB
  simp only [hz, hz2, hcc, hdc, hec, hea, hch, hml, Bool.or_false, Bool.or_eq_false_iff, bne_self_eq_false, decide_eq_false_iff_not, beq_eq_false_iff_ne, ne_eq, true_and]
  exact ⟨⟨⟨⟨hdn, hen⟩, by omega⟩, by omega⟩, by omega⟩
 ·unfold iL
  simp only [Bool.and_eq_true, yE, List.mem_cons, List.not_mem_nil, or_false, forall_eq_or_imp, forall_eq]
  omega
theorem aeX (zs : List Int) : bi (ye zs) (eB (ye zs)) 4 = (0, 0) := mF fun k hk => by
 have e : (ye zs).ra.getD k uI = rlM (ye zs).gr zs (260 + 16 * ((fr zs 176 4 % 3).toNat - k)) (yf zs).1 := yP (fun j => rlM (ye zs).gr zs (260 + 16 * ((fr zs 176 4 % 3).toNat - j)) (yf zs).1) uI hk
 rw [e]; exact (acw zs _).1
theorem adh (zs : List Int) (i : Nat) : nf (eB (ye zs)) (buX zs (yf zs).1 i) = false ∧ fK (buX zs (yf zs).1 i) = true := by
 have hb := yx zs
 have b1 := yh zs (331 + 2 * i) (n := 30) (by omega)
 have hon : 0 ≤ eB (ye zs) ∧ eB (ye zs) ≤ 255 := yB _
 unfold buX
 rw [acD hb.2.1]
 unfold zp
 rw [sR]
 have hs : ∃ s, (if 1 < cj (fun j => fm (fr zs (330 + 2 * i) 256) j && decide (j < (yf zs).1)) then cj (fun j => fm (fr zs (330 + 2 * i) 256) j && decide (j < (yf zs).1)) else 1) = s ∧ (1 ≤ s ∧ s ≤ 255) ∧ ∀ q : Nat, q < 8 → aT s q = true → aT (eB (ye zs)) q = true := by
  have hp := yB fun j => fm (fr zs (330 + 2 * i) 256) j && decide (j < (yf zs).1)
  split
  ·refine ⟨_, rfl, by omega, fun q hq h => ?_⟩
   rw [rL _ hq, yH _ hq] at h
   simp only [Bool.and_eq_true, decide_eq_true_eq] at h
   exact zO (by omega)
  ·refine ⟨1, rfl, by omega, fun q hq h => ?_⟩
   have : q = 0 := by
    rcases (show q = 0 ∨ q = 1 ∨ q = 2 ∨ q = 3 ∨ q = 4 ∨ q = 5 ∨ q = 6 ∨ q = 7 by omega) with rfl | rfl | rfl | rfl | rfl | rfl | rfl | rfl
    ·rfl
    all_goals exact absurd h (by decide)
   exact zO (by omega)
 obtain ⟨s, he, hsb, hsh⟩ := hs
 simp only [he]
 refine ⟨?_, ?_⟩
 ·unfold nf
  rw [zZ (by omega) hon hsh]
  simp only [Bool.or_eq_false_iff, beq_eq_false_iff_ne, bne_self_eq_false, decide_eq_false_iff_not]
  exact ⟨⟨by omega, trivial⟩, by omega⟩
 ·unfold fK
  simp only [Bool.and_eq_true, yE, List.mem_cons, List.not_mem_nil, or_false, forall_eq]
  omega
theorem aeY (zs : List Int) : bi (ye zs) (eB (ye zs)) 5 = (0, 0) := mF fun k hk => by
 have e : (ye zs).bu.getD k uQ = buX zs (yf zs).1 ((fr zs 177 3).toNat - k) := yP (fun j => buX zs (yf zs).1 ((fr zs 177 3).toNat - j)) uQ hk
 rw [e]; exact (adh zs _).1
theorem adw (zs : List Int) (p : Nat) : (ye zs).fl p = if fr zs 174 ((yf zs).1 + 1) < (yf zs).1 ∧ p = (fr zs 174 ((yf zs).1 + 1)).toNat then 2 else if p < (yf zs).1 then 1 else 0 := by
 show flM zs (yf zs).1 p = _
 unfold flM
 by_cases h : fr zs 174 ((yf zs).1 + 1) < (yf zs).1
 ·rw [if_pos h]
  unfold dT fl1
  by_cases h2 : p = (fr zs 174 ((yf zs).1 + 1)).toNat
  ·rw [if_pos h2, if_pos ⟨h, h2⟩]
  ·simp only [h2, and_false, if_false]
 ·rw [if_neg h, if_neg (fun h2 => h h2.1)]; rfl
theorem aeZ (zs : List Int) : bi (ye zs) (eB (ye zs)) 6 = (0, 0) := mF fun p hp => by
 cases hon : aT (eB (ye zs)) p
 ·rfl
 ·have hlt := adG hon
  rw [Bool.true_and]
  unfold jq
  have h0 : ((ye zs).fl p == 0) = false := by
   rw [beq_eq_false_iff_ne, adw]
   split
   ·decide
   ·first | decide | (rw [if_pos hlt]; decide)
  rw [h0, Bool.false_or, List.any_eq_false]
  intro q hq hh
  rw [ql] at hq
  obtain ⟨q, rfl, hq8⟩ := zy hq
  simp only [Bool.and_eq_true, bne_iff_ne, beq_iff_eq, Int.toNat_natCast] at hh
  obtain ⟨⟨hne, h1⟩, h2⟩ := hh
  have key : ∀ r, (ye zs).fl r = 2 → r = (fr zs 174 ((yf zs).1 + 1)).toNat := fun r hr => by
   rw [adw] at hr
   split at hr
   ·rename_i h; exact h.2
   ·split at hr <;> omega
  exact hne (by rw [key p h1, key q h2])
theorem acf (zs : List Int) : dS (ye zs) = true := by
 have hb := yx zs
 have hg := yD zs
 have c1 := yh zs 178 (n := 12) (by omega)
 have c2 := yh zs 179 (n := 40) (by omega)
 have c3 := yh zs 180 (n := 8) (by omega)
 have c4 := yh zs 181 (n := 8) (by omega)
 have c5 := yh zs 182 (n := 12) (by omega)
 have c6 := yh zs 183 (n := 4) (by omega)
 have c7 := yh zs 175 (n := 9) (by omega)
 have c8 := yh zs 177 (n := 3) (by omega)
 have hw : 0 ≤ (ye zs).win ∧ (ye zs).win ≤ 2147483647 := by
  have key : ∀ (t : Tab) (n : Nat), 0 ≤ yJ t n ∧ yJ t n ≤ 2147483647 := fun t n => by
   induction n with
   | zero => unfold yJ; omega
   | succ n ih => unfold yJ; have := tR t n; omega
  show 0 ≤ (if (zI zs).ra.length = 0 then 0 else yJ (zI zs) (yf zs).1) ∧ (if (zI zs).ra.length = 0 then 0 else yJ (zI zs) (yf zs).1) ≤ _
  split
  ·omega
  ·exact key _ _
 have hlen : (ye zs).gr.length = yo zs := hb.2.2
 have hde : (ye zs).de.length = (fr zs 175 9).toNat := by show ((List.range _).map _).length = _; simp
 have hra : (ye zs).ra.length = (fr zs 176 4 % 3).toNat := by show ((List.range _).map _).length = _; simp
 have hbu : (ye zs).bu.length = (fr zs 177 3).toNat := by show ((List.range _).map _).length = _; simp
 unfold dS
 simp only [Bool.and_eq_true, decide_eq_true_eq]
 refine ⟨⟨⟨⟨⟨⟨⟨⟨?_, by omega, aeR zs⟩, ?_⟩, by omega, ?_⟩, by omega, ?_⟩, by omega, ?_⟩, ?_⟩, ?_⟩, ?_⟩
 ·rw [List.all_eq_true]; intro k _; exact aeS zs k
 ·rw [yE]; intro x hx
  obtain ⟨k, _, rfl⟩ := List.mem_map.1 hx
  exact (aaw zs).bd k
 ·rw [List.all_eq_true]; intro x hx
  obtain ⟨k, _, rfl⟩ := List.mem_map.1 (show x ∈ (List.range (fr zs 175 9).toNat).map fun j => zo zs (180 + 8 * ((fr zs 175 9).toNat - j)) ((yf zs).1 : Nat) from hx)
  exact (adj zs _ _ (by omega)).1
 ·rw [List.all_eq_true]; intro x hx
  obtain ⟨k, _, rfl⟩ := List.mem_map.1 (show x ∈ (List.range (fr zs 176 4 % 3).toNat).map fun j => rlM (ye zs).gr zs (260 + 16 * ((fr zs 176 4 % 3).toNat - j)) (yf zs).1 from hx)
  exact (acw zs _).2
 ·rw [List.all_eq_true]; intro x hx
  obtain ⟨k, _, rfl⟩ := List.mem_map.1 (show x ∈ (List.range (fr zs 177 3).toNat).map fun j => buX zs (yf zs).1 ((fr zs 177 3).toNat - j) from hx)
  exact (adh zs _).2
 ·rw [yE]
  simp only [List.mem_cons, List.not_mem_nil, or_false, forall_eq_or_imp, forall_eq]
  exact ⟨by show 0 ≤ fr zs 178 12 ∧ fr zs 178 12 ≤ _; omega, by show 0 ≤ fr zs 179 40 ∧ fr zs 179 40 ≤ _; omega, by show 0 ≤ fr zs 180 8 ∧ fr zs 180 8 ≤ _; omega, by show 0 ≤ fr zs 181 8 ∧ fr zs 181 8 ≤ _; omega, by show 0 ≤ fr zs 182 12 ∧ fr zs 182 12 ≤ _; omega⟩
 ·rw [yE]; intro x hx
  obtain ⟨k, _, rfl⟩ := List.mem_map.1 hx
  rw [adw]; split <;> (try split) <;> omega
 ·rw [yE]
  simp only [List.mem_cons, List.not_mem_nil, or_false, forall_eq_or_imp, forall_eq]
  exact ⟨hw, by show 0 ≤ fr zs 183 4 ∧ fr zs 183 4 ≤ _; omega⟩
theorem adi (zs : List Int) : aL (ye zs) = (0, 0) := by
 unfold aL
 rw [if_pos (acf zs)]
 simp only [bX, aeT, aeU, aeV, aeW, aeX, aeY, aeZ, if_true]
end
end Go.Proofs.YtodgfjgljcinlaaGreat
