/- The plain laws of saturating integers: no program is in sight. -/
import Derived.Test.YtjjlcjafadigkaaSat
namespace Go.Proofs.Ytjjlcjafadigkaa

theorem capM_eq {n : Int} (h : 0 ≤ n) : capM n = min n 2147483647 := by unfold capM; omega
theorem capM_id {n : Int} (h : 0 ≤ n ∧ n ≤ 2147483647) : capM n = n := by unfold capM; omega
theorem capM_capM (n : Int) : capM (capM n) = capM n := capM_id (capM_bd n)
theorem addM_bd (a b : Int) : 0 ≤ addM a b ∧ addM a b ≤ 2147483647 := capM_bd _
theorem mulM_bd (a b : Int) : 0 ≤ mulM a b ∧ mulM a b ≤ 2147483647 := capM_bd _
theorem subM_bd (a b : Int) : 0 ≤ subM a b ∧ subM a b ≤ 2147483647 := capM_bd _
theorem addM_comm (a b : Int) : addM a b = addM b a := by unfold addM; rw [Int.add_comm]
theorem mulM_comm (a b : Int) : mulM a b = mulM b a := by unfold mulM; rw [Int.mul_comm]
theorem addM_assoc (a b c : Int) : addM (addM a b) c = addM a (addM b c) := by unfold addM capM; omega
theorem cap_mul {p z : Int} (hp : 0 ≤ p) (hz : 0 ≤ z) : capM (capM p * z) = capM (p * z) := by
  by_cases h : p ≤ 2147483647
  · rw [capM_id ⟨hp, h⟩]
  · by_cases h0 : z = 0
    · subst h0; simp
    · have e : capM p = 2147483647 := by unfold capM; omega
      have h1 : (2147483647 : Int) * 1 ≤ 2147483647 * z := Int.mul_le_mul_of_nonneg_left (by omega) (by omega)
      have h2 : 2147483647 * z ≤ p * z := Int.mul_le_mul_of_nonneg_right (by omega) hz
      rw [e]; unfold capM; omega
theorem mulM_assoc (a b c : Int) : mulM (mulM a b) c = mulM a (mulM b c) := by
  have ha := capM_bd a
  have hb := capM_bd b
  have hc := capM_bd c
  have e1 : mulM (mulM a b) c = capM (capM a * capM b * capM c) := by
    unfold mulM; rw [capM_capM]; exact cap_mul (mul_bd ha hb).1 hc.1
  have e2 : mulM a (mulM b c) = capM (capM b * capM c * capM a) := by
    rw [mulM_comm]; unfold mulM; rw [capM_capM]; exact cap_mul (mul_bd hb hc).1 ha.1
  rw [e1, e2, Int.mul_comm (capM b * capM c), Int.mul_assoc]
theorem cap_add {p q : Int} (hp : 0 ≤ p) (hq : 0 ≤ q) : capM (capM p + capM q) = capM (p + q) := by unfold capM; omega
theorem mulM_addM (a b c : Int) : mulM a (addM b c) = addM (mulM a b) (mulM a c) := by
  have ha := capM_bd a
  have hb := capM_bd b
  have hc := capM_bd c
  have e1 : mulM a (addM b c) = capM ((capM b + capM c) * capM a) := by
    rw [mulM_comm]; unfold mulM addM; rw [capM_capM]; exact cap_mul (by omega) ha.1
  have e2 : addM (mulM a b) (mulM a c) = capM (capM a * capM b + capM a * capM c) := by
    unfold addM mulM; rw [capM_capM, capM_capM]; exact cap_add (mul_bd ha hb).1 (mul_bd ha hc).1
  rw [e1, e2, Int.add_mul, Int.mul_comm (capM b), Int.mul_comm (capM c)]
theorem sub_add {a b : Int} (h : addM a b < 2147483647) : subM (addM a b) b = capM a := by
  unfold subM; unfold addM capM at *; omega
theorem addM_mono {a c b : Int} (h : a ≤ c) : addM a b ≤ addM c b := by unfold addM capM; omega
theorem subM_mono {a c b : Int} (h : a ≤ c) : subM a b ≤ subM c b := by unfold subM capM; omega
theorem capM_mono {a c : Int} (h : a ≤ c) : capM a ≤ capM c := by unfold capM; omega
theorem mulM_mono {a c b : Int} (h : a ≤ c) : mulM a b ≤ mulM c b :=
  capM_mono (Int.mul_le_mul_of_nonneg_right (capM_mono h) (capM_bd b).1)
theorem foldl_addM (l : List Int) (n : Int) (hn : 0 ≤ n ∧ n ≤ 2147483647) : l.foldl addM n = addM n (l.foldl addM 0) := by
  induction l generalizing n with
  | nil => simp only [List.foldl_nil]; unfold addM capM; omega
  | cons x l ih =>
    simp only [List.foldl_cons]
    rw [ih _ (addM_bd n x), ih _ (addM_bd 0 x), addM_assoc]
    congr 1
    generalize l.foldl addM 0 = t
    unfold addM capM; omega
theorem sumM_bd (l : List Int) : 0 ≤ sumM l ∧ sumM l ≤ 2147483647 := by
  unfold sumM
  have : ∀ n : Int, 0 ≤ n ∧ n ≤ 2147483647 → 0 ≤ l.foldl addM n ∧ l.foldl addM n ≤ 2147483647 := by
    induction l with
    | nil => intro n h; exact h
    | cons x l ih => intro n _; exact ih _ (addM_bd n x)
  exact this 0 (by omega)
theorem sumM_append (l m : List Int) : sumM (l ++ m) = addM (sumM l) (sumM m) := by
  unfold sumM
  rw [List.foldl_append]; exact foldl_addM m _ (sumM_bd l)
end Go.Proofs.Ytjjlcjafadigkaa
