/- Plain laws of the delay's timer: no program is in sight. -/
import Derived.Test.YtnljbnbljgmelaaDelA
namespace Go.Proofs.Ytnljbnbljgmelaa
open Go.RowKit
set_option linter.unusedVariables false

theorem cutT_id {n : Int} (h : 0 ≤ n ∧ n ≤ 9999) : cutT n = n := by unfold cutT; omega
/-- After k ticks: the row of ticks, the last tick at which the row was longer than d, and the timer. -/
def TellRel (d e : Int) (k : Nat) (row last tail : Int) (out : Bool) : Prop :=
  0 ≤ row ∧ row ≤ k ∧ -1000 ≤ last ∧ last ≤ k ∧ out = decide ((k : Int) - 1 - last ≤ e) ∧ tail = (if (k : Int) - 1 - last ≤ e then e - (k - 1 - last) else 0) ∧ last ≤ (k : Int) - 1
theorem tell_step {d e : Int} {k : Nat} {row last tail : Int} {out : Bool} (hd : 0 ≤ d ∧ d < 12) (he : 0 ≤ e ∧ e < 12) (hk : k ≤ 120) (h : TellRel d e k row last tail out) (b : Bool) (row' last' : Int)
    (hr : row' = if b then row + 1 else 0) (hl : last' = if d < row' then (k : Int) else last) :
    tH b row = row' ∧ tOut d row tail out b = decide ((k : Int) - last' ≤ e) ∧ TellRel d e (k + 1) row' last' (tTail d e row tail out b) (tOut d row tail out b) := by
  obtain ⟨h1, h2, h3, h4, h5, h6, h7⟩ := h
  have c1 : cutT d = d := cutT_id (by omega)
  have c2 : cutT e = e := cutT_id (by omega)
  have c3 : cutT row = row := cutT_id (by omega)
  have ht : 0 ≤ tail ∧ tail ≤ 12 := by rw [h6]; split <;> omega
  have c4 : cutT tail = tail := cutT_id (by omega)
  have e1 : tH b row = row' := by rw [hr]; unfold tH; rw [c3]
  have e2 : tOut d row tail out b = decide ((k : Int) - last' ≤ e) := by
    unfold tOut
    rw [e1, c1, c4, h5, h6, hl, Bool.eq_iff_iff]
    simp only [Bool.or_eq_true, Bool.and_eq_true, decide_eq_true_eq]
    by_cases hc : d < row'
    · simp only [hc, true_or, if_true, true_iff]; omega
    · simp only [hc, false_or, if_false]
      constructor
      · rintro ⟨g1, g2⟩; rw [if_pos g1] at g2; omega
      · intro g; exact ⟨by omega, by rw [if_pos (by omega)]; omega⟩
  have e3 : tTail d e row tail out b = (if (k : Int) - last' ≤ e then e - (k - last') else 0) := by
    unfold tTail
    rw [e1, c1, c2, c4, h5, hl]
    by_cases hc : d < row'
    · simp only [hc, if_true]; rw [if_pos (by omega)]; omega
    · simp only [hc, if_false, decide_eq_true_eq]
      rw [h6]
      by_cases g1 : (k : Int) - 1 - last ≤ e
      · rw [if_pos g1]
        by_cases g2 : 0 < e - ((k : Int) - 1 - last)
        · rw [if_pos ⟨g1, g2⟩, if_pos (by omega)]; omega
        · rw [if_neg (fun h => g2 h.2), if_neg (by omega)]
      · rw [if_neg g1, if_neg (fun h => g1 h.1), if_neg (by omega)]
  refine ⟨e1, e2, ?_, ?_, ?_, ?_, ?_, ?_, ?_⟩
  · rw [hr]; split <;> omega
  · rw [hr]; split <;> omega
  · rw [hl]; split <;> omega
  · rw [hl]; split <;> omega
  · rw [e2, Bool.eq_iff_iff]; simp only [decide_eq_true_eq]; omega
  · rw [e3]; have : ((k + 1 : Nat) : Int) - 1 - last' = k - last' := by omega
    rw [this]
  · rw [hl]; split <;> omega
theorem long_up {d e i : Int} {out : Bool} {tail : Int} (hd : 0 ≤ d ∧ d < 40) (he : 0 ≤ e ∧ e < 40) (hi : 1 ≤ i ∧ i ≤ 200) (h1 : out = decide (d < i - 1)) (h2 : tail = if d < i - 1 then e else 0) :
    tH true (i - 1) = i ∧ tOut d (i - 1) tail out true = decide (d < i) ∧ tTail d e (i - 1) tail out true = if d < i then e else 0 := by
  have c1 : cutT d = d := cutT_id (by omega)
  have c2 : cutT e = e := cutT_id (by omega)
  have c3 : cutT (i - 1) = i - 1 := cutT_id (by omega)
  have ht : 0 ≤ tail ∧ tail ≤ 40 := by rw [h2]; split <;> omega
  have c4 : cutT tail = tail := cutT_id (by omega)
  have e1 : tH true (i - 1) = i := by unfold tH; rw [c3]; simp
  refine ⟨e1, ?_, ?_⟩
  · unfold tOut
    rw [e1, c1, c4, h1, Bool.eq_iff_iff]
    simp only [Bool.or_eq_true, Bool.and_eq_true, decide_eq_true_eq]; omega
  · unfold tTail
    rw [e1, c1, c2, c4, h1]
    by_cases hc : d < i
    · simp only [hc, if_true]
    · simp only [hc, if_false, decide_eq_true_eq]
      rw [if_neg (fun h => by omega)]
theorem long_down {d e i held : Int} {out : Bool} {tail : Int} (hd : 0 ≤ d ∧ d < 40) (he : 0 ≤ e ∧ e < 40) (hi : 1 ≤ i ∧ i ≤ 200) (h1 : out = decide (i - 1 ≤ e)) (h2 : tail = if i - 1 ≤ e then e - (i - 1) else 0) :
    tH false held = 0 ∧ tOut d held tail out false = decide (i ≤ e) ∧ tTail d e held tail out false = if i ≤ e then e - i else 0 := by
  have c1 : cutT d = d := cutT_id (by omega)
  have c2 : cutT e = e := cutT_id (by omega)
  have ht : 0 ≤ tail ∧ tail ≤ 40 := by rw [h2]; split <;> omega
  have c4 : cutT tail = tail := cutT_id (by omega)
  have e1 : tH false held = 0 := rfl
  refine ⟨e1, ?_, ?_⟩
  · unfold tOut
    rw [e1, c1, c4, h1, h2, Bool.eq_iff_iff]
    simp only [Bool.or_eq_true, Bool.and_eq_true, decide_eq_true_eq]
    by_cases g : i - 1 ≤ e
    · rw [if_pos g]; omega
    · rw [if_neg g]; omega
  · unfold tTail
    rw [e1, c1, c2, c4, h1]
    rw [if_neg (by omega)]
    simp only [decide_eq_true_eq]
    rw [h2]
    by_cases g : i - 1 ≤ e
    · rw [if_pos g]
      by_cases g2 : 0 < e - (i - 1)
      · rw [if_pos ⟨g, g2⟩, if_pos (by omega)]; omega
      · rw [if_neg (fun h => g2 h.2), if_neg (by omega)]
    · rw [if_neg g, if_neg (fun h => g h.1), if_neg (by omega)]
/-- The timer in memory. -/
def TimSt (w wr : World) (held tail : Int) (out : Bool) : Prop :=
  Below w.heap.size w wr ∧ LeSize (w.heap.size + 1) wr ∧ wr.frozen? ⟨w.heap.size, 0, none⟩ = false ∧ wr.frozen? ⟨w.heap.size, 1, none⟩ = false ∧ wr.frozen? ⟨w.heap.size, 2, none⟩ = false ∧ (wr.cell? ⟨w.heap.size, 0, none⟩ = some (.int .i64 held) ∧ wr.cell? ⟨w.heap.size, 1, none⟩ = some (.int .i64 tail) ∧ wr.cell? ⟨w.heap.size, 2, none⟩ = some (.bool out))
end Go.Proofs.Ytnljbnbljgmelaa
