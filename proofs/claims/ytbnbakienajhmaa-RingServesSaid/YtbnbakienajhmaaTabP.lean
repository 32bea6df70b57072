/- The contract of Table. -/
import Derived.Test.YtbnbakienajhmaaTabO
import Derived.Test.YtbnbakienajhmaaZeroT
namespace Go.Proofs.Ytbnbakienajhmaa
open Go.RowKit
set_option linter.unusedVariables false
attribute [local go_sem] IsBlk.cell IsBlk.frozen

theorem ph1_succ (zs : List Int) (k : Nat) : fset (ph1 zs k) k (phM zs (10 + 12 * k)) = ph1 zs (k + 1) := by
  funext p; unfold fset ph1
  by_cases h : p = k
  · subst h; rw [if_pos rfl, if_pos (by omega)]
  · rw [if_neg h]
    by_cases h2 : p < k
    · rw [if_pos h2, if_pos (by omega)]
    · rw [if_neg h2, if_neg (by omega)]
theorem fl1_succ (k : Nat) : fset (fl1 k) k 1 = fl1 (k + 1) := by
  funext p; unfold fset fl1
  by_cases h : p = k
  · subst h; rw [if_pos rfl, if_pos (by omega)]
  · rw [if_neg h]
    by_cases h2 : p < k
    · rw [if_pos h2, if_pos (by omega)]
    · rw [if_neg h2, if_neg (by omega)]
theorem tabZero_eq : TabZero = arrF 131 (tabAt tab0 (.slice none 0 0) (.slice none 0 0) (.slice none 0 0) (.slice none 0 0)) := by kernel_rfl
theorem tabAt_gr (t : Tab) (gr : List (List Int × List Int)) (v g d r b : Value) (j : Nat) : tabAt { t with gr := gr } v d r b j = if j = 104 then v else tabAt t g d r b j := by
  unfold tabAt
  by_cases h : j = 104
  · subst h; rfl
  · simp only [if_neg h]
theorem tabAt_flS (t : Tab) (k : Nat) (x : Int) (hk : k < 8) (g d r b : Value) (j : Nat) (hj : j < 131) : tabAt { t with fl := fset t.fl k x } g d r b j = if j = 121 + k then .int .i64 x else tabAt t g d r b j := by
  unfold tabAt fset
  by_cases c0 : j < 104
  · (repeat rw [if_pos c0]); rw [if_neg (show ¬ j = 121 + k by omega)]
  (repeat rw [if_neg c0])
  by_cases c1 : j = 104
  · (repeat rw [if_pos c1]); rw [if_neg (show ¬ j = 121 + k by omega)]
  (repeat rw [if_neg c1])
  by_cases c2 : j < 113
  · (repeat rw [if_pos c2]); rw [if_neg (show ¬ j = 121 + k by omega)]
  (repeat rw [if_neg c2])
  by_cases c3 : j = 113
  · (repeat rw [if_pos c3]); rw [if_neg (show ¬ j = 121 + k by omega)]
  (repeat rw [if_neg c3])
  by_cases c4 : j = 114
  · (repeat rw [if_pos c4]); rw [if_neg (show ¬ j = 121 + k by omega)]
  (repeat rw [if_neg c4])
  by_cases c5 : j = 115
  · (repeat rw [if_pos c5]); rw [if_neg (show ¬ j = 121 + k by omega)]
  (repeat rw [if_neg c5])
  by_cases c6 : j = 116
  · (repeat rw [if_pos c6]); rw [if_neg (show ¬ j = 121 + k by omega)]
  (repeat rw [if_neg c6])
  by_cases c7 : j = 117
  · (repeat rw [if_pos c7]); rw [if_neg (show ¬ j = 121 + k by omega)]
  (repeat rw [if_neg c7])
  by_cases c8 : j = 118
  · (repeat rw [if_pos c8]); rw [if_neg (show ¬ j = 121 + k by omega)]
  (repeat rw [if_neg c8])
  by_cases c9 : j = 119
  · (repeat rw [if_pos c9]); rw [if_neg (show ¬ j = 121 + k by omega)]
  (repeat rw [if_neg c9])
  by_cases c10 : j = 120
  · (repeat rw [if_pos c10]); rw [if_neg (show ¬ j = 121 + k by omega)]
  (repeat rw [if_neg c10])
  by_cases c11 : j < 129
  · (repeat rw [if_pos c11])
    show Value.int .i64 (if j - 121 = k then x else t.fl (j - 121)) = _
    by_cases h : j = 121 + k
    · rw [if_pos h, if_pos (by omega)]
    · rw [if_neg h, if_neg (by omega)]
  (repeat rw [if_neg c11])
  by_cases c12 : j = 129
  · (repeat rw [if_pos c12]); rw [if_neg (show ¬ j = 121 + k by omega)]
  (repeat rw [if_neg c12])
  rw [if_neg (show ¬ j = 121 + k by omega)]
theorem tabAt_cfS (t : Tab) (k : Nat) (x : Int) (hk : k < 8) (g d r b : Value) (j : Nat) (hj : j < 131) : tabAt { t with cf := fset t.cf k x } g d r b j = if j = 105 + k then .int .i64 x else tabAt t g d r b j := by
  unfold tabAt fset
  by_cases c0 : j < 104
  · (repeat rw [if_pos c0]); rw [if_neg (show ¬ j = 105 + k by omega)]
  (repeat rw [if_neg c0])
  by_cases c1 : j = 104
  · (repeat rw [if_pos c1]); rw [if_neg (show ¬ j = 105 + k by omega)]
  (repeat rw [if_neg c1])
  by_cases c2 : j < 113
  · (repeat rw [if_pos c2])
    show Value.int .i64 (if j - 105 = k then x else t.cf (j - 105)) = _
    by_cases h : j = 105 + k
    · rw [if_pos h, if_pos (by omega)]
    · rw [if_neg h, if_neg (by omega)]
  (repeat rw [if_neg c2])
  by_cases c3 : j = 113
  · (repeat rw [if_pos c3]); rw [if_neg (show ¬ j = 105 + k by omega)]
  (repeat rw [if_neg c3])
  by_cases c4 : j = 114
  · (repeat rw [if_pos c4]); rw [if_neg (show ¬ j = 105 + k by omega)]
  (repeat rw [if_neg c4])
  by_cases c5 : j = 115
  · (repeat rw [if_pos c5]); rw [if_neg (show ¬ j = 105 + k by omega)]
  (repeat rw [if_neg c5])
  by_cases c6 : j = 116
  · (repeat rw [if_pos c6]); rw [if_neg (show ¬ j = 105 + k by omega)]
  (repeat rw [if_neg c6])
  by_cases c7 : j = 117
  · (repeat rw [if_pos c7]); rw [if_neg (show ¬ j = 105 + k by omega)]
  (repeat rw [if_neg c7])
  by_cases c8 : j = 118
  · (repeat rw [if_pos c8]); rw [if_neg (show ¬ j = 105 + k by omega)]
  (repeat rw [if_neg c8])
  by_cases c9 : j = 119
  · (repeat rw [if_pos c9]); rw [if_neg (show ¬ j = 105 + k by omega)]
  (repeat rw [if_neg c9])
  by_cases c10 : j = 120
  · (repeat rw [if_pos c10]); rw [if_neg (show ¬ j = 105 + k by omega)]
  (repeat rw [if_neg c10])
  by_cases c11 : j < 129
  · (repeat rw [if_pos c11]); rw [if_neg (show ¬ j = 105 + k by omega)]
  (repeat rw [if_neg c11])
  by_cases c12 : j = 129
  · (repeat rw [if_pos c12]); rw [if_neg (show ¬ j = 105 + k by omega)]
  (repeat rw [if_neg c12])
  rw [if_neg (show ¬ j = 105 + k by omega)]
theorem TB.rows {X w' : World} {b : Nat} {gr : List (List Int × List Int)} (hX : b + 1 = X.heap.size) (h : RowsEnd X w' b TabZero gr) (lg : gr.length ≤ 8) (lr : ∀ i j, (rowOf gr i j).length ≤ 8) :
    ∃ vg, TB X w' b { tab0 with gr := gr } vg (.slice none 0 0) (.slice none 0 0) (.slice none 0 0) := by
  obtain ⟨v, hs, hb, h1, h2⟩ := h.out
  rw [← hX] at h1 h2
  refine ⟨v, ?_, ⟨hs, h1, h2⟩, OwnK.nil _ _, OwnK.nil _ _, OwnK.nil _ _, ⟨lg, lr, by simp [tab0], by simp [tab0], by simp [tab0]⟩, h.below⟩
  rw [hb, tabZero_eq, arrF_set (g := tabAt { tab0 with gr := gr } v (.slice none 0 0) (.slice none 0 0) (.slice none 0 0)) (by omega) fun j _ => tabAt_gr _ _ _ _ _ _ _ _]
theorem rowsGo_lr (zs : List Int) (k : Nat) : ∀ g i j, (rowOf (rowsGo zs k g).2 i j).length ≤ 8
  | 0, i, j => by simp [rowsGo, rowOf]
  | g + 1, i, j => by
    simp only [rowsGo, rowOf]
    rcases Nat.lt_trichotomy i (rowsGo zs k g).2.length with hi | hi | hi
    · rw [List.getElem?_append_left hi]; exact rowsGo_lr zs k g i j
    · subst hi
      rw [List.getElem?_append_right (Nat.le_refl _)]
      simp only [Nat.sub_self, List.getElem?_cons_zero]
      split <;> simp [fillR, fillN] <;> omega
    · rw [List.getElem?_eq_none (by simp; omega)]; simp
theorem TB.world {w X wr : World} {b : Nat} {t : Tab} {vg vd vr vb : Value} (h : TB X wr b t vg vd vr vb) (hX : Below w.heap.size w X) (hb : w.heap.size ≤ b) : Below w.heap.size w wr := hX.trans (h.bel.mono hb)
theorem TB.putP {w0 wr : World} {b p : Nat} {x : Phs} {ph : Nat → Phs} {gr : List (List Int × List Int)} {cf : Nat → Int} {de : List Det} {ra : List Rl} {bu : List Bus} {e0 e1 e2 e3 e4 : Int} {fl : Nat → Int} {wn sh : Int} {vg vd vr vb : Value} (h : TB w0 wr b ⟨ph, gr, cf, de, ra, bu, e0, e1, e2, e3, e4, fl, wn, sh⟩ vg vd vr vb) (hp : p < 8) : TB w0 (wr.setCells b (p * 13) (phC x)) b ⟨fset ph p x, gr, cf, de, ra, bu, e0, e1, e2, e3, e4, fl, wn, sh⟩ vg vd vr vb := h.putPh hp
theorem TB.putFl {w0 wr : World} {b k : Nat} {x : Int} {ph : Nat → Phs} {gr : List (List Int × List Int)} {cf : Nat → Int} {de : List Det} {ra : List Rl} {bu : List Bus} {e0 e1 e2 e3 e4 : Int} {fl : Nat → Int} {wn sh : Int} {vg vd vr vb : Value} (h : TB w0 wr b ⟨ph, gr, cf, de, ra, bu, e0, e1, e2, e3, e4, fl, wn, sh⟩ vg vd vr vb) (hk : k < 8) : TB w0 (wr.setCell ⟨b, 121 + k, none⟩ (.int .i64 x)) b ⟨ph, gr, cf, de, ra, bu, e0, e1, e2, e3, e4, fset fl k x, wn, sh⟩ vg vd vr vb := h.put (by omega) (fun j hj => tabAt_flS ⟨ph, gr, cf, de, ra, bu, e0, e1, e2, e3, e4, fl, wn, sh⟩ k x hk _ _ _ _ j hj) rfl rfl rfl rfl
theorem TB.putCf {w0 wr : World} {b k : Nat} {x : Int} {ph : Nat → Phs} {gr : List (List Int × List Int)} {cf : Nat → Int} {de : List Det} {ra : List Rl} {bu : List Bus} {e0 e1 e2 e3 e4 : Int} {fl : Nat → Int} {wn sh : Int} {vg vd vr vb : Value} (h : TB w0 wr b ⟨ph, gr, cf, de, ra, bu, e0, e1, e2, e3, e4, fl, wn, sh⟩ vg vd vr vb) (hk : k < 8) : TB w0 (wr.setCell ⟨b, 105 + k, none⟩ (.int .i64 x)) b ⟨ph, gr, fset cf k x, de, ra, bu, e0, e1, e2, e3, e4, fl, wn, sh⟩ vg vd vr vb := h.put (by omega) (fun j hj => tabAt_cfS ⟨ph, gr, cf, de, ra, bu, e0, e1, e2, e3, e4, fl, wn, sh⟩ k x hk _ _ _ _ j hj) rfl rfl rfl rfl
theorem TB.putExt {w0 wr : World} {b : Nat} {x : Int} {ph : Nat → Phs} {gr : List (List Int × List Int)} {cf : Nat → Int} {de : List Det} {ra : List Rl} {bu : List Bus} {e0 e1 e2 e3 e4 : Int} {fl : Nat → Int} {wn sh : Int} {vg vd vr vb : Value} (h : TB w0 wr b ⟨ph, gr, cf, de, ra, bu, e0, e1, e2, e3, e4, fl, wn, sh⟩ vg vd vr vb) : TB w0 (wr.setCell ⟨b, 116, none⟩ (.int .i64 x)) b ⟨ph, gr, cf, de, ra, bu, x, e1, e2, e3, e4, fl, wn, sh⟩ vg vd vr vb := by
  refine h.put (by omega) (fun j hj => ?_) rfl rfl rfl rfl
  by_cases h0 : j = 116
  · subst h0; rfl
  rw [if_neg h0]
  unfold tabAt
  by_cases c0 : j < 104
  · (repeat rw [if_pos c0])
  (repeat rw [if_neg c0])
  by_cases c1 : j = 104
  · (repeat rw [if_pos c1])
  (repeat rw [if_neg c1])
  by_cases c2 : j < 113
  · (repeat rw [if_pos c2])
  (repeat rw [if_neg c2])
  by_cases c3 : j = 113
  · (repeat rw [if_pos c3])
  (repeat rw [if_neg c3])
  by_cases c4 : j = 114
  · (repeat rw [if_pos c4])
  (repeat rw [if_neg c4])
  by_cases c5 : j = 115
  · (repeat rw [if_pos c5])
  (repeat rw [if_neg c5])
  (repeat rw [if_neg h0])
theorem TB.putBud {w0 wr : World} {b : Nat} {x : Int} {ph : Nat → Phs} {gr : List (List Int × List Int)} {cf : Nat → Int} {de : List Det} {ra : List Rl} {bu : List Bus} {e0 e1 e2 e3 e4 : Int} {fl : Nat → Int} {wn sh : Int} {vg vd vr vb : Value} (h : TB w0 wr b ⟨ph, gr, cf, de, ra, bu, e0, e1, e2, e3, e4, fl, wn, sh⟩ vg vd vr vb) : TB w0 (wr.setCell ⟨b, 117, none⟩ (.int .i64 x)) b ⟨ph, gr, cf, de, ra, bu, e0, x, e2, e3, e4, fl, wn, sh⟩ vg vd vr vb := by
  refine h.put (by omega) (fun j hj => ?_) rfl rfl rfl rfl
  by_cases h0 : j = 117
  · subst h0; rfl
  rw [if_neg h0]
  unfold tabAt
  by_cases c0 : j < 104
  · (repeat rw [if_pos c0])
  (repeat rw [if_neg c0])
  by_cases c1 : j = 104
  · (repeat rw [if_pos c1])
  (repeat rw [if_neg c1])
  by_cases c2 : j < 113
  · (repeat rw [if_pos c2])
  (repeat rw [if_neg c2])
  by_cases c3 : j = 113
  · (repeat rw [if_pos c3])
  (repeat rw [if_neg c3])
  by_cases c4 : j = 114
  · (repeat rw [if_pos c4])
  (repeat rw [if_neg c4])
  by_cases c5 : j = 115
  · (repeat rw [if_pos c5])
  (repeat rw [if_neg c5])
  by_cases c6 : j = 116
  · (repeat rw [if_pos c6])
  (repeat rw [if_neg c6])
  (repeat rw [if_neg h0])
theorem TB.putStart {w0 wr : World} {b : Nat} {x : Int} {ph : Nat → Phs} {gr : List (List Int × List Int)} {cf : Nat → Int} {de : List Det} {ra : List Rl} {bu : List Bus} {e0 e1 e2 e3 e4 : Int} {fl : Nat → Int} {wn sh : Int} {vg vd vr vb : Value} (h : TB w0 wr b ⟨ph, gr, cf, de, ra, bu, e0, e1, e2, e3, e4, fl, wn, sh⟩ vg vd vr vb) : TB w0 (wr.setCell ⟨b, 118, none⟩ (.int .i64 x)) b ⟨ph, gr, cf, de, ra, bu, e0, e1, x, e3, e4, fl, wn, sh⟩ vg vd vr vb := by
  refine h.put (by omega) (fun j hj => ?_) rfl rfl rfl rfl
  by_cases h0 : j = 118
  · subst h0; rfl
  rw [if_neg h0]
  unfold tabAt
  by_cases c0 : j < 104
  · (repeat rw [if_pos c0])
  (repeat rw [if_neg c0])
  by_cases c1 : j = 104
  · (repeat rw [if_pos c1])
  (repeat rw [if_neg c1])
  by_cases c2 : j < 113
  · (repeat rw [if_pos c2])
  (repeat rw [if_neg c2])
  by_cases c3 : j = 113
  · (repeat rw [if_pos c3])
  (repeat rw [if_neg c3])
  by_cases c4 : j = 114
  · (repeat rw [if_pos c4])
  (repeat rw [if_neg c4])
  by_cases c5 : j = 115
  · (repeat rw [if_pos c5])
  (repeat rw [if_neg c5])
  by_cases c6 : j = 116
  · (repeat rw [if_pos c6])
  (repeat rw [if_neg c6])
  by_cases c7 : j = 117
  · (repeat rw [if_pos c7])
  (repeat rw [if_neg c7])
  (repeat rw [if_neg h0])
theorem TB.putRev {w0 wr : World} {b : Nat} {x : Int} {ph : Nat → Phs} {gr : List (List Int × List Int)} {cf : Nat → Int} {de : List Det} {ra : List Rl} {bu : List Bus} {e0 e1 e2 e3 e4 : Int} {fl : Nat → Int} {wn sh : Int} {vg vd vr vb : Value} (h : TB w0 wr b ⟨ph, gr, cf, de, ra, bu, e0, e1, e2, e3, e4, fl, wn, sh⟩ vg vd vr vb) : TB w0 (wr.setCell ⟨b, 119, none⟩ (.int .i64 x)) b ⟨ph, gr, cf, de, ra, bu, e0, e1, e2, x, e4, fl, wn, sh⟩ vg vd vr vb := by
  refine h.put (by omega) (fun j hj => ?_) rfl rfl rfl rfl
  by_cases h0 : j = 119
  · subst h0; rfl
  rw [if_neg h0]
  unfold tabAt
  by_cases c0 : j < 104
  · (repeat rw [if_pos c0])
  (repeat rw [if_neg c0])
  by_cases c1 : j = 104
  · (repeat rw [if_pos c1])
  (repeat rw [if_neg c1])
  by_cases c2 : j < 113
  · (repeat rw [if_pos c2])
  (repeat rw [if_neg c2])
  by_cases c3 : j = 113
  · (repeat rw [if_pos c3])
  (repeat rw [if_neg c3])
  by_cases c4 : j = 114
  · (repeat rw [if_pos c4])
  (repeat rw [if_neg c4])
  by_cases c5 : j = 115
  · (repeat rw [if_pos c5])
  (repeat rw [if_neg c5])
  by_cases c6 : j = 116
  · (repeat rw [if_pos c6])
  (repeat rw [if_neg c6])
  by_cases c7 : j = 117
  · (repeat rw [if_pos c7])
  (repeat rw [if_neg c7])
  by_cases c8 : j = 118
  · (repeat rw [if_pos c8])
  (repeat rw [if_neg c8])
  (repeat rw [if_neg h0])
theorem TB.putLeast {w0 wr : World} {b : Nat} {x : Int} {ph : Nat → Phs} {gr : List (List Int × List Int)} {cf : Nat → Int} {de : List Det} {ra : List Rl} {bu : List Bus} {e0 e1 e2 e3 e4 : Int} {fl : Nat → Int} {wn sh : Int} {vg vd vr vb : Value} (h : TB w0 wr b ⟨ph, gr, cf, de, ra, bu, e0, e1, e2, e3, e4, fl, wn, sh⟩ vg vd vr vb) : TB w0 (wr.setCell ⟨b, 120, none⟩ (.int .i64 x)) b ⟨ph, gr, cf, de, ra, bu, e0, e1, e2, e3, x, fl, wn, sh⟩ vg vd vr vb := by
  refine h.put (by omega) (fun j hj => ?_) rfl rfl rfl rfl
  by_cases h0 : j = 120
  · subst h0; rfl
  rw [if_neg h0]
  unfold tabAt
  by_cases c0 : j < 104
  · (repeat rw [if_pos c0])
  (repeat rw [if_neg c0])
  by_cases c1 : j = 104
  · (repeat rw [if_pos c1])
  (repeat rw [if_neg c1])
  by_cases c2 : j < 113
  · (repeat rw [if_pos c2])
  (repeat rw [if_neg c2])
  by_cases c3 : j = 113
  · (repeat rw [if_pos c3])
  (repeat rw [if_neg c3])
  by_cases c4 : j = 114
  · (repeat rw [if_pos c4])
  (repeat rw [if_neg c4])
  by_cases c5 : j = 115
  · (repeat rw [if_pos c5])
  (repeat rw [if_neg c5])
  by_cases c6 : j = 116
  · (repeat rw [if_pos c6])
  (repeat rw [if_neg c6])
  by_cases c7 : j = 117
  · (repeat rw [if_pos c7])
  (repeat rw [if_neg c7])
  by_cases c8 : j = 118
  · (repeat rw [if_pos c8])
  (repeat rw [if_neg c8])
  by_cases c9 : j = 119
  · (repeat rw [if_pos c9])
  (repeat rw [if_neg c9])
  (repeat rw [if_neg h0])
theorem TB.putWin {w0 wr : World} {b : Nat} {x : Int} {ph : Nat → Phs} {gr : List (List Int × List Int)} {cf : Nat → Int} {de : List Det} {ra : List Rl} {bu : List Bus} {e0 e1 e2 e3 e4 : Int} {fl : Nat → Int} {wn sh : Int} {vg vd vr vb : Value} (h : TB w0 wr b ⟨ph, gr, cf, de, ra, bu, e0, e1, e2, e3, e4, fl, wn, sh⟩ vg vd vr vb) : TB w0 (wr.setCell ⟨b, 129, none⟩ (.int .i64 x)) b ⟨ph, gr, cf, de, ra, bu, e0, e1, e2, e3, e4, fl, x, sh⟩ vg vd vr vb := by
  refine h.put (by omega) (fun j hj => ?_) rfl rfl rfl rfl
  by_cases h0 : j = 129
  · subst h0; rfl
  rw [if_neg h0]
  unfold tabAt
  by_cases c0 : j < 104
  · (repeat rw [if_pos c0])
  (repeat rw [if_neg c0])
  by_cases c1 : j = 104
  · (repeat rw [if_pos c1])
  (repeat rw [if_neg c1])
  by_cases c2 : j < 113
  · (repeat rw [if_pos c2])
  (repeat rw [if_neg c2])
  by_cases c3 : j = 113
  · (repeat rw [if_pos c3])
  (repeat rw [if_neg c3])
  by_cases c4 : j = 114
  · (repeat rw [if_pos c4])
  (repeat rw [if_neg c4])
  by_cases c5 : j = 115
  · (repeat rw [if_pos c5])
  (repeat rw [if_neg c5])
  by_cases c6 : j = 116
  · (repeat rw [if_pos c6])
  (repeat rw [if_neg c6])
  by_cases c7 : j = 117
  · (repeat rw [if_pos c7])
  (repeat rw [if_neg c7])
  by_cases c8 : j = 118
  · (repeat rw [if_pos c8])
  (repeat rw [if_neg c8])
  by_cases c9 : j = 119
  · (repeat rw [if_pos c9])
  (repeat rw [if_neg c9])
  by_cases c10 : j = 120
  · (repeat rw [if_pos c10])
  (repeat rw [if_neg c10])
  by_cases c11 : j < 129
  · (repeat rw [if_pos c11])
  (repeat rw [if_neg c11])
  (repeat rw [if_neg h0])
theorem TB.putShare {w0 wr : World} {b : Nat} {x : Int} {ph : Nat → Phs} {gr : List (List Int × List Int)} {cf : Nat → Int} {de : List Det} {ra : List Rl} {bu : List Bus} {e0 e1 e2 e3 e4 : Int} {fl : Nat → Int} {wn sh : Int} {vg vd vr vb : Value} (h : TB w0 wr b ⟨ph, gr, cf, de, ra, bu, e0, e1, e2, e3, e4, fl, wn, sh⟩ vg vd vr vb) : TB w0 (wr.setCell ⟨b, 130, none⟩ (.int .i64 x)) b ⟨ph, gr, cf, de, ra, bu, e0, e1, e2, e3, e4, fl, wn, x⟩ vg vd vr vb := by
  refine h.put (by omega) (fun j hj => ?_) rfl rfl rfl rfl
  by_cases h0 : j = 130
  · subst h0; rfl
  rw [if_neg h0]
  unfold tabAt
  by_cases c0 : j < 104
  · (repeat rw [if_pos c0])
  (repeat rw [if_neg c0])
  by_cases c1 : j = 104
  · (repeat rw [if_pos c1])
  (repeat rw [if_neg c1])
  by_cases c2 : j < 113
  · (repeat rw [if_pos c2])
  (repeat rw [if_neg c2])
  by_cases c3 : j = 113
  · (repeat rw [if_pos c3])
  (repeat rw [if_neg c3])
  by_cases c4 : j = 114
  · (repeat rw [if_pos c4])
  (repeat rw [if_neg c4])
  by_cases c5 : j = 115
  · (repeat rw [if_pos c5])
  (repeat rw [if_neg c5])
  by_cases c6 : j = 116
  · (repeat rw [if_pos c6])
  (repeat rw [if_neg c6])
  by_cases c7 : j = 117
  · (repeat rw [if_pos c7])
  (repeat rw [if_neg c7])
  by_cases c8 : j = 118
  · (repeat rw [if_pos c8])
  (repeat rw [if_neg c8])
  by_cases c9 : j = 119
  · (repeat rw [if_pos c9])
  (repeat rw [if_neg c9])
  by_cases c10 : j = 120
  · (repeat rw [if_pos c10])
  (repeat rw [if_neg c10])
  by_cases c11 : j < 129
  · (repeat rw [if_pos c11])
  (repeat rw [if_neg c11])
  by_cases c12 : j = 129
  · (repeat rw [if_pos c12])
  (repeat rw [if_neg c12])
  omega

theorem info_det : (Try.prog.info? 73).map (fun i => (i.zero, i.size, i.bytes)) = some (some (.agg #[.int .i64 0, .float .f64 0, .float .f64 0, .float .f64 0, .float .f64 0, .int .i64 0, .int .i64 0]), 7, 56) := by kernel_rfl
theorem info_rail : (Try.prog.info? 76).map (fun i => (i.zero, i.size, i.bytes)) = some (some (.agg #[.int .i64 0, .int .i64 0, .int .i64 0, .int .i64 0, .int .i64 0, .int .i64 0, .int .i64 0, .int .i64 0, .int .i64 0, .int .i64 0, .int .i64 0]), 11, 88) := by kernel_rfl
theorem info_bus : (Try.prog.info? 79).map (fun i => (i.zero, i.size, i.bytes)) = some (some (.agg #[.int .i64 0, .int .i64 0]), 2, 16) := by kernel_rfl
theorem TB.appDe {w0 wr w1 : World} {b : Nat} {x : Det} {v' : Value} {ph : Nat → Phs} {gr : List (List Int × List Int)} {cf : Nat → Int} {de : List Det} {ra : List Rl} {bu : List Bus} {e0 e1 e2 e3 e4 : Int} {fl : Nat → Int} {wn sh : Int} {vg vd vr vb : Value} (h : TB w0 wr b ⟨ph, gr, cf, de, ra, bu, e0, e1, e2, e3, e4, fl, wn, sh⟩ vg vd vr vb) (hg : wr.grownBy w1 vd.ownBlock) (hn : OwnK 73 7 detC w1 (b + 1) v' (de ++ [x])) (hl : de.length < 64) : TB w0 (w1.setCell ⟨b, 113, none⟩ v') b ⟨ph, gr, cf, de ++ [x], ra, bu, e0, e1, e2, e3, e4, fl, wn, sh⟩ vg v' vr vb := by
  obtain ⟨h1, h2, h3, h4, h5, h6⟩ := h.append h.de hg
  obtain ⟨hs, g1, g2⟩ := h2 (by decide) (by decide)
  have hb := grownBy_set w1 b 113 v'
  have n := h.bd
  refine ⟨?_, ⟨hs, OwnK.kept (C := prC) g1 hb (.inr (OwnK.ne (C := prC) g1 (by omega))), g2.kept hb fun v xs h => .inr (h.ne (by omega))⟩, (hn).kept hb (.inr ((hn).ne (by omega))), ((h4 (by decide))).kept hb (.inr (((h4 (by decide))).ne (by omega))), ((h5 (by decide))).kept hb (.inr (((h5 (by decide))).ne (by omega))), ⟨n.lg, n.lr, by simp only [List.length_append, List.length_cons, List.length_nil]; omega, n.la, n.lb⟩, h6.setCell (p := ⟨b, 113, none⟩) (Nat.le_refl _) _⟩
  rw [heap_set_same h1, arrF_set (g := tabAt ⟨ph, gr, cf, de ++ [x], ra, bu, e0, e1, e2, e3, e4, fl, wn, sh⟩ vg v' vr vb) (by omega) fun j hj => ?_]
  by_cases h0 : j = 113
  · subst h0; rfl
  rw [if_neg h0]
  unfold tabAt
  by_cases c0 : j < 104
  · (repeat rw [if_pos c0])
  (repeat rw [if_neg c0])
  by_cases c1 : j = 104
  · (repeat rw [if_pos c1])
  (repeat rw [if_neg c1])
  by_cases c2 : j < 113
  · (repeat rw [if_pos c2])
  (repeat rw [if_neg c2])
  (repeat rw [if_neg h0])
theorem TB.appRa {w0 wr w1 : World} {b : Nat} {x : Rl} {v' : Value} {ph : Nat → Phs} {gr : List (List Int × List Int)} {cf : Nat → Int} {de : List Det} {ra : List Rl} {bu : List Bus} {e0 e1 e2 e3 e4 : Int} {fl : Nat → Int} {wn sh : Int} {vg vd vr vb : Value} (h : TB w0 wr b ⟨ph, gr, cf, de, ra, bu, e0, e1, e2, e3, e4, fl, wn, sh⟩ vg vd vr vb) (hg : wr.grownBy w1 vr.ownBlock) (hn : OwnK 76 11 rlC w1 (b + 1) v' (ra ++ [x])) (hl : ra.length < 64) : TB w0 (w1.setCell ⟨b, 114, none⟩ v') b ⟨ph, gr, cf, de, ra ++ [x], bu, e0, e1, e2, e3, e4, fl, wn, sh⟩ vg vd v' vb := by
  obtain ⟨h1, h2, h3, h4, h5, h6⟩ := h.append h.ra hg
  obtain ⟨hs, g1, g2⟩ := h2 (by decide) (by decide)
  have hb := grownBy_set w1 b 114 v'
  have n := h.bd
  refine ⟨?_, ⟨hs, OwnK.kept (C := prC) g1 hb (.inr (OwnK.ne (C := prC) g1 (by omega))), g2.kept hb fun v xs h => .inr (h.ne (by omega))⟩, ((h3 (by decide))).kept hb (.inr (((h3 (by decide))).ne (by omega))), (hn).kept hb (.inr ((hn).ne (by omega))), ((h5 (by decide))).kept hb (.inr (((h5 (by decide))).ne (by omega))), ⟨n.lg, n.lr, n.ld, by simp only [List.length_append, List.length_cons, List.length_nil]; omega, n.lb⟩, h6.setCell (p := ⟨b, 114, none⟩) (Nat.le_refl _) _⟩
  rw [heap_set_same h1, arrF_set (g := tabAt ⟨ph, gr, cf, de, ra ++ [x], bu, e0, e1, e2, e3, e4, fl, wn, sh⟩ vg vd v' vb) (by omega) fun j hj => ?_]
  by_cases h0 : j = 114
  · subst h0; rfl
  rw [if_neg h0]
  unfold tabAt
  by_cases c0 : j < 104
  · (repeat rw [if_pos c0])
  (repeat rw [if_neg c0])
  by_cases c1 : j = 104
  · (repeat rw [if_pos c1])
  (repeat rw [if_neg c1])
  by_cases c2 : j < 113
  · (repeat rw [if_pos c2])
  (repeat rw [if_neg c2])
  by_cases c3 : j = 113
  · (repeat rw [if_pos c3])
  (repeat rw [if_neg c3])
  (repeat rw [if_neg h0])
theorem TB.appBu {w0 wr w1 : World} {b : Nat} {x : Bus} {v' : Value} {ph : Nat → Phs} {gr : List (List Int × List Int)} {cf : Nat → Int} {de : List Det} {ra : List Rl} {bu : List Bus} {e0 e1 e2 e3 e4 : Int} {fl : Nat → Int} {wn sh : Int} {vg vd vr vb : Value} (h : TB w0 wr b ⟨ph, gr, cf, de, ra, bu, e0, e1, e2, e3, e4, fl, wn, sh⟩ vg vd vr vb) (hg : wr.grownBy w1 vb.ownBlock) (hn : OwnK 79 2 busC w1 (b + 1) v' (bu ++ [x])) (hl : bu.length < 64) : TB w0 (w1.setCell ⟨b, 115, none⟩ v') b ⟨ph, gr, cf, de, ra, bu ++ [x], e0, e1, e2, e3, e4, fl, wn, sh⟩ vg vd vr v' := by
  obtain ⟨h1, h2, h3, h4, h5, h6⟩ := h.append h.bu hg
  obtain ⟨hs, g1, g2⟩ := h2 (by decide) (by decide)
  have hb := grownBy_set w1 b 115 v'
  have n := h.bd
  refine ⟨?_, ⟨hs, OwnK.kept (C := prC) g1 hb (.inr (OwnK.ne (C := prC) g1 (by omega))), g2.kept hb fun v xs h => .inr (h.ne (by omega))⟩, ((h3 (by decide))).kept hb (.inr (((h3 (by decide))).ne (by omega))), ((h4 (by decide))).kept hb (.inr (((h4 (by decide))).ne (by omega))), (hn).kept hb (.inr ((hn).ne (by omega))), ⟨n.lg, n.lr, n.ld, n.la, by simp only [List.length_append, List.length_cons, List.length_nil]; omega⟩, h6.setCell (p := ⟨b, 115, none⟩) (Nat.le_refl _) _⟩
  rw [heap_set_same h1, arrF_set (g := tabAt ⟨ph, gr, cf, de, ra, bu ++ [x], e0, e1, e2, e3, e4, fl, wn, sh⟩ vg vd vr v') (by omega) fun j hj => ?_]
  by_cases h0 : j = 115
  · subst h0; rfl
  rw [if_neg h0]
  unfold tabAt
  by_cases c0 : j < 104
  · (repeat rw [if_pos c0])
  (repeat rw [if_neg c0])
  by_cases c1 : j = 104
  · (repeat rw [if_pos c1])
  (repeat rw [if_neg c1])
  by_cases c2 : j < 113
  · (repeat rw [if_pos c2])
  (repeat rw [if_neg c2])
  by_cases c3 : j = 113
  · (repeat rw [if_pos c3])
  (repeat rw [if_neg c3])
  by_cases c4 : j = 114
  · (repeat rw [if_pos c4])
  (repeat rw [if_neg c4])
  (repeat rw [if_neg h0])
/-- A store into an earlier block. -/
theorem TB.other {w0 wr : World} {b k i : Nat} {vs : List Value} {t : Tab} {vg vd vr vb : Value} (h : TB w0 wr b t vg vd vr vb) (hk : k < b) : TB (wr.setCells k i vs) (wr.setCells k i vs) b t vg vd vr vb := by
  obtain ⟨hs, h1, h2⟩ := h.gr
  have hg := grownBy_sets wr k i vs
  exact ⟨by rw [heap_sets_other vs i (by omega)]; exact h.blk, ⟨hs, OwnK.kept (C := prC) h1 hg (.inr (OwnK.ne (C := prC) h1 (by omega))), h2.kept hg fun v xs h => .inr (h.ne (by omega))⟩, h.de.kept hg (.inr (h.de.ne (by omega))), h.ra.kept hg (.inr (h.ra.ne (by omega))), h.bu.kept hg (.inr (h.bu.ne (by omega))), h.bd, Below.refl _ _⟩
theorem deM_succ (zs : List Int) (n k m : Nat) : deM zs n k (m + 1) = deM zs n k m ++ [detM zs (180 + 8 * (k - m)) n] := by unfold deM; rw [List.range_succ, List.map_append]; rfl
theorem raM_succ (gr : List (List Int × List Int)) (zs : List Int) (n k m : Nat) : raM gr zs n k (m + 1) = raM gr zs n k m ++ [rlM gr zs (260 + 16 * (k - m)) n] := by unfold raM; rw [List.range_succ, List.map_append]; rfl
theorem buM_succ (zs : List Int) (n k m : Nat) : buM zs n k (m + 1) = buM zs n k m ++ [buX zs n (k - m)] := by unfold buM; rw [List.range_succ, List.map_append]; rfl
theorem deM_len (zs : List Int) (n k m : Nat) : (deM zs n k m).length = m := by simp [deM]
theorem raM_len (gr : List (List Int × List Int)) (zs : List Int) (n k m : Nat) : (raM gr zs n k m).length = m := by simp [raM]
theorem buM_len (zs : List Int) (n k m : Nat) : (buM zs n k m).length = m := by simp [buM]
theorem arrF_all {n : Nat} {f : Nat → Value} {p : Value → Bool} (h : ∀ i, i < n → p (f i) = true) : (arrF n f).all p = true := by
  rw [Array.all_eq_true]
  intro i hi
  have e : (arrF n f)[i] = f i := Option.some.inj ((Array.getElem?_eq_getElem hi).symm.trans (arrF_get n f i (by rw [arrF_size] at hi; exact hi)))
  rw [e]
  exact h i (by rw [arrF_size] at hi; exact hi)
theorem tab_one (t : Tab) (vg vd vr vb : Value) (h1 : vg.oneCell' = true) (h2 : vd.oneCell' = true) (h3 : vr.oneCell' = true) (h4 : vb.oneCell' = true) : (arrF 131 (tabAt t vg vd vr vb)).all (·.oneCell') = true := by
  refine arrF_all fun i hi => ?_
  unfold tabAt
  by_cases c : i < 104
  · rw [if_pos c]
    have : i % 13 < 13 := Nat.mod_lt _ (by omega)
    generalize i % 13 = j at *
    rcases (show j = 0 ∨ j = 1 ∨ j = 2 ∨ j = 3 ∨ j = 4 ∨ j = 5 ∨ j = 6 ∨ j = 7 ∨ j = 8 ∨ j = 9 ∨ j = 10 ∨ j = 11 ∨ j = 12 by omega) with rfl | rfl | rfl | rfl | rfl | rfl | rfl | rfl | rfl | rfl | rfl | rfl | rfl <;> rfl
  rw [if_neg c]
  by_cases c0 : i = 104
  · rw [if_pos c0]; exact h1
  rw [if_neg c0]
  by_cases c1 : i < 113
  · rw [if_pos c1]; rfl
  rw [if_neg c1]
  by_cases c2 : i = 113
  · rw [if_pos c2]; exact h2
  rw [if_neg c2]
  by_cases c3 : i = 114
  · rw [if_pos c3]; exact h3
  rw [if_neg c3]
  by_cases c4 : i = 115
  · rw [if_pos c4]; exact h4
  rw [if_neg c4]
  by_cases c5 : i = 116
  · rw [if_pos c5]; rfl
  rw [if_neg c5]
  by_cases c6 : i = 117
  · rw [if_pos c6]; rfl
  rw [if_neg c6]
  by_cases c7 : i = 118
  · rw [if_pos c7]; rfl
  rw [if_neg c7]
  by_cases c8 : i = 119
  · rw [if_pos c8]; rfl
  rw [if_neg c8]
  by_cases c9 : i = 120
  · rw [if_pos c9]; rfl
  rw [if_neg c9]
  by_cases c10 : i < 129
  · rw [if_pos c10]; rfl
  rw [if_neg c10]
  by_cases c11 : i = 129
  · rw [if_pos c11]; rfl
  rw [if_neg c11]
  rfl
theorem waitZ_win (ph : Nat → Phs) (gr : List (List Int × List Int)) (cf : Nat → Int) (de : List Det) (ra : List Rl) (bu : List Bus) (e0 e1 e2 e3 e4 : Int) (fl : Nat → Int) (wn sh p : Int) (T : Tab) (hT : (⟨ph, gr, cf, de, ra, bu, e0, e1, e2, e3, e4, fl, 0, sh⟩ : Tab) = T) :
    waitZ ⟨ph, gr, cf, de, ra, bu, e0, e1, e2, e3, e4, fl, wn, sh⟩ p = waitZ T p := by subst hT; rfl
theorem spl_all {Z C : Array Value} (h : C.size = Z.size) : spl Z 0 C.toList = C := by
  apply Array.ext_getElem?
  intro i
  rw [spl_get]
  by_cases hi : i < Z.size
  · rw [if_pos ⟨Nat.zero_le _, by simp; omega, hi⟩]; simp
  · rw [if_neg (by omega), Array.getElem?_eq_none (by omega), Array.getElem?_eq_none (by omega)]
end Go.Proofs.Ytbnbakienajhmaa
