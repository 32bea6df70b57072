/- Part Qq of the proof: SmpA, SmpB. -/
import Derived.Test.YtodgfjgljcinlaaGreatQg
import Derived.Test.YtodgfjgljcinlaaGreatQc
import Derived.Deep.DeepCutAuto
namespace Go.Proofs.YtodgfjgljcinlaaGreat
set_option maxHeartbeats 8000000
set_option maxRecDepth 100000
set_option linter.unusedVariables false
section
open Go.RowKit
def aI (p : Nat) : Phs := ⟨true, 50, 20, 200, 300, 50, 35, 10, if p % 2 = 1 then 70 else 0, if p % 2 = 1 then 80 else 0, if p % 4 = 1 then 1 else 0, true, false⟩
def aR (p : Nat) : Int := if p % 4 = 1 then 2 else 1
def aZ (p : Nat) : Det := ⟨p, 4621819117588971520, 4617315517961601024, 0, 4602678819172646912, 6000, 0⟩
def iq (p q : Nat) : Bool := q != p && (q / 2 % 2 != p / 2 % 2 || q / 4 == p / 4)
def aw (p : Nat) : Nat → Int
 | 0 => 0
 | q + 1 => if iq p q = true then bits .or .i64 (aw p q) (2 ^ q) else aw p q
def xQ : Rl := ⟨204, 136, 34, 68, 5, 20, 30, 100, 100, 3000, 4000⟩
def bZ : List (List Int × List Int) := [([0, 1], [4, 5]), ([2, 3], [6, 7])]
def cn : List Int := [100, 200, 60, 20, 100]
def nT (n : Nat) : Tab := af ((List.range n).map aI) bZ ((List.range n).map fun p => aw p 8) ((List.range n).map aZ) [] [] cn ((List.range n).map aR) 8640000 600
def bR : Tab := af ((List.range 8).map aI) bZ ((List.range 8).map fun p => aw p 8) ((List.range 8).map aZ) [xQ] [⟨34, 600⟩] cn ((List.range 8).map aR) 8640000 600
theorem bw {α : Type} (f : Nat → α) (n : Nat) : (List.range (n + 1)).map f = (List.range n).map f ++ [f n] := by rw [List.range_succ, List.map_append]; rfl
theorem jV {α : Type} (d : α) (l : List α) (x y : α) : dT (fun i => (l ++ [y]).getD i d) l.length x = fun i => (l ++ [x]).getD i d := by
 funext i
 unfold dT
 rcases Nat.lt_trichotomy i l.length with h | h | h
 ·rw [if_neg (by omega)]; show (l ++ [y]).getD i d = _; rw [List.getD_eq_getElem?_getD, List.getD_eq_getElem?_getD, List.getElem?_append_left h, List.getElem?_append_left h]
 ·subst h; rw [if_pos rfl, List.getD_eq_getElem?_getD, List.getElem?_append_right (Nat.le_refl _)]; simp
 ·rw [if_neg (by omega)]
  simp [List.getD, List.getElem?_eq_none (show (l ++ [y]).length ≤ i by simp; omega), List.getElem?_eq_none (show (l ++ [x]).length ≤ i by simp; omega)]
theorem qq (l : List Int) : (fun i => (l ++ [0]).getD i 0) = fun i => l.getD i 0 := by
 funext i
 rcases Nat.lt_trichotomy i l.length with h | h | h
 ·simp only [List.getD_eq_getElem?_getD, List.getElem?_append_left h]
 ·subst h; simp [List.getD]
 ·simp [List.getD, List.getElem?_eq_none (show l.length ≤ i by omega), List.getElem?_eq_none (show (l ++ [(0 : Int)]).length ≤ i by simp; omega)]
theorem TB.rFl2 {w0 wr : World} {b : Nat} {ps : List Phs} {x y : Int} {gr : List (List Int × List Int)} {cf : List Int} {de : List Det} {ra : List Rl} {bu : List Bus} {ts fl : List Int} {wn sh : Int} {vg vd vr vb : Value} (h : TB w0 wr b (af ps gr cf de ra bu ts (fl ++ [y]) wn sh) vg vd vr vb) (hp : fl.length < 8) :
  TB w0 (wr.setCell ⟨b, 121 + fl.length, none⟩ (.int .i64 x)) b (af ps gr cf de ra bu ts (fl ++ [x]) wn sh) vg vd vr vb := by
 have h2 := TB.putFl (x := x) (k := fl.length) h hp
 rw [jV] at h2
 exact h2
theorem TB.rCf2 {w0 wr : World} {b : Nat} {ps : List Phs} {x y : Int} {gr : List (List Int × List Int)} {cf : List Int} {de : List Det} {ra : List Rl} {bu : List Bus} {ts fl : List Int} {wn sh : Int} {vg vd vr vb : Value} (h : TB w0 wr b (af ps gr (cf ++ [y]) de ra bu ts fl wn sh) vg vd vr vb) (hp : cf.length < 8) :
  TB w0 (wr.setCell ⟨b, 105 + cf.length, none⟩ (.int .i64 x)) b (af ps gr (cf ++ [x]) de ra bu ts fl wn sh) vg vd vr vb := by
 have h2 := TB.putCf (x := x) (k := cf.length) h hp
 rw [jV] at h2
 exact h2
theorem TB.cf0 {w0 wr : World} {b : Nat} {ps : List Phs} {gr : List (List Int × List Int)} {cf : List Int} {de : List Det} {ra : List Rl} {bu : List Bus} {ts fl : List Int} {wn sh : Int} {vg vd vr vb : Value} (h : TB w0 wr b (af ps gr cf de ra bu ts fl wn sh) vg vd vr vb) : TB w0 wr b (af ps gr (cf ++ [0]) de ra bu ts fl wn sh) vg vd vr vb := by
 have e : af ps gr (cf ++ [0]) de ra bu ts fl wn sh = af ps gr cf de ra bu ts fl wn sh := by unfold af; rw [qq]
 rw [e]; exact h
def qF : Array Value := aS 131 (ah (af [] [] [] [] [] [] cn [] 8640000 600) (.slice none 0 0) (.slice none 0 0) (.slice none 0 0) (.slice none 0 0))
theorem oz : Tryz.prog.built 34 [(6, .int .i64 100), (7, .int .i64 200), (8, .int .i64 60), (9, .int .i64 20), (10, .int .i64 100), (12, .int .i64 8640000), (13, .int .i64 600)] = some qF := by kernel_rfl
theorem uC {X wr : World} {b : Nat} {g : Nat} {t1 t2 t3 t4 tp : TypeId} (hb : b + 1 ≤ g) (e1 : wr.heap[g]? = some (.cells #[.int .i64 0, .int .i64 1] 3)) (e2 : wr.heap[g + 1]? = some (.cells #[.int .i64 4, .int .i64 5] 3)) (e3 : wr.heap[g + 2]? = some (.cells #[.int .i64 2, .int .i64 3] 3)) (e4 : wr.heap[g + 3]? = some (.cells #[.int .i64 6, .int .i64 7] 3))
  (e5 : wr.heap[g + 4]? = some (.cells #[.slice (some ⟨g, 0, none⟩) 2 2, .slice (some ⟨g + 1, 0, none⟩) 2 2, .slice (some ⟨g + 2, 0, none⟩) 2 2, .slice (some ⟨g + 3, 0, none⟩) 2 2] 60)) :
  ∃ hs, ew wr (b + 1) (.slice (some ⟨g + 4, 0, none⟩) 2 2) hs ∧ bK wr (b + 1) hs bZ := by
 have own : ∀ (k : Nat) (x y : Int), b + 1 ≤ k → wr.heap[k]? = some (.cells #[.int .i64 x, .int .i64 y] 3) → ae wr (b + 1) (.slice (some ⟨k, 0, none⟩) 2 2) [x, y] := fun k x y hk he => ⟨rfl, .inr ⟨k, 2, _, rfl, hk, he, Nat.le_refl _, by unfold maxLen; omega, rfl, rfl⟩⟩
 refine ⟨[(.slice (some ⟨g, 0, none⟩) 2 2, .slice (some ⟨g + 1, 0, none⟩) 2 2), (.slice (some ⟨g + 2, 0, none⟩) 2 2, .slice (some ⟨g + 3, 0, none⟩) 2 2)], ⟨rfl, .inr ⟨g + 4, 2, _, rfl, by omega, e5, Nat.le_refl _, by unfold maxLen; omega, rfl, rfl⟩⟩, rfl, fun i h x hh hx => ?_⟩
 match i with
 | 0 => simp [bZ] at hh hx; subst hh hx; exact ⟨own _ _ _ (by omega) e1, own _ _ _ (by omega) e2⟩
 | 1 => simp [bZ] at hh hx; subst hh hx; exact ⟨own _ _ _ (by omega) e3, own _ _ _ (by omega) e4⟩
 | i + 2 => simp at hh
end
section
open Go.RowKit
attribute [local go_sem] IsBlk.cell IsBlk.frozen
theorem i3 {ops : Array Oper} {rest : List Oper} {op : Oper} {a : Act} {w : World} {Q : Exit → Act → World → Prop} (hgd : op.guard = none)
  (ho : op.op = .build 34 #[(6, .const (.int .i64 100)), (7, .const (.int .i64 200)), (8, .const (.int .i64 60)), (9, .const (.int .i64 20)), (10, .const (.int .i64 100)), (12, .const (.int .i64 8640000)), (13, .const (.int .i64 600))])
  (h : ∀ C, C = qF → wpList Tryz.prog ops Q rest (a.put op.dst (.agg C)) w) : wpList Tryz.prog ops Q (op :: rest) a w := by
 have e : Sem.run Tryz.prog (execOp a.eval op) w = .ok (.value (.agg qF)) w := by
  unfold execOp
  have he : ∀ v, a.eval (.const v) = v := fun _ => rfl
  simp only [ho, List.map_toArray, List.map_cons, List.map_nil, he]
  rw [Sem.run_bind, run_build (P := Tryz.prog) w 34 #[(6, .int .i64 100), (7, .int .i64 200), (8, .int .i64 60), (9, .int .i64 20), (10, .int .i64 100), (12, .int .i64 8640000), (13, .int .i64 600)] _ oz]
  rfl
 refine wpList_plain hgd fun _ hK => ?_
 unfold Oper.wp
 rw [e]
 exact hK _ _ (h _ rfl)
theorem kH : qF.size = 131 := aE _ _
theorem tg : qF.all (·.oneCell') = true := by kernel_rfl
structure SmW (w wr : World) (b : Nat) (t : Tab) (vg vd : Value) : Prop where
 tb : TB wr wr b t vg vd (.slice none 0 0) (.slice none 0 0)
 iZ : IsBlk wr w.heap.size aj 34
 bel : Below w.heap.size w wr
section
variable {w wr w1 w' : World} {b i : Nat} {t t' : Tab} {vg vd vg' vd' v : Value}
theorem SmW.below (h : SmW w wr b t vg vd) (hb : Below wr.heap.size wr w') : SmW w w' b t vg vd :=
 ⟨(h.tb.below hb).base, ⟨by rw [hb.block _ (Array.getElem?_eq_some_iff.1 h.iZ.out).1]; exact h.iZ.out⟩, h.bel.trans (hb.mono h.bel.size)⟩
theorem SmW.put (h : SmW w wr b t vg vd) (hb : w.heap.size < b) (ht : TB wr (wr.setCell ⟨b, i, none⟩ v) b t' vg' vd' (.slice none 0 0) (.slice none 0 0)) : SmW w (wr.setCell ⟨b, i, none⟩ v) b t' vg' vd' :=
 ⟨ht.base, ⟨by rw [Below.heap_setCell _ _ _ _ (by show w.heap.size ≠ b; omega)]; exact h.iZ.out⟩, h.bel.setCell (p := ⟨b, i, none⟩) (by show w.heap.size ≤ b; omega) _⟩
theorem SmW.puts {vs : List Value} (h : SmW w wr b t vg vd) (hb : w.heap.size < b) (ht : TB wr (wr.setCells b i vs) b t' vg' vd' (.slice none 0 0) (.slice none 0 0)) : SmW w (wr.setCells b i vs) b t' vg' vd' :=
 ⟨ht.base, ⟨by rw [ar _ _ (by omega)]; exact h.iZ.out⟩, al _ _ h.bel (by omega)⟩
theorem SmW.grow {row : Option Nat} (h : SmW w wr b t vg vd) (hb : w.heap.size < b) (hg : wr.grownBy w1 row) (hrow : ∀ k, row = some k → b + 1 ≤ k) (ht : TB wr (w1.setCell ⟨b, i, none⟩ v) b t' vg' vd' (.slice none 0 0) (.slice none 0 0)) : SmW w (w1.setCell ⟨b, i, none⟩ v) b t' vg' vd' :=
 ⟨ht.base, ⟨by rw [Below.heap_setCell _ _ _ _ (by show w.heap.size ≠ b; omega), hg.block _ (Array.getElem?_eq_some_iff.1 h.iZ.out).1 (fun e => by have := hrow _ e.symm; omega)]; exact h.iZ.out⟩, (h.bel.grown hg h.bel.size (fun k hk => by have := hrow k hk; omega)).setCell (p := ⟨b, i, none⟩) (by show w.heap.size ≤ b; omega) _⟩
end
theorem gj (t : Tab) (g d r b : Value) : ah t g d r b 113 = d := rfl
theorem Kp.sets {WB : Nat} {W : World} (i : Nat) (vs : List Value) : Kp WB W (W.setCells WB i vs) := ⟨by rw [aY]; exact Nat.le_refl _, fun j h1 _ => ar _ _ h1, fun B w0 hB hb => al _ _ hb hB⟩
theorem SmW.of {w wr w' : World} {b : Nat} {t t' : Tab} {vg vd : Value} (h : SmW w wr b t vg vd) (hb : w.heap.size < b) (k : Kp b wr w') (hk : w'.heap[b]? = some (.cells (aS 131 (ah t' vg vd (.slice none 0 0) (.slice none 0 0))) 34)) (e1 : t'.gr = t.gr) (e2 : t'.de = t.de) (e3 : t'.ra = t.ra) (e4 : t'.bu = t.bu) : SmW w w' b t' vg vd := by
 obtain ⟨hs, h1, h2⟩ := h.tb.gr
 have n := h.tb.bd
 refine ⟨⟨hk, ⟨hs, aD.kp (C := fI) h1 k (by omega), by rw [e1]; exact h2.kp k (by omega)⟩, by rw [e2]; exact h.tb.de.kp k (by omega), by rw [e3]; exact h.tb.ra.kp k (by omega), by rw [e4]; exact h.tb.bu.kp k (by omega), ⟨by rw [e1]; exact n.lg, by rw [e1]; exact n.lr, by rw [e2]; exact n.ld, by rw [e3]; exact n.la, by rw [e4]; exact n.lb⟩, Below.refl _ _⟩, ⟨by rw [k.same _ (by omega) (Array.getElem?_eq_some_iff.1 h.iZ.out).1]; exact h.iZ.out⟩, k.bel _ _ (by omega) h.bel⟩
theorem SmW.cf0 {w wr : World} {b : Nat} {ps : List Phs} {gr : List (List Int × List Int)} {cf : List Int} {de : List Det} {ra : List Rl} {bu : List Bus} {ts fl : List Int} {wn sh : Int} {vg vd : Value} (h : SmW w wr b (af ps gr cf de ra bu ts fl wn sh) vg vd) : SmW w wr b (af ps gr (cf ++ [0]) de ra bu ts fl wn sh) vg vd := ⟨h.tb.cf0, h.iZ, h.bel⟩
theorem jk (l : List Int) (x : Int) : (l ++ [x]).getD l.length 0 = x := by simp [List.getD]
theorem tm (t : Tab) (g d r b v : Value) (j : Nat) : ah t g d v b j = if j = 114 then v else ah t g d r b j := by
 by_cases h : j = 114
 ·subst h; rfl
 ·rw [if_neg h]; unfold ah; simp only [if_neg h]
theorem sW (t : Tab) (g d r b v : Value) (j : Nat) : ah t g d r v j = if j = 115 then v else ah t g d r b j := by
 by_cases h : j = 115
 ·subst h; rfl
 ·rw [if_neg h]; unfold ah; simp only [if_neg h]
theorem SmW.fin {w wr w' : World} {b g1 g2 : Nat} {vg vd : Value} (h : SmW w wr b (nT 8) vg vd) (hb : w.heap.size < b) (k : Kp b wr w') (hg1 : b + 1 ≤ g1) (vV : b + 1 ≤ g2)
  (hk : w'.heap[b]? = some (.cells (((aS 131 (ah (nT 8) vg vd (.slice none 0 0) (.slice none 0 0))).setIfInBounds 114 (.slice (some ⟨g1, 0, none⟩) 1 1)).setIfInBounds 115 (.slice (some ⟨g2, 0, none⟩) 1 1)) 34))
  (h1 : w'.heap[g1]? = some (.cells #[.int .i64 204, .int .i64 136, .int .i64 34, .int .i64 68, .int .i64 5, .int .i64 20, .int .i64 30, .int .i64 100, .int .i64 100, .int .i64 3000, .int .i64 4000] 100))
  (h2 : w'.heap[g2]? = some (.cells #[.int .i64 34, .int .i64 600] 110)) :
  TB w' w' b bR vg vd (.slice (some ⟨g1, 0, none⟩) 1 1) (.slice (some ⟨g2, 0, none⟩) 1 1) := by
 obtain ⟨hs, o1, o2⟩ := h.tb.gr
 have n := h.tb.bd
 refine ⟨?_, ⟨hs, aD.kp (C := fI) o1 k (by omega), o2.kp k (by omega)⟩, h.tb.de.kp k (by omega), ⟨rfl, .inr ⟨g1, 1, _, rfl, hg1, h1, Nat.le_refl _, by unfold maxLen; omega, rfl, rfl⟩⟩, ⟨rfl, .inr ⟨g2, 1, _, rfl, vV, h2, Nat.le_refl _, by unfold maxLen; omega, rfl, rfl⟩⟩, ⟨n.lg, n.lr, n.ld, by simp [bR, af], by simp [bR, af]⟩, Below.refl _ _⟩
 rw [hk, cW (g := ah bR vg vd (.slice (some ⟨g1, 0, none⟩) 1 1) (.slice none 0 0)) (by omega) (fun j _ => tm (nT 8) vg vd (.slice none 0 0) (.slice none 0 0) _ j), cW (g := ah bR vg vd (.slice (some ⟨g1, 0, none⟩) 1 1) (.slice (some ⟨g2, 0, none⟩) 1 1)) (by omega) (fun j _ => sW bR vg vd _ (.slice none 0 0) _ j)]
theorem ut (n : Int) (h : -9223372036854775808 ≤ n ∧ n ≤ 9223372036854775807) : wrap64 n = n := by unfold wrap64; omega
theorem act (w : World) : Calls Tryz.prog 27 #[] w fun e w' => ∃ T, e = .returned (.agg T) ∧ ag w' T bR ∧ Below w.heap.size w w' := by
  have z := lM
  have HZ : Hid (aj.size = 131) := Lib.hid rfl
  go_enter Tryz.func27, Tryz.ntmps27
  go_upto_region 2 with (first | (refine i3 rfl rfl (fun C hC => ?_); have HC := Lib.hid hC; clear hC; go_simp) | (refine cT (T := C) 34 rfl rfl rfl rfl inferInstance (by rw [HC.out, kH]; rfl) (by rw [HC.out, kH]; exact du) (by rw [HC.out]; exact tg) ?_; go_simp))
  obtain ⟨V, hV⟩ : ∃ V, C[104]? = some V := ⟨_, by rw [HC.out]; exact ab _ _ _ (by decide)⟩
  go_wp2
  have hW : ∀ o, SmW w (((((((w.alloc (.cells aj 34)).alloc (.cells (C.setIfInBounds 104 (.slice (some ⟨w.heap.size + 1 + 1 + 1 + 1 + 1 + 1, 0, none⟩) 2 2)) 34)).alloc (.cells #[.int .i64 0, .int .i64 1] 3)).alloc (.cells #[.int .i64 4, .int .i64 5] 3)).alloc (.cells #[.int .i64 2, .int .i64 3] 3)).alloc (.cells #[.int .i64 6, .int .i64 7] 3)).alloc o) (w.heap.size + 1) (nT 0) (.slice (some ⟨w.heap.size + 1 + 1 + 1 + 1 + 1 + 1, 0, none⟩) 2 2) (.slice none 0 0) ∨ o ≠ .cells #[.slice (some ⟨w.heap.size + 1 + 1, 0, none⟩) 2 2, .slice (some ⟨w.heap.size + 1 + 1 + 1, 0, none⟩) 2 2, .slice (some ⟨w.heap.size + 1 + 1 + 1 + 1, 0, none⟩) 2 2, .slice (some ⟨w.heap.size + 1 + 1 + 1 + 1 + 1, 0, none⟩) 2 2] 60 := fun o => by
    by_cases ho : o = .cells #[.slice (some ⟨w.heap.size + 1 + 1, 0, none⟩) 2 2, .slice (some ⟨w.heap.size + 1 + 1 + 1, 0, none⟩) 2 2, .slice (some ⟨w.heap.size + 1 + 1 + 1 + 1, 0, none⟩) 2 2, .slice (some ⟨w.heap.size + 1 + 1 + 1 + 1 + 1, 0, none⟩) 2 2] 60
    · left
      subst ho
      refine ⟨⟨?_, uC (X := w) (g := w.heap.size + 1 + 1) (t1 := 0) (t2 := 0) (t3 := 0) (t4 := 0) (tp := 0) (Nat.le_refl _) (inferInstance : IsBlk _ _ _ _).out (inferInstance : IsBlk _ _ _ _).out (inferInstance : IsBlk _ _ _ _).out (inferInstance : IsBlk _ _ _ _).out (inferInstance : IsBlk _ _ _ _).out, aD.nil _ _, aD.nil _ _, aD.nil _ _, ⟨by simp [nT, af, bZ], fun i j => ?_, by simp [nT, af], by simp [nT, af], by simp [nT, af]⟩, Below.refl _ _⟩, inferInstance, by exact yd⟩
      · have h1 := (inferInstance : IsBlk (((((((w.alloc (.cells aj 34)).alloc (.cells (C.setIfInBounds 104 (.slice (some ⟨w.heap.size + 1 + 1 + 1 + 1 + 1 + 1, 0, none⟩) 2 2)) 34)).alloc (.cells #[.int .i64 0, .int .i64 1] 3)).alloc (.cells #[.int .i64 4, .int .i64 5] 3)).alloc (.cells #[.int .i64 2, .int .i64 3] 3)).alloc (.cells #[.int .i64 6, .int .i64 7] 3)).alloc (.cells #[.slice (some ⟨w.heap.size + 1 + 1, 0, none⟩) 2 2, .slice (some ⟨w.heap.size + 1 + 1 + 1, 0, none⟩) 2 2, .slice (some ⟨w.heap.size + 1 + 1 + 1 + 1, 0, none⟩) 2 2, .slice (some ⟨w.heap.size + 1 + 1 + 1 + 1 + 1, 0, none⟩) 2 2] 60)) (w.heap.size + 1) _ _).out
        rw [h1, HC.out]
        unfold qF
        rw [cW (g := ah (nT 0) (.slice (some ⟨w.heap.size + 1 + 1 + 1 + 1 + 1 + 1, 0, none⟩) 2 2) (.slice none 0 0) (.slice none 0 0) (.slice none 0 0)) (by omega) fun j _ => nu (af [] [] [] [] [] [] cn [] 8640000 600) bZ _ _ _ _ _ j]
      · show (ak bZ i j).length ≤ 8
        unfold ak bZ
        match i with
        | 0 => simp; split <;> simp
        | 1 => simp; split <;> simp
        | i + 2 => simp
    · exact .inr ho
  have hW0 := (hW (.cells #[.slice (some ⟨w.heap.size + 1 + 1, 0, none⟩) 2 2, .slice (some ⟨w.heap.size + 1 + 1 + 1, 0, none⟩) 2 2, .slice (some ⟨w.heap.size + 1 + 1 + 1 + 1, 0, none⟩) 2 2, .slice (some ⟨w.heap.size + 1 + 1 + 1 + 1 + 1, 0, none⟩) 2 2] 60)).resolve_right (fun h => h rfl)
  clear hW
  generalize (((((((w.alloc (.cells aj 34)).alloc (.cells (C.setIfInBounds 104 (.slice (some ⟨w.heap.size + 1 + 1 + 1 + 1 + 1 + 1, 0, none⟩) 2 2)) 34)).alloc (.cells #[.int .i64 0, .int .i64 1] 3)).alloc (.cells #[.int .i64 4, .int .i64 5] 3)).alloc (.cells #[.int .i64 2, .int .i64 3] 3)).alloc (.cells #[.int .i64 6, .int .i64 7] 3)).alloc (.cells #[.slice (some ⟨w.heap.size + 1 + 1, 0, none⟩) 2 2, .slice (some ⟨w.heap.size + 1 + 1 + 1, 0, none⟩) 2 2, .slice (some ⟨w.heap.size + 1 + 1 + 1 + 1, 0, none⟩) 2 2, .slice (some ⟨w.heap.size + 1 + 1 + 1 + 1 + 1, 0, none⟩) 2 2] 60)) = W1 at *
  have hbW : w.heap.size < w.heap.size + 1 := Nat.lt_succ_self _
  generalize hbb : w.heap.size + 1 = b at *
  generalize hvg : (Value.slice (some ⟨b + 1 + 1 + 1 + 1 + 1, 0, none⟩) 2 2) = vg at *
  clear hV HC hvg
  go_loopw [14] (fun i wr => ∃ (j : Nat) (k : Int) (vd : Value), j ≤ 8 ∧ Hid (k = j) ∧ i = .int .i64 k ∧ SmW w wr b (nT j) vg vd) (fun i _ => 8 - (intOf i).toNat)
  case atStart => exact ⟨0, 0, _, by omega, Lib.hid rfl, rfl, hW0⟩
  case round =>
    clear hW0
    obtain ⟨j, k, vd, hj, HK, rfl, hW⟩ := hrel
    have lX := hW.tb.lt
    have lw := hW.bel.size
    by_cases hj8 : j < 8
    · obtain rfl := HK.out
      clear HK
      have hjI : (j : Int) < 8 := by omega
      have hlp : ((List.range j).map aI).length = j := by simp
      have hlf : ((List.range j).map aR).length = j := by simp
      have hld : ((List.range j).map aZ).length = j := by simp
      have hlc : ((List.range j).map fun p => aw p 8).length = j := by simp
      have hU1 := TB.rFl (x := 1) hW.tb (by omega)
      have hU2 := TB.rFl2 (x := 2) hU1 (by omega)
      have hUA := (TB.rPh (x := aI j) (TB.base hU1) (by omega)).blk
      have hUB := (TB.rPh (x := aI j) (TB.base hU2) (by omega)).blk
      rw [hlp, hlf] at hUA hUB
      have hWW := Lib.hid hW
      haveI iB : IsBlk wr b _ _ := ⟨hW.tb.blk⟩
      obtain ⟨C, hC⟩ : ∃ C, aS 131 (ah (nT j) vg vd (.slice none 0 0) (.slice none 0 0)) = C := ⟨_, rfl⟩
      have hCS : Hid (C.size = 131) := Lib.hid (by rw [← hC]; exact aE _ _)
      rw [hC] at iB
      have hEA : Hid (kk (C.setIfInBounds (121 + j) (.int .i64 1)) (j * 13) (cy (aI j)) = aS 131 (ah (af (((List.range j).map aI) ++ [aI j]) bZ ((List.range j).map fun p => aw p 8) ((List.range j).map aZ) [] [] cn (((List.range j).map aR) ++ [1]) 8640000 600) vg vd (.slice none 0 0) (.slice none 0 0))) := Lib.hid (by
        have h1 := ap (cy (aI j)) (ao iB.out (121 + j) (.int .i64 1)) (j * 13)
        have h2 := h1.symm.trans hUA
        simpa using h2)
      have hEB : Hid (kk ((C.setIfInBounds (121 + j) (.int .i64 1)).setIfInBounds (121 + j) (.int .i64 2)) (j * 13) (cy (aI j)) = aS 131 (ah (af (((List.range j).map aI) ++ [aI j]) bZ ((List.range j).map fun p => aw p 8) ((List.range j).map aZ) [] [] cn (((List.range j).map aR) ++ [2]) 8640000 600) vg vd (.slice none 0 0) (.slice none 0 0))) := Lib.hid (by
        have h1 := ap (cy (aI j)) (ao (ao iB.out (121 + j) (.int .i64 1)) (121 + j) (.int .i64 2)) (j * 13)
        have h2 := h1.symm.trans hUB
        simpa using h2)
      obtain ⟨V, hV⟩ : ∃ V, C[121 + j]? = some V := ⟨_, by rw [← hC]; exact ab _ _ _ (by omega)⟩
      have hV2 : ∀ v, (C.setIfInBounds (121 + j) v)[121 + j]? = some v := fun v => by rw [Array.getElem?_setIfInBounds, if_pos rfl, if_pos (by rw [hCS.out]; omega)]
      haveI apB : Apart b wr.heap.size := ⟨by omega⟩
      haveI apC : Apart wr.heap.size b := ⟨by omega⟩
      clear hC hU1 hU2 hUA hUB hW
      haveI := iB
      have h4 : j % 4 = 0 ∨ j % 4 = 1 ∨ j % 4 = 2 ∨ j % 4 = 3 := by omega
      rcases h4 with h4 | h4 | h4 | h4
      · have e2 : Int.tmod (j : Int) 2 = 0 := by rw [Int.tmod_eq_emod_of_nonneg (by omega)]; omega
        have e4 : Int.tmod (j : Int) 4 = 0 := by rw [Int.tmod_eq_emod_of_nonneg (by omega)]; omega
        have hph : (cy (aI j)) = [.bool true, .int .i64 50, .int .i64 20, .int .i64 200, .int .i64 300, .int .i64 50, .int .i64 35, .int .i64 10, .int .i64 0, .int .i64 0, .int .i64 0, .bool true, .bool false] := by simp [cy, aI, h4, show j % 2 = 0 by omega]
        have hfl : aR j = 1 := by simp [aR, h4]
        have hE : kk (C.setIfInBounds (121 + j) (.int .i64 1)) (j * 13) (#[.bool true, .int .i64 50, .int .i64 20, .int .i64 200, .int .i64 300, .int .i64 50, .int .i64 35, .int .i64 10, .int .i64 0, .int .i64 0, .int .i64 0, .bool true, .bool false] : Array Value).toList = aS 131 (ah (af (((List.range j).map aI) ++ [aI j]) bZ ((List.range j).map fun p => aw p 8) ((List.range j).map aZ) [] [] cn (((List.range j).map aR) ++ [aR j]) 8640000 600) vg vd (.slice none 0 0) (.slice none 0 0)) := by
          rw [hfl]
          have h := hEA.out
          rw [hph] at h
          exact h
        clear hEA hEB
        have hF : SmW w (((wr.setCell ⟨b, 121 + j, none⟩ (.int .i64 1)).alloc (.cells #[.bool true, .int .i64 50, .int .i64 20, .int .i64 200, .int .i64 300, .int .i64 50, .int .i64 35, .int .i64 10, .int .i64 0, .int .i64 0, .int .i64 0, .bool true, .bool false] 26)).setCells b (j * 13) (#[.bool true, .int .i64 50, .int .i64 20, .int .i64 200, .int .i64 300, .int .i64 50, .int .i64 35, .int .i64 10, .int .i64 0, .int .i64 0, .int .i64 0, .bool true, .bool false] : Array Value).toList) b (af (((List.range j).map aI) ++ [aI j]) bZ ((List.range j).map fun p => aw p 8) ((List.range j).map aZ) [] [] cn (((List.range j).map aR) ++ [aR j]) 8640000 600) vg vd := by
          refine SmW.of hWW.out hbW ?_ ?_ rfl rfl rfl rfl
          · refine Kp.trans ?_ (Kp.sets _ _)
            exact (Kp.set _ _).more _ lX
          · refine (ap (C := (C.setIfInBounds (121 + j) (.int .i64 1))) (t := 34) _ IsBlk.out (j * 13)).trans ?_
            exact congrArg (fun x => some (Obj.cells x 34)) hE
        go_wp2_with (first
          | (refine ac (o := j * 13) (cs := #[.bool true, .int .i64 50, .int .i64 20, .int .i64 200, .int .i64 300, .int .i64 50, .int .i64 35, .int .i64 10, .int .i64 0, .int .i64 0, .int .i64 0, .bool true, .bool false]) 26 rfl rfl rfl rfl (by simp only [Array.size_setIfInBounds, hCS.out]; show j * 13 + 13 ≤ 131; omega) (by kernel_rfl) (by simp [Value.oneCell']) ?_
             generalize ((wr.setCell ⟨b, 121 + j, none⟩ (.int .i64 1)).alloc (.cells #[.bool true, .int .i64 50, .int .i64 20, .int .i64 200, .int .i64 300, .int .i64 50, .int .i64 35, .int .i64 10, .int .i64 0, .int .i64 0, .int .i64 0, .bool true, .bool false] 26)).setCells b (j * 13) (#[.bool true, .int .i64 50, .int .i64 20, .int .i64 200, .int .i64 300, .int .i64 50, .int .i64 35, .int .i64 10, .int .i64 0, .int .i64 0, .int .i64 0, .bool true, .bool false] : Array Value).toList = W5 at hF ⊢
             have hW5 := hF
             clear hF
             have HW5 := Lib.hid (hW5.below ((Below.refl _ _).alloc (Nat.le_refl _) (.cells #[.int .i64 j, .float .f64 4621819117588971520, .float .f64 4617315517961601024, .float .f64 0, .float .f64 4602678819172646912, .int .i64 6000, .int .i64 0] 58)))
             haveI iB5 : IsBlk W5 b _ _ := ⟨hW5.tb.blk⟩
             have h113 : (aS 131 (ah (af (((List.range j).map aI) ++ [aI j]) bZ ((List.range j).map fun p => aw p 8) ((List.range j).map aZ) [] [] cn (((List.range j).map aR) ++ [aR j]) 8640000 600) vg vd (.slice none 0 0) (.slice none 0 0)))[113]? = some vd := (ab _ _ _ (by decide)).trans (congrArg some (gj _ _ _ _ _))
             generalize aS 131 (ah (af (((List.range j).map aI) ++ [aI j]) bZ ((List.range j).map fun p => aw p 8) ((List.range j).map aZ) [] [] cn (((List.range j).map aR) ++ [aR j]) 8640000 600) vg vd (.slice none 0 0) (.slice none 0 0)) = C5 at *
             have g1 := HW5.out.tb.de
             have hbs := HW5.out.tb.lt
             have lb5 := iB5.le.out
             have hcell : ∀ j' u, (aQ (aZ j))[j']? = some u → (W5.alloc (.cells #[.int .i64 j, .float .f64 4621819117588971520, .float .f64 4617315517961601024, .float .f64 0, .float .f64 4602678819172646912, .int .i64 6000, .int .i64 0] 58)).cell? ⟨W5.heap.size, j', none⟩ = some u := fun j' u hj => aV (aq _ _) j' (by simpa [aQ, aZ] using hj)
             clear hE hW5)
          | (refine bo eC 56 _ 30 Tryz.underlying30 fH rfl (by decide) (by decide) rfl _ _ rfl (b + 1) rfl g1 (b := W5.heap.size) (aZ j) (by simp [aQ, Value.oneCell']) rfl hcell (by simp only [af]; omega) (by omega) ?_
             intro v' w6 hown' hg
             have hro : ∀ k, vd.ownBlock = some k → b + 1 ≤ k := fun k hk => g1.own hk
             haveI iB6 : IsBlk w6 b C5 34 := ⟨by rw [hg.block _ (by simp; omega) (fun e => by have := hro _ e.symm; omega)]; exact (inferInstance : IsBlk (W5.alloc (.cells #[.int .i64 j, .float .f64 4621819117588971520, .float .f64 4617315517961601024, .float .f64 0, .float .f64 4602678819172646912, .int .i64 6000, .int .i64 0] 58)) b C5 34).out⟩
             obtain ⟨a', n', cap', rfl⟩ := hown'.slice
             have HT5 := Lib.hid (HW5.out.grow hbW hg hro (TB.appDe (x := aZ j) HW5.out.tb hg hown' (by simp only [List.length_map, List.length_range]; omega)))
             clear hown' hg hcell g1 HW5 hro hbs))
        have hB : SmW w (w6.setCell ⟨b, 113, none⟩ (.slice a' n' cap')) b (af ((List.range (j + 1)).map aI) bZ (((List.range j).map fun p => aw p 8) ++ [0]) ((List.range (j + 1)).map aZ) [] [] cn ((List.range (j + 1)).map aR) 8640000 600) vg (.slice a' n' cap') := by
          rw [bw aI, bw aZ, bw aR]; exact SmW.cf0 HT5.out
        clear HT5 iB6 iB5 h113 hWW iB apB apC hph hfl hV hV2 hCS
        generalize (w6.setCell ⟨b, 113, none⟩ (.slice a' n' cap')) = W7 at *
        go_loopw [44] (fun i wx => ∃ (q : Nat) (k : Int), q ≤ 8 ∧ Hid (k = q) ∧ i = .int .i64 k ∧ SmW w wx b (af ((List.range (j + 1)).map aI) bZ (((List.range j).map fun p => aw p 8) ++ [aw j q]) ((List.range (j + 1)).map aZ) [] [] cn ((List.range (j + 1)).map aR) 8640000 600) vg (.slice a' n' cap')) (fun i _ => 8 - (intOf i).toNat)
        case atStart => exact ⟨0, 0, by omega, Lib.hid rfl, rfl, hB⟩
        case round =>
          clear hB
          obtain ⟨q, k2, hq, HK2, rfl, hW⟩ := hrel
          by_cases hq8 : q < 8
          · obtain rfl := HK2.out
            clear HK2
            have hqI : (q : Int) < 8 := by omega
            have hT := hW.tb.isTab.cf j hj8
            have hcl : (af ((List.range (j + 1)).map aI) bZ (((List.range j).map fun p => aw p 8) ++ [aw j q]) ((List.range (j + 1)).map aZ) [] [] cn ((List.range (j + 1)).map aR) 8640000 600).cf j = aw j q := by
              have := jk ((List.range j).map fun p => aw p 8) (aw j q)
              rw [hlc] at this
              exact this
            rw [hcl] at hT
            haveI iB : IsBlk wr b _ _ := ⟨hW.tb.blk⟩
            have HS : Hid (aw j (q + 1) = if iq j q = true then bits .or .i64 (aw j q) (2 ^ q) else aw j q) := Lib.hid rfl
            have HW := Lib.hid hW
            clear hW hcl
            generalize aS 131 (ah (af ((List.range (j + 1)).map aI) bZ (((List.range j).map fun p => aw p 8) ++ [aw j q]) ((List.range (j + 1)).map aZ) [] [] cn ((List.range (j + 1)).map aR) 8640000 600) vg (.slice a' n' cap') (.slice none 0 0) (.slice none 0 0)) = C7 at *
            generalize aw j q = cv at *
            obtain ⟨q2, hq2⟩ : ∃ x : Int, x = ((q / 2 : Nat) : Int) := ⟨_, rfl⟩
            obtain ⟨q22, hq22⟩ : ∃ x : Int, x = ((q / 2 % 2 : Nat) : Int) := ⟨_, rfl⟩
            obtain ⟨q4, hq4⟩ : ∃ x : Int, x = ((q / 4 : Nat) : Int) := ⟨_, rfl⟩
            obtain ⟨p2, hp2⟩ : ∃ x : Int, x = ((j / 2 : Nat) : Int) := ⟨_, rfl⟩
            obtain ⟨p22, hp22⟩ : ∃ x : Int, x = ((j / 2 % 2 : Nat) : Int) := ⟨_, rfl⟩
            obtain ⟨p4, hp4⟩ : ∃ x : Int, x = ((j / 4 : Nat) : Int) := ⟨_, rfl⟩
            have d1 : Int.tdiv (q : Int) 2 = q2 := by rw [Int.tdiv_eq_ediv_of_nonneg (by omega)]; omega
            have d2 : Int.tmod q2 2 = q22 := by rw [Int.tmod_eq_emod_of_nonneg (by omega)]; omega
            have d3 : Int.tdiv (q : Int) 4 = q4 := by rw [Int.tdiv_eq_ediv_of_nonneg (by omega)]; omega
            have d4 : Int.tdiv (j : Int) 2 = p2 := by rw [Int.tdiv_eq_ediv_of_nonneg (by omega)]; omega
            have d5 : Int.tmod p2 2 = p22 := by rw [Int.tmod_eq_emod_of_nonneg (by omega)]; omega
            have d6 : Int.tdiv (j : Int) 4 = p4 := by rw [Int.tdiv_eq_ediv_of_nonneg (by omega)]; omega
            have hco : Hid (iq j q = (decide ((q : Int) ≠ j) && (decide (q22 ≠ p22) || decide (q4 = p4)))) := Lib.hid (by
              unfold iq
              have a1 : (q != j) = decide ((q : Int) ≠ j) := by
                by_cases h : q = j
                · simp [h]
                · have h2 : ¬ (q : Int) = j := by omega
                  simp [h, h2]
              have a2 : (q / 2 % 2 != j / 2 % 2) = decide (q22 ≠ p22) := by
                by_cases h : q / 2 % 2 = j / 2 % 2
                · have h2 : q22 = p22 := by omega
                  simp [h, h2]
                · have h2 : ¬ q22 = p22 := by omega
                  simp [h, h2]
              have a3 : (q / 4 == j / 4) = decide (q4 = p4) := by
                by_cases h : q / 4 = j / 4
                · have h2 : q4 = p4 := by omega
                  simp [h, h2]
                · have h2 : ¬ q4 = p4 := by omega
                  simp [h, h2]
              rw [a1, a2, a3])
            have nq2 : 0 ≤ q2 := by omega
            have mq2 : q2 ≤ 8 := by omega
            have nq22 : 0 ≤ q22 := by omega
            have mq22 : q22 ≤ 8 := by omega
            have nq4 : 0 ≤ q4 := by omega
            have mq4 : q4 ≤ 8 := by omega
            have np2 : 0 ≤ p2 := by omega
            have mp2 : p2 ≤ 8 := by omega
            have np22 : 0 ≤ p22 := by omega
            have mp22 : p22 ≤ 8 := by omega
            have np4 : 0 ≤ p4 := by omega
            have mp4 : p4 ≤ 8 := by omega
            clear hq2 hq22 hq4 hp2 hp22 hp4
            have HWP : Hid (wrap64 (2 ^ q) = 2 ^ q) := Lib.hid (by
              have h8 : q = 0 ∨ q = 1 ∨ q = 2 ∨ q = 3 ∨ q = 4 ∨ q = 5 ∨ q = 6 ∨ q = 7 := by omega
              rcases h8 with rfl | rfl | rfl | rfl | rfl | rfl | rfl | rfl <;> exact ut _ (by decide))
            have b3f : ¬ q4 = p4 → (q4 == p4) = false := fun h => beq_eq_false_iff_ne.2 h
            by_cases c1 : (q : Int) = j
            · have hqj : q = j := by omega
              have HCN : Hid (aw j (q + 1) = cv) := Lib.hid (by rw [HS.out, hco.out, if_neg (by simp [c1])])
              clear hco HS hqj
              go_wp2
              go_roundw
              case rel => exact ⟨q + 1, (q : Int) + 1, by omega, Lib.hid (Int.natCast_succ q).symm, by rw [c1], by rw [HCN.out]; exact HW.out⟩
              case measure => simp [intOf]; omega
            · by_cases c2 : q22 = p22
              · by_cases c3 : q4 = p4
                · go_wp2
                  (refine aO 9 (by kernel_rfl) (by kernel_rfl) ?_; simp only [List.take_succ_cons, List.take_zero, List.drop_succ_cons, List.drop_zero]; (repeat (first | go_big_quiet_step ((first | fail)))); refine wpQuiet_nil ?_; rintro _ ⟨u, rfl⟩)
                  go_wp2
                  go_roundw
                  case rel =>
                    refine ⟨q + 1, _, by omega, Lib.hid (Int.natCast_succ q).symm, rfl, ?_⟩
                    have h1 := (HW.out.below u.bel).put hbW (TB.rCf2 (x := bits .or .i64 cv (2 ^ q)) (HW.out.below u.bel).tb (by rw [hlc]; omega))
                    rw [hlc] at h1
                    rw [HS.out, hco.out, if_pos (by simp [c1, c3]), HWP.out]
                    exact h1
                  case measure => simp [intOf]; omega
                · have c3b := b3f c3
                  have HCN : Hid (aw j (q + 1) = cv) := Lib.hid (by rw [HS.out, hco.out, if_neg (by simp [c2, c3])])
                  clear hco HS
                  go_wp2
                  go_roundw
                  case rel => exact ⟨q + 1, _, by omega, Lib.hid (Int.natCast_succ q).symm, rfl, by rw [HCN.out]; exact HW.out⟩
                  case measure => simp [intOf]; omega
              · go_wp2
                (refine aO 9 (by kernel_rfl) (by kernel_rfl) ?_; simp only [List.take_succ_cons, List.take_zero, List.drop_succ_cons, List.drop_zero]; (repeat (first | go_big_quiet_step ((first | fail)))); refine wpQuiet_nil ?_; rintro _ ⟨u, rfl⟩)
                go_wp2
                go_roundw
                case rel =>
                  refine ⟨q + 1, _, by omega, Lib.hid (Int.natCast_succ q).symm, rfl, ?_⟩
                  have h1 := (HW.out.below u.bel).put hbW (TB.rCf2 (x := bits .or .i64 cv (2 ^ q)) (HW.out.below u.bel).tb (by rw [hlc]; omega))
                  rw [hlc] at h1
                  rw [HS.out, hco.out, if_pos (by simp [c1, c2]), HWP.out]
                  exact h1
                case measure => simp [intOf]; omega
          · obtain rfl : q = 8 := by omega
            have hk8 : ¬ k2 < 8 := by have := HK2.out; omega
            clear HK2
            have HW := Lib.hid hW
            clear hW
            go_wp2
            go_roundw
            case rel => exact ⟨j + 1, _, _, by omega, Lib.hid (Int.natCast_succ j).symm, rfl, by unfold nT; rw [bw (fun p => aw p 8)]; exact HW.out⟩
            case measure => simp [intOf]; omega
      · have e2 : Int.tmod (j : Int) 2 = 1 := by rw [Int.tmod_eq_emod_of_nonneg (by omega)]; omega
        have e4 : Int.tmod (j : Int) 4 = 1 := by rw [Int.tmod_eq_emod_of_nonneg (by omega)]; omega
        have hph : (cy (aI j)) = [.bool true, .int .i64 50, .int .i64 20, .int .i64 200, .int .i64 300, .int .i64 50, .int .i64 35, .int .i64 10, .int .i64 70, .int .i64 80, .int .i64 1, .bool true, .bool false] := by simp [cy, aI, h4, show j % 2 = 1 by omega]
        have hfl : aR j = 2 := by simp [aR, h4]
        have hE : kk ((C.setIfInBounds (121 + j) (.int .i64 1)).setIfInBounds (121 + j) (.int .i64 2)) (j * 13) (#[.bool true, .int .i64 50, .int .i64 20, .int .i64 200, .int .i64 300, .int .i64 50, .int .i64 35, .int .i64 10, .int .i64 70, .int .i64 80, .int .i64 1, .bool true, .bool false] : Array Value).toList = aS 131 (ah (af (((List.range j).map aI) ++ [aI j]) bZ ((List.range j).map fun p => aw p 8) ((List.range j).map aZ) [] [] cn (((List.range j).map aR) ++ [aR j]) 8640000 600) vg vd (.slice none 0 0) (.slice none 0 0)) := by
          rw [hfl]
          have h := hEB.out
          rw [hph] at h
          exact h
        clear hEA hEB
        have hF : SmW w ((((wr.setCell ⟨b, 121 + j, none⟩ (.int .i64 1)).setCell ⟨b, 121 + j, none⟩ (.int .i64 2)).alloc (.cells #[.bool true, .int .i64 50, .int .i64 20, .int .i64 200, .int .i64 300, .int .i64 50, .int .i64 35, .int .i64 10, .int .i64 70, .int .i64 80, .int .i64 1, .bool true, .bool false] 26)).setCells b (j * 13) (#[.bool true, .int .i64 50, .int .i64 20, .int .i64 200, .int .i64 300, .int .i64 50, .int .i64 35, .int .i64 10, .int .i64 70, .int .i64 80, .int .i64 1, .bool true, .bool false] : Array Value).toList) b (af (((List.range j).map aI) ++ [aI j]) bZ ((List.range j).map fun p => aw p 8) ((List.range j).map aZ) [] [] cn (((List.range j).map aR) ++ [aR j]) 8640000 600) vg vd := by
          refine SmW.of hWW.out hbW ?_ ?_ rfl rfl rfl rfl
          · refine Kp.trans ?_ (Kp.sets _ _)
            exact ((Kp.set _ _).trans (Kp.set _ _)).more _ lX
          · refine (ap (C := ((C.setIfInBounds (121 + j) (.int .i64 1)).setIfInBounds (121 + j) (.int .i64 2))) (t := 34) _ IsBlk.out (j * 13)).trans ?_
            exact congrArg (fun x => some (Obj.cells x 34)) hE
        go_wp2_with (first
          | (refine ac (o := j * 13) (cs := #[.bool true, .int .i64 50, .int .i64 20, .int .i64 200, .int .i64 300, .int .i64 50, .int .i64 35, .int .i64 10, .int .i64 70, .int .i64 80, .int .i64 1, .bool true, .bool false]) 26 rfl rfl rfl rfl (by simp only [Array.size_setIfInBounds, hCS.out]; show j * 13 + 13 ≤ 131; omega) (by kernel_rfl) (by simp [Value.oneCell']) ?_
             generalize (((wr.setCell ⟨b, 121 + j, none⟩ (.int .i64 1)).setCell ⟨b, 121 + j, none⟩ (.int .i64 2)).alloc (.cells #[.bool true, .int .i64 50, .int .i64 20, .int .i64 200, .int .i64 300, .int .i64 50, .int .i64 35, .int .i64 10, .int .i64 70, .int .i64 80, .int .i64 1, .bool true, .bool false] 26)).setCells b (j * 13) (#[.bool true, .int .i64 50, .int .i64 20, .int .i64 200, .int .i64 300, .int .i64 50, .int .i64 35, .int .i64 10, .int .i64 70, .int .i64 80, .int .i64 1, .bool true, .bool false] : Array Value).toList = W5 at hF ⊢
             have hW5 := hF
             clear hF
             have HW5 := Lib.hid (hW5.below ((Below.refl _ _).alloc (Nat.le_refl _) (.cells #[.int .i64 j, .float .f64 4621819117588971520, .float .f64 4617315517961601024, .float .f64 0, .float .f64 4602678819172646912, .int .i64 6000, .int .i64 0] 58)))
             haveI iB5 : IsBlk W5 b _ _ := ⟨hW5.tb.blk⟩
             have h113 : (aS 131 (ah (af (((List.range j).map aI) ++ [aI j]) bZ ((List.range j).map fun p => aw p 8) ((List.range j).map aZ) [] [] cn (((List.range j).map aR) ++ [aR j]) 8640000 600) vg vd (.slice none 0 0) (.slice none 0 0)))[113]? = some vd := (ab _ _ _ (by decide)).trans (congrArg some (gj _ _ _ _ _))
             generalize aS 131 (ah (af (((List.range j).map aI) ++ [aI j]) bZ ((List.range j).map fun p => aw p 8) ((List.range j).map aZ) [] [] cn (((List.range j).map aR) ++ [aR j]) 8640000 600) vg vd (.slice none 0 0) (.slice none 0 0)) = C5 at *
             have g1 := HW5.out.tb.de
             have hbs := HW5.out.tb.lt
             have lb5 := iB5.le.out
             have hcell : ∀ j' u, (aQ (aZ j))[j']? = some u → (W5.alloc (.cells #[.int .i64 j, .float .f64 4621819117588971520, .float .f64 4617315517961601024, .float .f64 0, .float .f64 4602678819172646912, .int .i64 6000, .int .i64 0] 58)).cell? ⟨W5.heap.size, j', none⟩ = some u := fun j' u hj => aV (aq _ _) j' (by simpa [aQ, aZ] using hj)
             clear hE hW5)
          | (refine bo eC 56 _ 30 Tryz.underlying30 fH rfl (by decide) (by decide) rfl _ _ rfl (b + 1) rfl g1 (b := W5.heap.size) (aZ j) (by simp [aQ, Value.oneCell']) rfl hcell (by simp only [af]; omega) (by omega) ?_
             intro v' w6 hown' hg
             have hro : ∀ k, vd.ownBlock = some k → b + 1 ≤ k := fun k hk => g1.own hk
             haveI iB6 : IsBlk w6 b C5 34 := ⟨by rw [hg.block _ (by simp; omega) (fun e => by have := hro _ e.symm; omega)]; exact (inferInstance : IsBlk (W5.alloc (.cells #[.int .i64 j, .float .f64 4621819117588971520, .float .f64 4617315517961601024, .float .f64 0, .float .f64 4602678819172646912, .int .i64 6000, .int .i64 0] 58)) b C5 34).out⟩
             obtain ⟨a', n', cap', rfl⟩ := hown'.slice
             have HT5 := Lib.hid (HW5.out.grow hbW hg hro (TB.appDe (x := aZ j) HW5.out.tb hg hown' (by simp only [List.length_map, List.length_range]; omega)))
             clear hown' hg hcell g1 HW5 hro hbs))
        have hB : SmW w (w6.setCell ⟨b, 113, none⟩ (.slice a' n' cap')) b (af ((List.range (j + 1)).map aI) bZ (((List.range j).map fun p => aw p 8) ++ [0]) ((List.range (j + 1)).map aZ) [] [] cn ((List.range (j + 1)).map aR) 8640000 600) vg (.slice a' n' cap') := by
          rw [bw aI, bw aZ, bw aR]; exact SmW.cf0 HT5.out
        clear HT5 iB6 iB5 h113 hWW iB apB apC hph hfl hV hV2 hCS
        generalize (w6.setCell ⟨b, 113, none⟩ (.slice a' n' cap')) = W7 at *
        go_loopw [44] (fun i wx => ∃ (q : Nat) (k : Int), q ≤ 8 ∧ Hid (k = q) ∧ i = .int .i64 k ∧ SmW w wx b (af ((List.range (j + 1)).map aI) bZ (((List.range j).map fun p => aw p 8) ++ [aw j q]) ((List.range (j + 1)).map aZ) [] [] cn ((List.range (j + 1)).map aR) 8640000 600) vg (.slice a' n' cap')) (fun i _ => 8 - (intOf i).toNat)
        case atStart => exact ⟨0, 0, by omega, Lib.hid rfl, rfl, hB⟩
        case round =>
          clear hB
          obtain ⟨q, k2, hq, HK2, rfl, hW⟩ := hrel
          by_cases hq8 : q < 8
          · obtain rfl := HK2.out
            clear HK2
            have hqI : (q : Int) < 8 := by omega
            have hT := hW.tb.isTab.cf j hj8
            have hcl : (af ((List.range (j + 1)).map aI) bZ (((List.range j).map fun p => aw p 8) ++ [aw j q]) ((List.range (j + 1)).map aZ) [] [] cn ((List.range (j + 1)).map aR) 8640000 600).cf j = aw j q := by
              have := jk ((List.range j).map fun p => aw p 8) (aw j q)
              rw [hlc] at this
              exact this
            rw [hcl] at hT
            haveI iB : IsBlk wr b _ _ := ⟨hW.tb.blk⟩
            have HS : Hid (aw j (q + 1) = if iq j q = true then bits .or .i64 (aw j q) (2 ^ q) else aw j q) := Lib.hid rfl
            have HW := Lib.hid hW
            clear hW hcl
            generalize aS 131 (ah (af ((List.range (j + 1)).map aI) bZ (((List.range j).map fun p => aw p 8) ++ [aw j q]) ((List.range (j + 1)).map aZ) [] [] cn ((List.range (j + 1)).map aR) 8640000 600) vg (.slice a' n' cap') (.slice none 0 0) (.slice none 0 0)) = C7 at *
            generalize aw j q = cv at *
            obtain ⟨q2, hq2⟩ : ∃ x : Int, x = ((q / 2 : Nat) : Int) := ⟨_, rfl⟩
            obtain ⟨q22, hq22⟩ : ∃ x : Int, x = ((q / 2 % 2 : Nat) : Int) := ⟨_, rfl⟩
            obtain ⟨q4, hq4⟩ : ∃ x : Int, x = ((q / 4 : Nat) : Int) := ⟨_, rfl⟩
            obtain ⟨p2, hp2⟩ : ∃ x : Int, x = ((j / 2 : Nat) : Int) := ⟨_, rfl⟩
            obtain ⟨p22, hp22⟩ : ∃ x : Int, x = ((j / 2 % 2 : Nat) : Int) := ⟨_, rfl⟩
            obtain ⟨p4, hp4⟩ : ∃ x : Int, x = ((j / 4 : Nat) : Int) := ⟨_, rfl⟩
            have d1 : Int.tdiv (q : Int) 2 = q2 := by rw [Int.tdiv_eq_ediv_of_nonneg (by omega)]; omega
            have d2 : Int.tmod q2 2 = q22 := by rw [Int.tmod_eq_emod_of_nonneg (by omega)]; omega
            have d3 : Int.tdiv (q : Int) 4 = q4 := by rw [Int.tdiv_eq_ediv_of_nonneg (by omega)]; omega
            have d4 : Int.tdiv (j : Int) 2 = p2 := by rw [Int.tdiv_eq_ediv_of_nonneg (by omega)]; omega
            have d5 : Int.tmod p2 2 = p22 := by rw [Int.tmod_eq_emod_of_nonneg (by omega)]; omega
            have d6 : Int.tdiv (j : Int) 4 = p4 := by rw [Int.tdiv_eq_ediv_of_nonneg (by omega)]; omega
            have hco : Hid (iq j q = (decide ((q : Int) ≠ j) && (decide (q22 ≠ p22) || decide (q4 = p4)))) := Lib.hid (by
              unfold iq
              have a1 : (q != j) = decide ((q : Int) ≠ j) := by
                by_cases h : q = j
                · simp [h]
                · have h2 : ¬ (q : Int) = j := by omega
                  simp [h, h2]
              have a2 : (q / 2 % 2 != j / 2 % 2) = decide (q22 ≠ p22) := by
                by_cases h : q / 2 % 2 = j / 2 % 2
                · have h2 : q22 = p22 := by omega
                  simp [h, h2]
                · have h2 : ¬ q22 = p22 := by omega
                  simp [h, h2]
              have a3 : (q / 4 == j / 4) = decide (q4 = p4) := by
                by_cases h : q / 4 = j / 4
                · have h2 : q4 = p4 := by omega
                  simp [h, h2]
                · have h2 : ¬ q4 = p4 := by omega
                  simp [h, h2]
              rw [a1, a2, a3])
            have nq2 : 0 ≤ q2 := by omega
            have mq2 : q2 ≤ 8 := by omega
            have nq22 : 0 ≤ q22 := by omega
            have mq22 : q22 ≤ 8 := by omega
            have nq4 : 0 ≤ q4 := by omega
            have mq4 : q4 ≤ 8 := by omega
            have np2 : 0 ≤ p2 := by omega
            have mp2 : p2 ≤ 8 := by omega
            have np22 : 0 ≤ p22 := by omega
            have mp22 : p22 ≤ 8 := by omega
            have np4 : 0 ≤ p4 := by omega
            have mp4 : p4 ≤ 8 := by omega
            clear hq2 hq22 hq4 hp2 hp22 hp4
            have HWP : Hid (wrap64 (2 ^ q) = 2 ^ q) := Lib.hid (by
              have h8 : q = 0 ∨ q = 1 ∨ q = 2 ∨ q = 3 ∨ q = 4 ∨ q = 5 ∨ q = 6 ∨ q = 7 := by omega
              rcases h8 with rfl | rfl | rfl | rfl | rfl | rfl | rfl | rfl <;> exact ut _ (by decide))
            have b3f : ¬ q4 = p4 → (q4 == p4) = false := fun h => beq_eq_false_iff_ne.2 h
            by_cases c1 : (q : Int) = j
            · have hqj : q = j := by omega
              have HCN : Hid (aw j (q + 1) = cv) := Lib.hid (by rw [HS.out, hco.out, if_neg (by simp [c1])])
              clear hco HS hqj
              go_wp2
              go_roundw
              case rel => exact ⟨q + 1, (q : Int) + 1, by omega, Lib.hid (Int.natCast_succ q).symm, by rw [c1], by rw [HCN.out]; exact HW.out⟩
              case measure => simp [intOf]; omega
            · by_cases c2 : q22 = p22
              · by_cases c3 : q4 = p4
                · go_wp2
                  (refine aO 9 (by kernel_rfl) (by kernel_rfl) ?_; simp only [List.take_succ_cons, List.take_zero, List.drop_succ_cons, List.drop_zero]; (repeat (first | go_big_quiet_step ((first | fail)))); refine wpQuiet_nil ?_; rintro _ ⟨u, rfl⟩)
                  go_wp2
                  go_roundw
                  case rel =>
                    refine ⟨q + 1, _, by omega, Lib.hid (Int.natCast_succ q).symm, rfl, ?_⟩
                    have h1 := (HW.out.below u.bel).put hbW (TB.rCf2 (x := bits .or .i64 cv (2 ^ q)) (HW.out.below u.bel).tb (by rw [hlc]; omega))
                    rw [hlc] at h1
                    rw [HS.out, hco.out, if_pos (by simp [c1, c3]), HWP.out]
                    exact h1
                  case measure => simp [intOf]; omega
                · have c3b := b3f c3
                  have HCN : Hid (aw j (q + 1) = cv) := Lib.hid (by rw [HS.out, hco.out, if_neg (by simp [c2, c3])])
                  clear hco HS
                  go_wp2
                  go_roundw
                  case rel => exact ⟨q + 1, _, by omega, Lib.hid (Int.natCast_succ q).symm, rfl, by rw [HCN.out]; exact HW.out⟩
                  case measure => simp [intOf]; omega
              · go_wp2
                (refine aO 9 (by kernel_rfl) (by kernel_rfl) ?_; simp only [List.take_succ_cons, List.take_zero, List.drop_succ_cons, List.drop_zero]; (repeat (first | go_big_quiet_step ((first | fail)))); refine wpQuiet_nil ?_; rintro _ ⟨u, rfl⟩)
                go_wp2
                go_roundw
                case rel =>
                  refine ⟨q + 1, _, by omega, Lib.hid (Int.natCast_succ q).symm, rfl, ?_⟩
                  have h1 := (HW.out.below u.bel).put hbW (TB.rCf2 (x := bits .or .i64 cv (2 ^ q)) (HW.out.below u.bel).tb (by rw [hlc]; omega))
                  rw [hlc] at h1
                  rw [HS.out, hco.out, if_pos (by simp [c1, c2]), HWP.out]
                  exact h1
                case measure => simp [intOf]; omega
          · obtain rfl : q = 8 := by omega
            have hk8 : ¬ k2 < 8 := by have := HK2.out; omega
            clear HK2
            have HW := Lib.hid hW
            clear hW
            go_wp2
            go_roundw
            case rel => exact ⟨j + 1, _, _, by omega, Lib.hid (Int.natCast_succ j).symm, rfl, by unfold nT; rw [bw (fun p => aw p 8)]; exact HW.out⟩
            case measure => simp [intOf]; omega
      · have e2 : Int.tmod (j : Int) 2 = 0 := by rw [Int.tmod_eq_emod_of_nonneg (by omega)]; omega
        have e4 : Int.tmod (j : Int) 4 = 2 := by rw [Int.tmod_eq_emod_of_nonneg (by omega)]; omega
        have hph : (cy (aI j)) = [.bool true, .int .i64 50, .int .i64 20, .int .i64 200, .int .i64 300, .int .i64 50, .int .i64 35, .int .i64 10, .int .i64 0, .int .i64 0, .int .i64 0, .bool true, .bool false] := by simp [cy, aI, h4, show j % 2 = 0 by omega]
        have hfl : aR j = 1 := by simp [aR, h4]
        have hE : kk (C.setIfInBounds (121 + j) (.int .i64 1)) (j * 13) (#[.bool true, .int .i64 50, .int .i64 20, .int .i64 200, .int .i64 300, .int .i64 50, .int .i64 35, .int .i64 10, .int .i64 0, .int .i64 0, .int .i64 0, .bool true, .bool false] : Array Value).toList = aS 131 (ah (af (((List.range j).map aI) ++ [aI j]) bZ ((List.range j).map fun p => aw p 8) ((List.range j).map aZ) [] [] cn (((List.range j).map aR) ++ [aR j]) 8640000 600) vg vd (.slice none 0 0) (.slice none 0 0)) := by
          rw [hfl]
          have h := hEA.out
          rw [hph] at h
          exact h
        clear hEA hEB
        have hF : SmW w (((wr.setCell ⟨b, 121 + j, none⟩ (.int .i64 1)).alloc (.cells #[.bool true, .int .i64 50, .int .i64 20, .int .i64 200, .int .i64 300, .int .i64 50, .int .i64 35, .int .i64 10, .int .i64 0, .int .i64 0, .int .i64 0, .bool true, .bool false] 26)).setCells b (j * 13) (#[.bool true, .int .i64 50, .int .i64 20, .int .i64 200, .int .i64 300, .int .i64 50, .int .i64 35, .int .i64 10, .int .i64 0, .int .i64 0, .int .i64 0, .bool true, .bool false] : Array Value).toList) b (af (((List.range j).map aI) ++ [aI j]) bZ ((List.range j).map fun p => aw p 8) ((List.range j).map aZ) [] [] cn (((List.range j).map aR) ++ [aR j]) 8640000 600) vg vd := by
          refine SmW.of hWW.out hbW ?_ ?_ rfl rfl rfl rfl
          · refine Kp.trans ?_ (Kp.sets _ _)
            exact (Kp.set _ _).more _ lX
          · refine (ap (C := (C.setIfInBounds (121 + j) (.int .i64 1))) (t := 34) _ IsBlk.out (j * 13)).trans ?_
            exact congrArg (fun x => some (Obj.cells x 34)) hE
        go_wp2_with (first
          | (refine ac (o := j * 13) (cs := #[.bool true, .int .i64 50, .int .i64 20, .int .i64 200, .int .i64 300, .int .i64 50, .int .i64 35, .int .i64 10, .int .i64 0, .int .i64 0, .int .i64 0, .bool true, .bool false]) 26 rfl rfl rfl rfl (by simp only [Array.size_setIfInBounds, hCS.out]; show j * 13 + 13 ≤ 131; omega) (by kernel_rfl) (by simp [Value.oneCell']) ?_
             generalize ((wr.setCell ⟨b, 121 + j, none⟩ (.int .i64 1)).alloc (.cells #[.bool true, .int .i64 50, .int .i64 20, .int .i64 200, .int .i64 300, .int .i64 50, .int .i64 35, .int .i64 10, .int .i64 0, .int .i64 0, .int .i64 0, .bool true, .bool false] 26)).setCells b (j * 13) (#[.bool true, .int .i64 50, .int .i64 20, .int .i64 200, .int .i64 300, .int .i64 50, .int .i64 35, .int .i64 10, .int .i64 0, .int .i64 0, .int .i64 0, .bool true, .bool false] : Array Value).toList = W5 at hF ⊢
             have hW5 := hF
             clear hF
             have HW5 := Lib.hid (hW5.below ((Below.refl _ _).alloc (Nat.le_refl _) (.cells #[.int .i64 j, .float .f64 4621819117588971520, .float .f64 4617315517961601024, .float .f64 0, .float .f64 4602678819172646912, .int .i64 6000, .int .i64 0] 58)))
             haveI iB5 : IsBlk W5 b _ _ := ⟨hW5.tb.blk⟩
             have h113 : (aS 131 (ah (af (((List.range j).map aI) ++ [aI j]) bZ ((List.range j).map fun p => aw p 8) ((List.range j).map aZ) [] [] cn (((List.range j).map aR) ++ [aR j]) 8640000 600) vg vd (.slice none 0 0) (.slice none 0 0)))[113]? = some vd := (ab _ _ _ (by decide)).trans (congrArg some (gj _ _ _ _ _))
             generalize aS 131 (ah (af (((List.range j).map aI) ++ [aI j]) bZ ((List.range j).map fun p => aw p 8) ((List.range j).map aZ) [] [] cn (((List.range j).map aR) ++ [aR j]) 8640000 600) vg vd (.slice none 0 0) (.slice none 0 0)) = C5 at *
             have g1 := HW5.out.tb.de
             have hbs := HW5.out.tb.lt
             have lb5 := iB5.le.out
             have hcell : ∀ j' u, (aQ (aZ j))[j']? = some u → (W5.alloc (.cells #[.int .i64 j, .float .f64 4621819117588971520, .float .f64 4617315517961601024, .float .f64 0, .float .f64 4602678819172646912, .int .i64 6000, .int .i64 0] 58)).cell? ⟨W5.heap.size, j', none⟩ = some u := fun j' u hj => aV (aq _ _) j' (by simpa [aQ, aZ] using hj)
             clear hE hW5)
          | (refine bo eC 56 _ 30 Tryz.underlying30 fH rfl (by decide) (by decide) rfl _ _ rfl (b + 1) rfl g1 (b := W5.heap.size) (aZ j) (by simp [aQ, Value.oneCell']) rfl hcell (by simp only [af]; omega) (by omega) ?_
             intro v' w6 hown' hg
             have hro : ∀ k, vd.ownBlock = some k → b + 1 ≤ k := fun k hk => g1.own hk
             haveI iB6 : IsBlk w6 b C5 34 := ⟨by rw [hg.block _ (by simp; omega) (fun e => by have := hro _ e.symm; omega)]; exact (inferInstance : IsBlk (W5.alloc (.cells #[.int .i64 j, .float .f64 4621819117588971520, .float .f64 4617315517961601024, .float .f64 0, .float .f64 4602678819172646912, .int .i64 6000, .int .i64 0] 58)) b C5 34).out⟩
             obtain ⟨a', n', cap', rfl⟩ := hown'.slice
             have HT5 := Lib.hid (HW5.out.grow hbW hg hro (TB.appDe (x := aZ j) HW5.out.tb hg hown' (by simp only [List.length_map, List.length_range]; omega)))
             clear hown' hg hcell g1 HW5 hro hbs))
        have hB : SmW w (w6.setCell ⟨b, 113, none⟩ (.slice a' n' cap')) b (af ((List.range (j + 1)).map aI) bZ (((List.range j).map fun p => aw p 8) ++ [0]) ((List.range (j + 1)).map aZ) [] [] cn ((List.range (j + 1)).map aR) 8640000 600) vg (.slice a' n' cap') := by
          rw [bw aI, bw aZ, bw aR]; exact SmW.cf0 HT5.out
        clear HT5 iB6 iB5 h113 hWW iB apB apC hph hfl hV hV2 hCS
        generalize (w6.setCell ⟨b, 113, none⟩ (.slice a' n' cap')) = W7 at *
        go_loopw [44] (fun i wx => ∃ (q : Nat) (k : Int), q ≤ 8 ∧ Hid (k = q) ∧ i = .int .i64 k ∧ SmW w wx b (af ((List.range (j + 1)).map aI) bZ (((List.range j).map fun p => aw p 8) ++ [aw j q]) ((List.range (j + 1)).map aZ) [] [] cn ((List.range (j + 1)).map aR) 8640000 600) vg (.slice a' n' cap')) (fun i _ => 8 - (intOf i).toNat)
        case atStart => exact ⟨0, 0, by omega, Lib.hid rfl, rfl, hB⟩
        case round =>
          clear hB
          obtain ⟨q, k2, hq, HK2, rfl, hW⟩ := hrel
          by_cases hq8 : q < 8
          · obtain rfl := HK2.out
            clear HK2
            have hqI : (q : Int) < 8 := by omega
            have hT := hW.tb.isTab.cf j hj8
            have hcl : (af ((List.range (j + 1)).map aI) bZ (((List.range j).map fun p => aw p 8) ++ [aw j q]) ((List.range (j + 1)).map aZ) [] [] cn ((List.range (j + 1)).map aR) 8640000 600).cf j = aw j q := by
              have := jk ((List.range j).map fun p => aw p 8) (aw j q)
              rw [hlc] at this
              exact this
            rw [hcl] at hT
            haveI iB : IsBlk wr b _ _ := ⟨hW.tb.blk⟩
            have HS : Hid (aw j (q + 1) = if iq j q = true then bits .or .i64 (aw j q) (2 ^ q) else aw j q) := Lib.hid rfl
            have HW := Lib.hid hW
            clear hW hcl
            generalize aS 131 (ah (af ((List.range (j + 1)).map aI) bZ (((List.range j).map fun p => aw p 8) ++ [aw j q]) ((List.range (j + 1)).map aZ) [] [] cn ((List.range (j + 1)).map aR) 8640000 600) vg (.slice a' n' cap') (.slice none 0 0) (.slice none 0 0)) = C7 at *
            generalize aw j q = cv at *
            obtain ⟨q2, hq2⟩ : ∃ x : Int, x = ((q / 2 : Nat) : Int) := ⟨_, rfl⟩
            obtain ⟨q22, hq22⟩ : ∃ x : Int, x = ((q / 2 % 2 : Nat) : Int) := ⟨_, rfl⟩
            obtain ⟨q4, hq4⟩ : ∃ x : Int, x = ((q / 4 : Nat) : Int) := ⟨_, rfl⟩
            obtain ⟨p2, hp2⟩ : ∃ x : Int, x = ((j / 2 : Nat) : Int) := ⟨_, rfl⟩
            obtain ⟨p22, hp22⟩ : ∃ x : Int, x = ((j / 2 % 2 : Nat) : Int) := ⟨_, rfl⟩
            obtain ⟨p4, hp4⟩ : ∃ x : Int, x = ((j / 4 : Nat) : Int) := ⟨_, rfl⟩
            have d1 : Int.tdiv (q : Int) 2 = q2 := by rw [Int.tdiv_eq_ediv_of_nonneg (by omega)]; omega
            have d2 : Int.tmod q2 2 = q22 := by rw [Int.tmod_eq_emod_of_nonneg (by omega)]; omega
            have d3 : Int.tdiv (q : Int) 4 = q4 := by rw [Int.tdiv_eq_ediv_of_nonneg (by omega)]; omega
            have d4 : Int.tdiv (j : Int) 2 = p2 := by rw [Int.tdiv_eq_ediv_of_nonneg (by omega)]; omega
            have d5 : Int.tmod p2 2 = p22 := by rw [Int.tmod_eq_emod_of_nonneg (by omega)]; omega
            have d6 : Int.tdiv (j : Int) 4 = p4 := by rw [Int.tdiv_eq_ediv_of_nonneg (by omega)]; omega
            have hco : Hid (iq j q = (decide ((q : Int) ≠ j) && (decide (q22 ≠ p22) || decide (q4 = p4)))) := Lib.hid (by
              unfold iq
              have a1 : (q != j) = decide ((q : Int) ≠ j) := by
                by_cases h : q = j
                · simp [h]
                · have h2 : ¬ (q : Int) = j := by omega
                  simp [h, h2]
              have a2 : (q / 2 % 2 != j / 2 % 2) = decide (q22 ≠ p22) := by
                by_cases h : q / 2 % 2 = j / 2 % 2
                · have h2 : q22 = p22 := by omega
                  simp [h, h2]
                · have h2 : ¬ q22 = p22 := by omega
                  simp [h, h2]
              have a3 : (q / 4 == j / 4) = decide (q4 = p4) := by
                by_cases h : q / 4 = j / 4
                · have h2 : q4 = p4 := by omega
                  simp [h, h2]
                · have h2 : ¬ q4 = p4 := by omega
                  simp [h, h2]
              rw [a1, a2, a3])
            have nq2 : 0 ≤ q2 := by omega
            have mq2 : q2 ≤ 8 := by omega
            have nq22 : 0 ≤ q22 := by omega
            have mq22 : q22 ≤ 8 := by omega
            have nq4 : 0 ≤ q4 := by omega
            have mq4 : q4 ≤ 8 := by omega
            have np2 : 0 ≤ p2 := by omega
            have mp2 : p2 ≤ 8 := by omega
            have np22 : 0 ≤ p22 := by omega
            have mp22 : p22 ≤ 8 := by omega
            have np4 : 0 ≤ p4 := by omega
            have mp4 : p4 ≤ 8 := by omega
            clear hq2 hq22 hq4 hp2 hp22 hp4
            have HWP : Hid (wrap64 (2 ^ q) = 2 ^ q) := Lib.hid (by
              have h8 : q = 0 ∨ q = 1 ∨ q = 2 ∨ q = 3 ∨ q = 4 ∨ q = 5 ∨ q = 6 ∨ q = 7 := by omega
              rcases h8 with rfl | rfl | rfl | rfl | rfl | rfl | rfl | rfl <;> exact ut _ (by decide))
            have b3f : ¬ q4 = p4 → (q4 == p4) = false := fun h => beq_eq_false_iff_ne.2 h
            by_cases c1 : (q : Int) = j
            · have hqj : q = j := by omega
              have HCN : Hid (aw j (q + 1) = cv) := Lib.hid (by rw [HS.out, hco.out, if_neg (by simp [c1])])
              clear hco HS hqj
              go_wp2
              go_roundw
              case rel => exact ⟨q + 1, (q : Int) + 1, by omega, Lib.hid (Int.natCast_succ q).symm, by rw [c1], by rw [HCN.out]; exact HW.out⟩
              case measure => simp [intOf]; omega
            · by_cases c2 : q22 = p22
              · by_cases c3 : q4 = p4
                · go_wp2
                  (refine aO 9 (by kernel_rfl) (by kernel_rfl) ?_; simp only [List.take_succ_cons, List.take_zero, List.drop_succ_cons, List.drop_zero]; (repeat (first | go_big_quiet_step ((first | fail)))); refine wpQuiet_nil ?_; rintro _ ⟨u, rfl⟩)
                  go_wp2
                  go_roundw
                  case rel =>
                    refine ⟨q + 1, _, by omega, Lib.hid (Int.natCast_succ q).symm, rfl, ?_⟩
                    have h1 := (HW.out.below u.bel).put hbW (TB.rCf2 (x := bits .or .i64 cv (2 ^ q)) (HW.out.below u.bel).tb (by rw [hlc]; omega))
                    rw [hlc] at h1
                    rw [HS.out, hco.out, if_pos (by simp [c1, c3]), HWP.out]
                    exact h1
                  case measure => simp [intOf]; omega
                · have c3b := b3f c3
                  have HCN : Hid (aw j (q + 1) = cv) := Lib.hid (by rw [HS.out, hco.out, if_neg (by simp [c2, c3])])
                  clear hco HS
                  go_wp2
                  go_roundw
                  case rel => exact ⟨q + 1, _, by omega, Lib.hid (Int.natCast_succ q).symm, rfl, by rw [HCN.out]; exact HW.out⟩
                  case measure => simp [intOf]; omega
              · go_wp2
                (refine aO 9 (by kernel_rfl) (by kernel_rfl) ?_; simp only [List.take_succ_cons, List.take_zero, List.drop_succ_cons, List.drop_zero]; (repeat (first | go_big_quiet_step ((first | fail)))); refine wpQuiet_nil ?_; rintro _ ⟨u, rfl⟩)
                go_wp2
                go_roundw
                case rel =>
                  refine ⟨q + 1, _, by omega, Lib.hid (Int.natCast_succ q).symm, rfl, ?_⟩
                  have h1 := (HW.out.below u.bel).put hbW (TB.rCf2 (x := bits .or .i64 cv (2 ^ q)) (HW.out.below u.bel).tb (by rw [hlc]; omega))
                  rw [hlc] at h1
                  rw [HS.out, hco.out, if_pos (by simp [c1, c2]), HWP.out]
                  exact h1
                case measure => simp [intOf]; omega
          · obtain rfl : q = 8 := by omega
            have hk8 : ¬ k2 < 8 := by have := HK2.out; omega
            clear HK2
            have HW := Lib.hid hW
            clear hW
            go_wp2
            go_roundw
            case rel => exact ⟨j + 1, _, _, by omega, Lib.hid (Int.natCast_succ j).symm, rfl, by unfold nT; rw [bw (fun p => aw p 8)]; exact HW.out⟩
            case measure => simp [intOf]; omega
      · have e2 : Int.tmod (j : Int) 2 = 1 := by rw [Int.tmod_eq_emod_of_nonneg (by omega)]; omega
        have e4 : Int.tmod (j : Int) 4 = 3 := by rw [Int.tmod_eq_emod_of_nonneg (by omega)]; omega
        have hph : (cy (aI j)) = [.bool true, .int .i64 50, .int .i64 20, .int .i64 200, .int .i64 300, .int .i64 50, .int .i64 35, .int .i64 10, .int .i64 70, .int .i64 80, .int .i64 0, .bool true, .bool false] := by simp [cy, aI, h4, show j % 2 = 1 by omega]
        have hfl : aR j = 1 := by simp [aR, h4]
        have hE : kk (C.setIfInBounds (121 + j) (.int .i64 1)) (j * 13) (#[.bool true, .int .i64 50, .int .i64 20, .int .i64 200, .int .i64 300, .int .i64 50, .int .i64 35, .int .i64 10, .int .i64 70, .int .i64 80, .int .i64 0, .bool true, .bool false] : Array Value).toList = aS 131 (ah (af (((List.range j).map aI) ++ [aI j]) bZ ((List.range j).map fun p => aw p 8) ((List.range j).map aZ) [] [] cn (((List.range j).map aR) ++ [aR j]) 8640000 600) vg vd (.slice none 0 0) (.slice none 0 0)) := by
          rw [hfl]
          have h := hEA.out
          rw [hph] at h
          exact h
        clear hEA hEB
        have hF : SmW w (((wr.setCell ⟨b, 121 + j, none⟩ (.int .i64 1)).alloc (.cells #[.bool true, .int .i64 50, .int .i64 20, .int .i64 200, .int .i64 300, .int .i64 50, .int .i64 35, .int .i64 10, .int .i64 70, .int .i64 80, .int .i64 0, .bool true, .bool false] 26)).setCells b (j * 13) (#[.bool true, .int .i64 50, .int .i64 20, .int .i64 200, .int .i64 300, .int .i64 50, .int .i64 35, .int .i64 10, .int .i64 70, .int .i64 80, .int .i64 0, .bool true, .bool false] : Array Value).toList) b (af (((List.range j).map aI) ++ [aI j]) bZ ((List.range j).map fun p => aw p 8) ((List.range j).map aZ) [] [] cn (((List.range j).map aR) ++ [aR j]) 8640000 600) vg vd := by
          refine SmW.of hWW.out hbW ?_ ?_ rfl rfl rfl rfl
          · refine Kp.trans ?_ (Kp.sets _ _)
            exact (Kp.set _ _).more _ lX
          · refine (ap (C := (C.setIfInBounds (121 + j) (.int .i64 1))) (t := 34) _ IsBlk.out (j * 13)).trans ?_
            exact congrArg (fun x => some (Obj.cells x 34)) hE
        go_wp2_with (first
          | (refine ac (o := j * 13) (cs := #[.bool true, .int .i64 50, .int .i64 20, .int .i64 200, .int .i64 300, .int .i64 50, .int .i64 35, .int .i64 10, .int .i64 70, .int .i64 80, .int .i64 0, .bool true, .bool false]) 26 rfl rfl rfl rfl (by simp only [Array.size_setIfInBounds, hCS.out]; show j * 13 + 13 ≤ 131; omega) (by kernel_rfl) (by simp [Value.oneCell']) ?_
             generalize ((wr.setCell ⟨b, 121 + j, none⟩ (.int .i64 1)).alloc (.cells #[.bool true, .int .i64 50, .int .i64 20, .int .i64 200, .int .i64 300, .int .i64 50, .int .i64 35, .int .i64 10, .int .i64 70, .int .i64 80, .int .i64 0, .bool true, .bool false] 26)).setCells b (j * 13) (#[.bool true, .int .i64 50, .int .i64 20, .int .i64 200, .int .i64 300, .int .i64 50, .int .i64 35, .int .i64 10, .int .i64 70, .int .i64 80, .int .i64 0, .bool true, .bool false] : Array Value).toList = W5 at hF ⊢
             have hW5 := hF
             clear hF
             have HW5 := Lib.hid (hW5.below ((Below.refl _ _).alloc (Nat.le_refl _) (.cells #[.int .i64 j, .float .f64 4621819117588971520, .float .f64 4617315517961601024, .float .f64 0, .float .f64 4602678819172646912, .int .i64 6000, .int .i64 0] 58)))
             haveI iB5 : IsBlk W5 b _ _ := ⟨hW5.tb.blk⟩
             have h113 : (aS 131 (ah (af (((List.range j).map aI) ++ [aI j]) bZ ((List.range j).map fun p => aw p 8) ((List.range j).map aZ) [] [] cn (((List.range j).map aR) ++ [aR j]) 8640000 600) vg vd (.slice none 0 0) (.slice none 0 0)))[113]? = some vd := (ab _ _ _ (by decide)).trans (congrArg some (gj _ _ _ _ _))
             generalize aS 131 (ah (af (((List.range j).map aI) ++ [aI j]) bZ ((List.range j).map fun p => aw p 8) ((List.range j).map aZ) [] [] cn (((List.range j).map aR) ++ [aR j]) 8640000 600) vg vd (.slice none 0 0) (.slice none 0 0)) = C5 at *
             have g1 := HW5.out.tb.de
             have hbs := HW5.out.tb.lt
             have lb5 := iB5.le.out
             have hcell : ∀ j' u, (aQ (aZ j))[j']? = some u → (W5.alloc (.cells #[.int .i64 j, .float .f64 4621819117588971520, .float .f64 4617315517961601024, .float .f64 0, .float .f64 4602678819172646912, .int .i64 6000, .int .i64 0] 58)).cell? ⟨W5.heap.size, j', none⟩ = some u := fun j' u hj => aV (aq _ _) j' (by simpa [aQ, aZ] using hj)
             clear hE hW5)
          | (refine bo eC 56 _ 30 Tryz.underlying30 fH rfl (by decide) (by decide) rfl _ _ rfl (b + 1) rfl g1 (b := W5.heap.size) (aZ j) (by simp [aQ, Value.oneCell']) rfl hcell (by simp only [af]; omega) (by omega) ?_
             intro v' w6 hown' hg
             have hro : ∀ k, vd.ownBlock = some k → b + 1 ≤ k := fun k hk => g1.own hk
             haveI iB6 : IsBlk w6 b C5 34 := ⟨by rw [hg.block _ (by simp; omega) (fun e => by have := hro _ e.symm; omega)]; exact (inferInstance : IsBlk (W5.alloc (.cells #[.int .i64 j, .float .f64 4621819117588971520, .float .f64 4617315517961601024, .float .f64 0, .float .f64 4602678819172646912, .int .i64 6000, .int .i64 0] 58)) b C5 34).out⟩
             obtain ⟨a', n', cap', rfl⟩ := hown'.slice
             have HT5 := Lib.hid (HW5.out.grow hbW hg hro (TB.appDe (x := aZ j) HW5.out.tb hg hown' (by simp only [List.length_map, List.length_range]; omega)))
             clear hown' hg hcell g1 HW5 hro hbs))
        have hB : SmW w (w6.setCell ⟨b, 113, none⟩ (.slice a' n' cap')) b (af ((List.range (j + 1)).map aI) bZ (((List.range j).map fun p => aw p 8) ++ [0]) ((List.range (j + 1)).map aZ) [] [] cn ((List.range (j + 1)).map aR) 8640000 600) vg (.slice a' n' cap') := by
          rw [bw aI, bw aZ, bw aR]; exact SmW.cf0 HT5.out
        clear HT5 iB6 iB5 h113 hWW iB apB apC hph hfl hV hV2 hCS
        generalize (w6.setCell ⟨b, 113, none⟩ (.slice a' n' cap')) = W7 at *
        go_loopw [44] (fun i wx => ∃ (q : Nat) (k : Int), q ≤ 8 ∧ Hid (k = q) ∧ i = .int .i64 k ∧ SmW w wx b (af ((List.range (j + 1)).map aI) bZ (((List.range j).map fun p => aw p 8) ++ [aw j q]) ((List.range (j + 1)).map aZ) [] [] cn ((List.range (j + 1)).map aR) 8640000 600) vg (.slice a' n' cap')) (fun i _ => 8 - (intOf i).toNat)
        case atStart => exact ⟨0, 0, by omega, Lib.hid rfl, rfl, hB⟩
        case round =>
          clear hB
          obtain ⟨q, k2, hq, HK2, rfl, hW⟩ := hrel
          by_cases hq8 : q < 8
          · obtain rfl := HK2.out
            clear HK2
            have hqI : (q : Int) < 8 := by omega
            have hT := hW.tb.isTab.cf j hj8
            have hcl : (af ((List.range (j + 1)).map aI) bZ (((List.range j).map fun p => aw p 8) ++ [aw j q]) ((List.range (j + 1)).map aZ) [] [] cn ((List.range (j + 1)).map aR) 8640000 600).cf j = aw j q := by
              have := jk ((List.range j).map fun p => aw p 8) (aw j q)
              rw [hlc] at this
              exact this
            rw [hcl] at hT
            haveI iB : IsBlk wr b _ _ := ⟨hW.tb.blk⟩
            have HS : Hid (aw j (q + 1) = if iq j q = true then bits .or .i64 (aw j q) (2 ^ q) else aw j q) := Lib.hid rfl
            have HW := Lib.hid hW
            clear hW hcl
            generalize aS 131 (ah (af ((List.range (j + 1)).map aI) bZ (((List.range j).map fun p => aw p 8) ++ [aw j q]) ((List.range (j + 1)).map aZ) [] [] cn ((List.range (j + 1)).map aR) 8640000 600) vg (.slice a' n' cap') (.slice none 0 0) (.slice none 0 0)) = C7 at *
            generalize aw j q = cv at *
            obtain ⟨q2, hq2⟩ : ∃ x : Int, x = ((q / 2 : Nat) : Int) := ⟨_, rfl⟩
            obtain ⟨q22, hq22⟩ : ∃ x : Int, x = ((q / 2 % 2 : Nat) : Int) := ⟨_, rfl⟩
            obtain ⟨q4, hq4⟩ : ∃ x : Int, x = ((q / 4 : Nat) : Int) := ⟨_, rfl⟩
            obtain ⟨p2, hp2⟩ : ∃ x : Int, x = ((j / 2 : Nat) : Int) := ⟨_, rfl⟩
            obtain ⟨p22, hp22⟩ : ∃ x : Int, x = ((j / 2 % 2 : Nat) : Int) := ⟨_, rfl⟩
            obtain ⟨p4, hp4⟩ : ∃ x : Int, x = ((j / 4 : Nat) : Int) := ⟨_, rfl⟩
            have d1 : Int.tdiv (q : Int) 2 = q2 := by rw [Int.tdiv_eq_ediv_of_nonneg (by omega)]; omega
            have d2 : Int.tmod q2 2 = q22 := by rw [Int.tmod_eq_emod_of_nonneg (by omega)]; omega
            have d3 : Int.tdiv (q : Int) 4 = q4 := by rw [Int.tdiv_eq_ediv_of_nonneg (by omega)]; omega
            have d4 : Int.tdiv (j : Int) 2 = p2 := by rw [Int.tdiv_eq_ediv_of_nonneg (by omega)]; omega
            have d5 : Int.tmod p2 2 = p22 := by rw [Int.tmod_eq_emod_of_nonneg (by omega)]; omega
            have d6 : Int.tdiv (j : Int) 4 = p4 := by rw [Int.tdiv_eq_ediv_of_nonneg (by omega)]; omega
            have hco : Hid (iq j q = (decide ((q : Int) ≠ j) && (decide (q22 ≠ p22) || decide (q4 = p4)))) := Lib.hid (by
              unfold iq
              have a1 : (q != j) = decide ((q : Int) ≠ j) := by
                by_cases h : q = j
                · simp [h]
                · have h2 : ¬ (q : Int) = j := by omega
                  simp [h, h2]
              have a2 : (q / 2 % 2 != j / 2 % 2) = decide (q22 ≠ p22) := by
                by_cases h : q / 2 % 2 = j / 2 % 2
                · have h2 : q22 = p22 := by omega
                  simp [h, h2]
                · have h2 : ¬ q22 = p22 := by omega
                  simp [h, h2]
              have a3 : (q / 4 == j / 4) = decide (q4 = p4) := by
                by_cases h : q / 4 = j / 4
                · have h2 : q4 = p4 := by omega
                  simp [h, h2]
                · have h2 : ¬ q4 = p4 := by omega
                  simp [h, h2]
              rw [a1, a2, a3])
            have nq2 : 0 ≤ q2 := by omega
            have mq2 : q2 ≤ 8 := by omega
            have nq22 : 0 ≤ q22 := by omega
            have mq22 : q22 ≤ 8 := by omega
            have nq4 : 0 ≤ q4 := by omega
            have mq4 : q4 ≤ 8 := by omega
            have np2 : 0 ≤ p2 := by omega
            have mp2 : p2 ≤ 8 := by omega
            have np22 : 0 ≤ p22 := by omega
            have mp22 : p22 ≤ 8 := by omega
            have np4 : 0 ≤ p4 := by omega
            have mp4 : p4 ≤ 8 := by omega
            clear hq2 hq22 hq4 hp2 hp22 hp4
            have HWP : Hid (wrap64 (2 ^ q) = 2 ^ q) := Lib.hid (by
              have h8 : q = 0 ∨ q = 1 ∨ q = 2 ∨ q = 3 ∨ q = 4 ∨ q = 5 ∨ q = 6 ∨ q = 7 := by omega
              rcases h8 with rfl | rfl | rfl | rfl | rfl | rfl | rfl | rfl <;> exact ut _ (by decide))
            have b3f : ¬ q4 = p4 → (q4 == p4) = false := fun h => beq_eq_false_iff_ne.2 h
            by_cases c1 : (q : Int) = j
            · have hqj : q = j := by omega
              have HCN : Hid (aw j (q + 1) = cv) := Lib.hid (by rw [HS.out, hco.out, if_neg (by simp [c1])])
              clear hco HS hqj
              go_wp2
              go_roundw
              case rel => exact ⟨q + 1, (q : Int) + 1, by omega, Lib.hid (Int.natCast_succ q).symm, by rw [c1], by rw [HCN.out]; exact HW.out⟩
              case measure => simp [intOf]; omega
            · by_cases c2 : q22 = p22
              · by_cases c3 : q4 = p4
                · go_wp2
                  (refine aO 9 (by kernel_rfl) (by kernel_rfl) ?_; simp only [List.take_succ_cons, List.take_zero, List.drop_succ_cons, List.drop_zero]; (repeat (first | go_big_quiet_step ((first | fail)))); refine wpQuiet_nil ?_; rintro _ ⟨u, rfl⟩)
                  go_wp2
                  go_roundw
                  case rel =>
                    refine ⟨q + 1, _, by omega, Lib.hid (Int.natCast_succ q).symm, rfl, ?_⟩
                    have h1 := (HW.out.below u.bel).put hbW (TB.rCf2 (x := bits .or .i64 cv (2 ^ q)) (HW.out.below u.bel).tb (by rw [hlc]; omega))
                    rw [hlc] at h1
                    rw [HS.out, hco.out, if_pos (by simp [c1, c3]), HWP.out]
                    exact h1
                  case measure => simp [intOf]; omega
                · have c3b := b3f c3
                  have HCN : Hid (aw j (q + 1) = cv) := Lib.hid (by rw [HS.out, hco.out, if_neg (by simp [c2, c3])])
                  clear hco HS
                  go_wp2
                  go_roundw
                  case rel => exact ⟨q + 1, _, by omega, Lib.hid (Int.natCast_succ q).symm, rfl, by rw [HCN.out]; exact HW.out⟩
                  case measure => simp [intOf]; omega
              · go_wp2
                (refine aO 9 (by kernel_rfl) (by kernel_rfl) ?_; simp only [List.take_succ_cons, List.take_zero, List.drop_succ_cons, List.drop_zero]; (repeat (first | go_big_quiet_step ((first | fail)))); refine wpQuiet_nil ?_; rintro _ ⟨u, rfl⟩)
                go_wp2
                go_roundw
                case rel =>
                  refine ⟨q + 1, _, by omega, Lib.hid (Int.natCast_succ q).symm, rfl, ?_⟩
                  have h1 := (HW.out.below u.bel).put hbW (TB.rCf2 (x := bits .or .i64 cv (2 ^ q)) (HW.out.below u.bel).tb (by rw [hlc]; omega))
                  rw [hlc] at h1
                  rw [HS.out, hco.out, if_pos (by simp [c1, c2]), HWP.out]
                  exact h1
                case measure => simp [intOf]; omega
          · obtain rfl : q = 8 := by omega
            have hk8 : ¬ k2 < 8 := by have := HK2.out; omega
            clear HK2
            have HW := Lib.hid hW
            clear hW
            go_wp2
            go_roundw
            case rel => exact ⟨j + 1, _, _, by omega, Lib.hid (Int.natCast_succ j).symm, rfl, by unfold nT; rw [bw (fun p => aw p 8)]; exact HW.out⟩
            case measure => simp [intOf]; omega
    · obtain rfl : j = 8 := by omega
      have hk8 : ¬ k < 8 := by have := HK.out; omega
      clear HK
      haveI iB : IsBlk wr b _ _ := ⟨hW.tb.blk⟩
      obtain ⟨C8, hC8⟩ : ∃ C8, aS 131 (ah (nT 8) vg vd (.slice none 0 0) (.slice none 0 0)) = C8 := ⟨_, rfl⟩
      have v114 : ∃ V, C8[114]? = some V := ⟨_, by rw [← hC8]; exact ab _ _ _ (by decide)⟩
      have v115 : ∃ V, C8[115]? = some V := ⟨_, by rw [← hC8]; exact ab _ _ _ (by decide)⟩
      obtain ⟨V4, v114⟩ := v114
      obtain ⟨V5, v115⟩ := v115
      rw [hC8] at iB
      have HC8 := Lib.hid hC8
      have HW := Lib.hid hW
      clear hC8 hW
      haveI := iB
      have hTB : TB ((((wr.setCell ⟨b, 114, none⟩ (.slice (some ⟨wr.heap.size, 0, none⟩) 1 1)).setCell ⟨b, 115, none⟩ (.slice (some ⟨wr.heap.size + 1, 0, none⟩) 1 1)).alloc (.cells #[.int .i64 204, .int .i64 136, .int .i64 34, .int .i64 68, .int .i64 5, .int .i64 20, .int .i64 30, .int .i64 100, .int .i64 100, .int .i64 3000, .int .i64 4000] 100)).alloc (.cells #[.int .i64 34, .int .i64 600] 110)) ((((wr.setCell ⟨b, 114, none⟩ (.slice (some ⟨wr.heap.size, 0, none⟩) 1 1)).setCell ⟨b, 115, none⟩ (.slice (some ⟨wr.heap.size + 1, 0, none⟩) 1 1)).alloc (.cells #[.int .i64 204, .int .i64 136, .int .i64 34, .int .i64 68, .int .i64 5, .int .i64 20, .int .i64 30, .int .i64 100, .int .i64 100, .int .i64 3000, .int .i64 4000] 100)).alloc (.cells #[.int .i64 34, .int .i64 600] 110)) b bR vg vd (.slice (some ⟨wr.heap.size, 0, none⟩) 1 1) (.slice (some ⟨wr.heap.size + 1, 0, none⟩) 1 1) := by
        refine SmW.fin HW.out hbW (Kp.more _ (Kp.more _ ((Kp.set 114 _).trans (Kp.set 115 _)) lX) lX) (by omega) (by omega) ?_ ?_ ?_
        · rw [HC8.out]; exact (inferInstance : IsBlk ((((wr.setCell ⟨b, 114, none⟩ (.slice (some ⟨wr.heap.size, 0, none⟩) 1 1)).setCell ⟨b, 115, none⟩ (.slice (some ⟨wr.heap.size + 1, 0, none⟩) 1 1)).alloc (.cells #[.int .i64 204, .int .i64 136, .int .i64 34, .int .i64 68, .int .i64 5, .int .i64 20, .int .i64 30, .int .i64 100, .int .i64 100, .int .i64 3000, .int .i64 4000] 100)).alloc (.cells #[.int .i64 34, .int .i64 600] 110)) b _ 34).out
        · exact (inferInstance : IsBlk ((((wr.setCell ⟨b, 114, none⟩ (.slice (some ⟨wr.heap.size, 0, none⟩) 1 1)).setCell ⟨b, 115, none⟩ (.slice (some ⟨wr.heap.size + 1, 0, none⟩) 1 1)).alloc (.cells #[.int .i64 204, .int .i64 136, .int .i64 34, .int .i64 68, .int .i64 5, .int .i64 20, .int .i64 30, .int .i64 100, .int .i64 100, .int .i64 3000, .int .i64 4000] 100)).alloc (.cells #[.int .i64 34, .int .i64 600] 110)) wr.heap.size _ _).out
        · exact (inferInstance : IsBlk ((((wr.setCell ⟨b, 114, none⟩ (.slice (some ⟨wr.heap.size, 0, none⟩) 1 1)).setCell ⟨b, 115, none⟩ (.slice (some ⟨wr.heap.size + 1, 0, none⟩) 1 1)).alloc (.cells #[.int .i64 204, .int .i64 136, .int .i64 34, .int .i64 68, .int .i64 5, .int .i64 20, .int .i64 30, .int .i64 100, .int .i64 100, .int .i64 3000, .int .i64 4000] 100)).alloc (.cells #[.int .i64 34, .int .i64 600] 110)) (wr.heap.size + 1) _ _).out
      have iB9 : IsBlk ((((wr.setCell ⟨b, 114, none⟩ (.slice (some ⟨wr.heap.size, 0, none⟩) 1 1)).setCell ⟨b, 115, none⟩ (.slice (some ⟨wr.heap.size + 1, 0, none⟩) 1 1)).alloc (.cells #[.int .i64 204, .int .i64 136, .int .i64 34, .int .i64 68, .int .i64 5, .int .i64 20, .int .i64 30, .int .i64 100, .int .i64 100, .int .i64 3000, .int .i64 4000] 100)).alloc (.cells #[.int .i64 34, .int .i64 600] 110)) b ((C8.setIfInBounds 114 (.slice (some ⟨wr.heap.size, 0, none⟩) 1 1)).setIfInBounds 115 (.slice (some ⟨wr.heap.size + 1, 0, none⟩) 1 1)) 34 := inferInstance
      haveI iZr := HW.out.iZ
      haveI apZ : Apart w.heap.size b := ⟨by omega⟩
      have iZ9 : IsBlk ((((wr.setCell ⟨b, 114, none⟩ (.slice (some ⟨wr.heap.size, 0, none⟩) 1 1)).setCell ⟨b, 115, none⟩ (.slice (some ⟨wr.heap.size + 1, 0, none⟩) 1 1)).alloc (.cells #[.int .i64 204, .int .i64 136, .int .i64 34, .int .i64 68, .int .i64 5, .int .i64 20, .int .i64 30, .int .i64 100, .int .i64 100, .int .i64 3000, .int .i64 4000] 100)).alloc (.cells #[.int .i64 34, .int .i64 600] 110)) w.heap.size aj 34 := inferInstance
      have hbel : Below w.heap.size w ((((wr.setCell ⟨b, 114, none⟩ (.slice (some ⟨wr.heap.size, 0, none⟩) 1 1)).setCell ⟨b, 115, none⟩ (.slice (some ⟨wr.heap.size + 1, 0, none⟩) 1 1)).alloc (.cells #[.int .i64 204, .int .i64 136, .int .i64 34, .int .i64 68, .int .i64 5, .int .i64 20, .int .i64 30, .int .i64 100, .int .i64 100, .int .i64 3000, .int .i64 4000] 100)).alloc (.cells #[.int .i64 34, .int .i64 600] 110)) := by
        have h0 := ((HW.out.bel.setCell (p := ⟨b, 114, none⟩) (by show w.heap.size ≤ b; omega) (.slice (some ⟨wr.heap.size, 0, none⟩) 1 1)).setCell (p := ⟨b, 115, none⟩) (by show w.heap.size ≤ b; omega) (.slice (some ⟨wr.heap.size + 1, 0, none⟩) 1 1))
        have h1 := h0.alloc h0.size (.cells #[.int .i64 204, .int .i64 136, .int .i64 34, .int .i64 68, .int .i64 5, .int .i64 20, .int .i64 30, .int .i64 100, .int .i64 100, .int .i64 3000, .int .i64 4000] 100)
        exact h1.alloc h1.size _
      have hC9 : ((C8.setIfInBounds 114 (.slice (some ⟨wr.heap.size, 0, none⟩) 1 1)).setIfInBounds 115 (.slice (some ⟨wr.heap.size + 1, 0, none⟩) 1 1)) = aS 131 (ah bR vg vd (.slice (some ⟨wr.heap.size, 0, none⟩) 1 1) (.slice (some ⟨wr.heap.size + 1, 0, none⟩) 1 1)) := by
        have h := iB9.out.symm.trans hTB.blk
        simpa using h
      have HONE : Hid ((((C8.setIfInBounds 114 (.slice (some ⟨wr.heap.size, 0, none⟩) 1 1)).setIfInBounds 115 (.slice (some ⟨wr.heap.size + 1, 0, none⟩) 1 1))).all (·.oneCell') = true) := Lib.hid (by rw [hC9]; exact hTB.isTab.one)
      have HS9 : Hid ((((C8.setIfInBounds 114 (.slice (some ⟨wr.heap.size, 0, none⟩) 1 1)).setIfInBounds 115 (.slice (some ⟨wr.heap.size + 1, 0, none⟩) 1 1))).size = 131) := Lib.hid (by rw [hC9]; exact aE _ _)
      have HTAB : Hid (ag ((((((wr.setCell ⟨b, 114, none⟩ (.slice (some ⟨wr.heap.size, 0, none⟩) 1 1)).setCell ⟨b, 115, none⟩ (.slice (some ⟨wr.heap.size + 1, 0, none⟩) 1 1)).alloc (.cells #[.int .i64 204, .int .i64 136, .int .i64 34, .int .i64 68, .int .i64 5, .int .i64 20, .int .i64 30, .int .i64 100, .int .i64 100, .int .i64 3000, .int .i64 4000] 100)).alloc (.cells #[.int .i64 34, .int .i64 600] 110))).setCells w.heap.size 0 (((C8.setIfInBounds 114 (.slice (some ⟨wr.heap.size, 0, none⟩) 1 1)).setIfInBounds 115 (.slice (some ⟨wr.heap.size + 1, 0, none⟩) 1 1))).toList) ((C8.setIfInBounds 114 (.slice (some ⟨wr.heap.size, 0, none⟩) 1 1)).setIfInBounds 115 (.slice (some ⟨wr.heap.size + 1, 0, none⟩) 1 1)) bR) := Lib.hid (by
        rw [hC9]
        exact (hTB.other (k := w.heap.size) (i := 0) (by omega)).isTab)
      have HSET : Hid (((((((wr.setCell ⟨b, 114, none⟩ (.slice (some ⟨wr.heap.size, 0, none⟩) 1 1)).setCell ⟨b, 115, none⟩ (.slice (some ⟨wr.heap.size + 1, 0, none⟩) 1 1)).alloc (.cells #[.int .i64 204, .int .i64 136, .int .i64 34, .int .i64 68, .int .i64 5, .int .i64 20, .int .i64 30, .int .i64 100, .int .i64 100, .int .i64 3000, .int .i64 4000] 100)).alloc (.cells #[.int .i64 34, .int .i64 600] 110))).setCells w.heap.size 0 (((C8.setIfInBounds 114 (.slice (some ⟨wr.heap.size, 0, none⟩) 1 1)).setIfInBounds 115 (.slice (some ⟨wr.heap.size + 1, 0, none⟩) 1 1))).toList).heap[w.heap.size]? = some (.cells ((C8.setIfInBounds 114 (.slice (some ⟨wr.heap.size, 0, none⟩) 1 1)).setIfInBounds 115 (.slice (some ⟨wr.heap.size + 1, 0, none⟩) 1 1)) 34)) := Lib.hid (by rw [ap _ iZ9.out, yp (by rw [HS9.out, HZ.out])])
      have HBE : Hid (Below w.heap.size w ((((((wr.setCell ⟨b, 114, none⟩ (.slice (some ⟨wr.heap.size, 0, none⟩) 1 1)).setCell ⟨b, 115, none⟩ (.slice (some ⟨wr.heap.size + 1, 0, none⟩) 1 1)).alloc (.cells #[.int .i64 204, .int .i64 136, .int .i64 34, .int .i64 68, .int .i64 5, .int .i64 20, .int .i64 30, .int .i64 100, .int .i64 100, .int .i64 3000, .int .i64 4000] 100)).alloc (.cells #[.int .i64 34, .int .i64 600] 110))).setCells w.heap.size 0 (((C8.setIfInBounds 114 (.slice (some ⟨wr.heap.size, 0, none⟩) 1 1)).setIfInBounds 115 (.slice (some ⟨wr.heap.size + 1, 0, none⟩) 1 1))).toList)) := Lib.hid (al _ _ hbel (Nat.le_refl _))
      clear hTB hC9 hbel
      go_wp2_with (first | (refine ax 34 _ (C := ((C8.setIfInBounds 114 (.slice (some ⟨wr.heap.size, 0, none⟩) 1 1)).setIfInBounds 115 (.slice (some ⟨wr.heap.size + 1, 0, none⟩) 1 1))) rfl rfl rfl Tryz.underlying34 rfl (by rw [HS9.out]; kernel_rfl) ?_; go_simp) | (refine ac (o := 0) (cs := ((C8.setIfInBounds 114 (.slice (some ⟨wr.heap.size, 0, none⟩) 1 1)).setIfInBounds 115 (.slice (some ⟨wr.heap.size + 1, 0, none⟩) 1 1))) (C := aj) 34 rfl rfl rfl rfl (by rw [HZ.out, HS9.out]; exact Nat.le_refl _) (by rw [HS9.out]; kernel_rfl) HONE.out ?_; go_simp))
      have hset := HSET.out
      have htab := HTAB.out
      have hbe := HBE.out
      simp only [Array.toList_setIfInBounds] at hset htab hbe
      refine bodyPost_ret (results_cell_row (p := 0) (ty := 34) rfl _ _ w.heap.size 34 ((C8.setIfInBounds 114 (.slice (some ⟨wr.heap.size, 0, none⟩) 1 1)).setIfInBounds 115 (.slice (some ⟨wr.heap.size + 1, 0, none⟩) 1 1)) (0, 0) _ rfl hset Tryz.underlying34 rfl (by rw [HS9.out]; kernel_rfl)) rfl ?_
      exact ⟨_, rfl, htab, hbe⟩
end
end Go.Proofs.YtodgfjgljcinlaaGreat
