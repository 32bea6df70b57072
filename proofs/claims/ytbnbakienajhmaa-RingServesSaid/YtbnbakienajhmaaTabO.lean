/- The table that numbers give: the model, and the table's block while it is made. -/
import Derived.Test.YtbnbakienajhmaaTabN
import Derived.Test.YtbnbakienajhmaaTabE
namespace Go.Proofs.Ytbnbakienajhmaa
open Go.RowKit
set_option linter.unusedVariables false

def fset {α : Type} (f : Nat → α) (i : Nat) (x : α) : Nat → α := fun j => if j = i then x else f j
def ph1 (zs : List Int) (n : Nat) : Nat → Phs := fun p => if p < n then phM zs (10 + 12 * p) else ph0
def fl1 (n : Nat) : Nat → Int := fun p => if p < n then 1 else 0
def cfC (gr : List (List Int × List Int)) (zs : List Int) (p q : Nat) : Bool := !besideM gr p q && fr zs (110 + 8 * p + q) 9 != 1
def cfS (gr : List (List Int × List Int)) (zs : List Int) (p q : Nat) (cf : Nat → Int) : Nat → Int :=
  if cfC gr zs p q then fset (fset cf p (withM (cf p) q)) q (withM (fset cf p (withM (cf p) q) q) p) else cf
def cfQ (gr : List (List Int × List Int)) (zs : List Int) (p : Nat) (cf : Nat → Int) : Nat → Nat → Int
  | 0 => cf
  | q + 1 => cfS gr zs p q (cfQ gr zs p cf q)
def cfP (gr : List (List Int × List Int)) (zs : List Int) : Nat → Nat → Int
  | 0 => fun _ => 0
  | p + 1 => cfQ gr zs p (cfP gr zs p) p
def deM (zs : List Int) (n k m : Nat) : List Det := (List.range m).map fun j => detM zs (180 + 8 * (k - j)) n
def raM (gr : List (List Int × List Int)) (zs : List Int) (n k m : Nat) : List Rl := (List.range m).map fun j => rlM gr zs (260 + 16 * (k - j)) n
def buX (zs : List Int) (n i : Nat) : Bus := ⟨if 1 < bits .and .i64 (fr zs (330 + 2 * i) 256) (2 ^ n - 1) then bits .and .i64 (fr zs (330 + 2 * i) 256) (2 ^ n - 1) else 1, 1 + fr zs (331 + 2 * i) 30⟩
def buM (zs : List Int) (n k m : Nat) : List Bus := (List.range m).map fun j => buX zs n (k - j)
def winM (t : Tab) : Nat → Int
  | 0 => 0
  | p + 1 => max (winM t p) (waitZ t p)
def tab0 : Tab := ⟨fun _ => ph0, [], fun _ => 0, [], [], [], 0, 0, 0, 0, 0, fun _ => 0, 0, 0⟩
def flM (zs : List Int) (n : Nat) : Nat → Int := if fr zs 174 (n + 1) < n then fset (fl1 n) (fr zs 174 (n + 1)).toNat 2 else fl1 n
def tabW (zs : List Int) : Tab :=
  let n := (rowsM zs).1
  let gr := (rowsM zs).2
  let kd := (fr zs 175 9).toNat
  let kr := (fr zs 176 4 % 3).toNat
  let kb := (fr zs 177 3).toNat
  { ph := ph1 zs n, gr := gr, cf := cfP gr zs n, de := deM zs n kd kd, ra := raM gr zs n kr kr, bu := buM zs n kb kb,
    ext := fr zs 178 12, bud := fr zs 179 40, start := fr zs 180 8, rev := fr zs 181 8, least := fr zs 182 12, fl := flM zs n, win := 0, share := fr zs 183 4 }
/-- The table that numbers give. -/
def tabM (zs : List Int) : Tab := { tabW zs with win := if (tabW zs).ra.length = 0 then 0 else winM (tabW zs) (rowsM zs).1 }

/-! ### Stores into a table's cells -/
theorem arrF_set {n : Nat} {f g : Nat → Value} {i : Nat} {v : Value} (hi : i < n) (h : ∀ j, j < n → g j = if j = i then v else f j) : (arrF n f).setIfInBounds i v = arrF n g := by
  refine arrF_of (by simp [arrF_size]) fun j hj => ?_
  rw [Array.getElem?_setIfInBounds]
  rw [h j hj]
  by_cases e : i = j
  · subst e; simp [arrF_size, hi]
  · rw [if_neg e, if_neg (Ne.symm e), arrF_get _ _ _ hj]
theorem arrF_spl {n : Nat} {f g : Nat → Value} {o : Nat} {vs : List Value} (ho : o + vs.length ≤ n) (h : ∀ j, j < n → g j = if o ≤ j ∧ j < o + vs.length then (vs[j - o]?).getD undef else f j) : spl (arrF n f) o vs = arrF n g := by
  refine arrF_of (by rw [spl_size, arrF_size]) fun j hj => ?_
  rw [spl_get, h j hj, arrF_size]
  by_cases e : o ≤ j ∧ j < o + vs.length
  · rw [if_pos ⟨e.1, e.2, hj⟩, if_pos e, List.getElem?_eq_getElem (by omega)]; rfl
  · rw [if_neg (by omega), if_neg e, arrF_get _ _ _ hj]
/-- The slices' lengths. -/
structure TabBd (t : Tab) : Prop where
  lg : t.gr.length ≤ 8
  lr : ∀ i j, (rowOf t.gr i j).length ≤ 8
  ld : t.de.length ≤ 64
  la : t.ra.length ≤ 64
  lb : t.bu.length ≤ 64
theorem detC_len (x : Det) : (detC x).length = 7 := rfl
theorem rlC_len (x : Rl) : (rlC x).length = 11 := rfl
theorem busC_len (x : Bus) : (busC x).length = 2 := rfl
/-- The block of a table that is being made: its slices are the call's own. -/
structure TB (w0 wr : World) (b : Nat) (t : Tab) (vg vd vr vb : Value) : Prop where
  blk : wr.heap[b]? = some (.cells (arrF 131 (tabAt t vg vd vr vb)) 32)
  gr : ∃ hs, OwnPairs wr (b + 1) vg hs ∧ PairsOf wr (b + 1) hs t.gr
  de : OwnK 73 7 detC wr (b + 1) vd t.de
  ra : OwnK 76 11 rlC wr (b + 1) vr t.ra
  bu : OwnK 79 2 busC wr (b + 1) vb t.bu
  bd : TabBd t
  bel : Below b w0 wr
theorem TB.lt {w0 wr : World} {b : Nat} {t : Tab} {vg vd vr vb : Value} (h : TB w0 wr b t vg vd vr vb) : b < wr.heap.size := (Array.getElem?_eq_some_iff.1 h.blk).1
theorem TB.below {w0 wr w' : World} {b : Nat} {t : Tab} {vg vd vr vb : Value} (h : TB w0 wr b t vg vd vr vb) (hb : Below wr.heap.size wr w') : TB w0 w' b t vg vd vr vb := by
  obtain ⟨hs, h1, h2⟩ := h.gr
  exact ⟨by rw [hb.block _ h.lt]; exact h.blk, ⟨hs, OwnK.below (C := prC) h1 hb, h2.below hb⟩, h.de.below hb, h.ra.below hb, h.bu.below hb, h.bd, h.bel.trans (hb.mono (Nat.le_of_lt h.lt))⟩
theorem pairs_row {w : World} {base : Nat} {hs : List (Value × Value)} {gr : List (List Int × List Int)} (h : PairsOf w base hs gr) {i j : Nat} (hi : i < gr.length) (hj : j < 2) :
    ∃ a cap, cellK prC hs i j = .slice a (rowOf gr i j).length cap ∧ Ints w a (rowOf gr i j) := by
  have g1 : gr[i]? = some gr[i] := List.getElem?_eq_getElem hi
  have g2 : hs[i]? = some (hs[i]'(by rw [h.1]; exact hi)) := List.getElem?_eq_getElem (by rw [h.1]; exact hi)
  obtain ⟨o1, o2⟩ := h.2 i _ _ g2 g1
  unfold cellK rowOf
  simp only [g1, g2, Option.bind_some, prC]
  rcases (show j = 0 ∨ j = 1 by omega) with rfl | rfl
  · obtain ⟨a, cap, e, hi⟩ := o1.opened; exact ⟨a, cap, by simp [e], hi⟩
  · obtain ⟨a, cap, e, hi⟩ := o2.opened; exact ⟨a, cap, by simp [e], hi⟩
def sliceOf : Value → Option Addr × Nat | .slice a _ c => (a, c) | _ => (none, 0)
theorem TB.isTab {w0 wr : World} {b : Nat} {t : Tab} {vg vd vr vb : Value} (h : TB w0 wr b t vg vd vr vb) : IsTab wr (arrF 131 (tabAt t vg vd vr vb)) t := by
  obtain ⟨hs, h1, h2⟩ := h.gr
  have h1' : OwnK 92 2 prC wr (b + 1) vg hs := h1
  obtain ⟨ga, gcap, rfl, _, _, _, r1⟩ := OwnK.opened prC_len h1'
  obtain ⟨da, dcap, rfl, _, _, _, r2⟩ := OwnK.opened detC_len h.de
  obtain ⟨xa, xcap, rfl, _, _, _, r3⟩ := OwnK.opened rlC_len h.ra
  obtain ⟨ba, bcap, rfl, _, _, _, r4⟩ := OwnK.opened busC_len h.bu
  refine ⟨_, _, _, _, rfl, ⟨⟨ga, gcap, fun i j => sliceOf (cellK prC hs i j), by rw [h2.1], ?_, fun i hi j hj => ?_⟩, ⟨_, _, rfl, r2⟩, ⟨_, _, rfl, r3⟩, ⟨_, _, rfl, r4⟩, h.bd.lg, h.bd.lr, h.bd.ld, h.bd.la, h.bd.lb⟩⟩
  · rw [h2.1] at r1
    refine r1.congr fun i hi j hj => ?_
    obtain ⟨a, cap, e, _⟩ := pairs_row h2 hi hj
    show cellK prC hs i j = Value.slice (sliceOf (cellK prC hs i j)).1 _ (sliceOf (cellK prC hs i j)).2
    rw [e]; rfl
  · obtain ⟨a, cap, e, hi'⟩ := pairs_row h2 hi hj
    show Ints wr (sliceOf (cellK prC hs i j)).1 _
    rw [e]; exact hi'
/-- The table's detectors lie in a row of the call's own. -/
def OwnDe (w : World) (base : Nat) (T : Array Value) (de : List Det) : Prop := ∃ v, T[113]? = some v ∧ OwnK 73 7 detC w base v de
theorem TB.ownDe {w0 wr : World} {b : Nat} {t : Tab} {vg vd vr vb : Value} (h : TB w0 wr b t vg vd vr vb) : OwnDe wr (b + 1) (arrF 131 (tabAt t vg vd vr vb)) t.de := ⟨vd, by rw [arrF_get _ _ _ (by omega)]; rfl, h.de⟩
theorem OwnDe.less {w : World} {base base' : Nat} {T : Array Value} {de : List Det} (h : OwnDe w base T de) (hb : base' ≤ base) : OwnDe w base' T de := by
  obtain ⟨v, h1, h2⟩ := h
  exact ⟨v, h1, h2.less hb⟩
/-- A store of one plain cell into the table. -/
theorem TB.put {w0 wr : World} {b : Nat} {t t' : Tab} {vg vd vr vb : Value} (h : TB w0 wr b t vg vd vr vb) {i : Nat} {v : Value} (hi : i < 131) (ht : ∀ j, j < 131 → tabAt t' vg vd vr vb j = if j = i then v else tabAt t vg vd vr vb j)
    (e1 : t'.gr = t.gr) (e2 : t'.de = t.de) (e3 : t'.ra = t.ra) (e4 : t'.bu = t.bu) : TB w0 (wr.setCell ⟨b, i, none⟩ v) b t' vg vd vr vb := by
  obtain ⟨hs, h1, h2⟩ := h.gr
  have hg := grownBy_set wr b i v
  refine ⟨by rw [heap_set_same h.blk, arrF_set hi ht], ⟨hs, OwnK.kept (C := prC) h1 hg (.inr (OwnK.ne (C := prC) h1 (by omega))), ?_⟩, ?_, ?_, ?_, ⟨by rw [e1]; exact h.bd.lg, by rw [e1]; exact h.bd.lr, by rw [e2]; exact h.bd.ld, by rw [e3]; exact h.bd.la, by rw [e4]; exact h.bd.lb⟩, h.bel.setCell (p := ⟨b, i, none⟩) (Nat.le_refl _) _⟩
  · rw [e1]; exact h2.kept hg fun v xs h => .inr (h.ne (by omega))
  · rw [e2]; exact h.de.kept hg (.inr (h.de.ne (by omega)))
  · rw [e3]; exact h.ra.kept hg (.inr (h.ra.ne (by omega)))
  · rw [e4]; exact h.bu.kept hg (.inr (h.bu.ne (by omega)))
theorem grownBy_sets (w : World) (b o : Nat) (vs : List Value) : w.grownBy (w.setCells b o vs) (some b) := by
  refine ⟨?_, ?_, ?_, by rw [size_setCells]; exact Nat.le_refl _, fun k _ hk => heap_sets_other vs o (by simpa using hk)⟩
  all_goals
    induction vs generalizing w o with
    | nil => rfl
    | cons v r ih => rw [World.setCells, ih]; rfl
theorem TB.putPh {w0 wr : World} {b : Nat} {t : Tab} {vg vd vr vb : Value} (h : TB w0 wr b t vg vd vr vb) {p : Nat} {x : Phs} (hp : p < 8) : TB w0 (wr.setCells b (p * 13) (phC x)) b { t with ph := fset t.ph p x } vg vd vr vb := by
  obtain ⟨hs, h1, h2⟩ := h.gr
  have hg := grownBy_sets wr b (p * 13) (phC x)
  refine ⟨?_, ⟨hs, OwnK.kept (C := prC) h1 hg (.inr (OwnK.ne (C := prC) h1 (by omega))), h2.kept hg fun v xs h => .inr (h.ne (by omega))⟩, h.de.kept hg (.inr (h.de.ne (by omega))), h.ra.kept hg (.inr (h.ra.ne (by omega))), h.bu.kept hg (.inr (h.bu.ne (by omega))), ⟨h.bd.lg, h.bd.lr, h.bd.ld, h.bd.la, h.bd.lb⟩, below_setCells _ _ h.bel (Nat.le_refl _)⟩
  rw [heap_sets_same _ h.blk, arrF_spl (g := tabAt { t with ph := fset t.ph p x } vg vd vr vb) (by show p * 13 + 13 ≤ 131; omega)]
  intro j hj
  show _ = if p * 13 ≤ j ∧ j < p * 13 + 13 then _ else _
  unfold tabAt
  by_cases h1 : j < 104
  · rw [if_pos h1, if_pos h1]
    simp only [fset]
    by_cases hj2 : p * 13 ≤ j ∧ j < p * 13 + 13
    · rw [if_pos hj2, if_pos (by omega), List.getD_eq_getElem?_getD, show j % 13 = j - p * 13 by omega]
    · rw [if_neg hj2, if_neg (by omega)]
  · rw [if_neg h1, if_neg h1, if_neg (show ¬(p * 13 ≤ j ∧ j < p * 13 + 13) by omega)]
/-- Appends to the table's slices. -/
theorem own_ne2 {w : World} {b1 b2 k n n' m : Nat} {v u : Value} {xs : List Value} {ys : List Value} {e1 e2 : TypeId} (he : e1 ≠ e2) (h1 : w.ownsRow b1 e1 k v n xs) (h2 : w.ownsRow b2 e2 m u n' ys) : u.ownBlock = none ∨ u.ownBlock ≠ v.ownBlock := own_ne he h1 h2
theorem TB.append {w0 wr w1 : World} {b : Nat} {t : Tab} {vg vd vr vb : Value} (h : TB w0 wr b t vg vd vr vb) {e k n : Nat} {v : Value} {xs : List Value} (hv : wr.ownsRow (b + 1) e k v n xs) (hg : wr.grownBy w1 v.ownBlock) :
    (w1.heap[b]? = some (.cells (arrF 131 (tabAt t vg vd vr vb)) 32)) ∧ (92 ≠ e → 3 ≠ e → ∃ hs, OwnPairs w1 (b + 1) vg hs ∧ PairsOf w1 (b + 1) hs t.gr) ∧
    (73 ≠ e → OwnK 73 7 detC w1 (b + 1) vd t.de) ∧ (76 ≠ e → OwnK 76 11 rlC w1 (b + 1) vr t.ra) ∧ (79 ≠ e → OwnK 79 2 busC w1 (b + 1) vb t.bu) ∧ Below b w0 w1 := by
  obtain ⟨hs, h1, h2⟩ := h.gr
  have hlt := h.lt
  have hne : v.ownBlock ≠ some b := by
    rcases hv.2 with ⟨rfl, _⟩ | ⟨g, cap, cur, rfl, hg, _⟩
    · simp [Value.ownBlock]
    · simp [Value.ownBlock]; omega
  refine ⟨by rw [hg.block b hlt (fun e => hne e.symm)]; exact h.blk, fun n1 n2 => ⟨hs, OwnK.kept (C := prC) h1 hg (own_ne (Ne.symm n1) hv h1), h2.kept hg fun v xs h => own_ne (Ne.symm n2) hv h⟩, fun n1 => h.de.kept hg (own_ne (Ne.symm n1) hv h.de), fun n1 => h.ra.kept hg (own_ne (Ne.symm n1) hv h.ra), fun n1 => h.bu.kept hg (own_ne (Ne.symm n1) hv h.bu), ?_⟩
  refine h.bel.grown hg (by omega) (fun j hj => ?_)
  rcases hv.2 with ⟨rfl, _⟩ | ⟨g, cap, cur, rfl, hg, _⟩
  · simp [Value.ownBlock] at hj
  · simp [Value.ownBlock] at hj; omega
end Go.Proofs.Ytbnbakienajhmaa
