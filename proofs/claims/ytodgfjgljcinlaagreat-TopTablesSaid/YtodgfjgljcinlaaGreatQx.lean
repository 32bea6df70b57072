/- Part Qx of the proof: AllR. -/
import Derived.Test.YtodgfjgljcinlaaGreatQw
import Derived.Test.YtodgfjgljcinlaaGreatQm
namespace Go.Proofs.YtodgfjgljcinlaaGreat
set_option maxHeartbeats 8000000
set_option maxRecDepth 100000
set_option linter.unusedVariables false
section
open Go.RowKit
theorem aan {b : Int} : ∀ (l : List Int) (a : Int), a ≤ b → (∀ x ∈ l, x ≤ b) → l.foldl max a ≤ b
 | [], a, h, _ => h
 | x :: l, a, h, hl => aan l (max a x) (by have := hl x (List.mem_cons_self ..); omega) fun y hy => hl y (List.mem_cons_of_mem _ hy)
theorem zg {b : Int} (hb : 0 ≤ b) {l : List Int} (h : ∀ x ∈ l, x ≤ b) : cd l ≤ b := aan l 0 hb h
theorem aam : ∀ (l : List Int) (a : Int), a ≤ l.foldl max a
 | [], a => Int.le_refl _
 | x :: l, a => Int.le_trans (by omega) (aam l (max a x))
theorem zz (l : List Int) : 0 ≤ cd l := aam l 0
theorem aal : ∀ (l : List Int) (a : Int), 0 ≤ a → (∀ x ∈ l, 0 ≤ x) → l.foldl aP a ≤ a + yQ l
 | [], a, _, _ => by simp [yQ]
 | x :: l, a, ha, h => by
  have h1 := h x (List.mem_cons_self ..)
  have e : aP a x ≤ a + x ∧ 0 ≤ aP a x := by unfold aP aU; omega
  have := aal l (aP a x) e.2 fun y hy => h y (List.mem_cons_of_mem _ hy)
  show l.foldl aP (aP a x) ≤ a + (x + yQ l)
  omega
theorem yG {l : List Int} (h : ∀ x ∈ l, 0 ≤ x) : ch l ≤ yQ l := by
 have := aal l 0 (Int.le_refl _) h
 unfold ch; omega
theorem aak : ∀ (l : List Int) (a : Int), 0 ≤ a ∧ a ≤ 2147483647 → a ≤ l.foldl aP a
 | [], a, _ => Int.le_refl _
 | x :: l, a, h => by
  have e : a ≤ aP a x ∧ aP a x ≤ 2147483647 := by unfold aP aU; omega
  exact Int.le_trans e.1 (aak l (aP a x) (by omega))
theorem abM {x : Int} {l : List Int} (h : 0 ≤ x ∧ x ≤ 2147483647) : x ≤ ch (x :: l) := by
 have e : aP 0 x = x := by unfold aP aU; omega
 have := aak l x h
 unfold ch; rw [List.foldl_cons, e]; exact this
theorem abY (zs : List Int) (p : Int) : 0 ≤ cZ (ye zs) p ∧ cZ (ye zs) p ≤ 200 := by
 unfold cZ
 split
 ·have hp := aax zs p.toNat
  have h1 := hp.min
  have h2 := hp.max
  have h3 := hp.top
  have h4 := hp.yel
  have h5 := hp.red
  have h6 := hp.walk
  have h7 := hp.blinks
  have h8 := abN zs
  have h9 := aep zs
  unfold se
  generalize (ye zs).ph p.toNat = x at *
  refine ⟨(pk _).1, ?_⟩
  have hm : 0 ≤ cd [aU x.min, ch [x.walk, x.blinks], aU x.top] ∧ cd [aU x.min, ch [x.walk, x.blinks], aU x.top] ≤ 60 := by
   refine ⟨zz _, zg (by omega) ?_⟩
   have := yG (l := [x.walk, x.blinks]) (by simp; omega)
   simp only [yQ, List.foldr_cons, List.foldr_nil] at this
   simp only [List.mem_cons, List.not_mem_nil, or_false, forall_eq_or_imp, forall_eq]
   unfold aU; omega
  generalize cd [aU x.min, ch [x.walk, x.blinks], aU x.top] = m at *
  have := yG (l := [m, (ye zs).ext, x.yel, x.red, (ye zs).rev, 8]) (by simp; omega)
  simp only [yQ, List.foldr_cons, List.foldr_nil] at this
  omega
 ·omega
theorem aae (zs : List Int) (g : Int) : 0 ≤ cK (ye zs) g ∧ cK (ye zs) g ≤ 1608 := by
 unfold cK
 split
 ·refine ⟨(pk _).1, ?_⟩
  have h0 : ∀ x ∈ xW (ye zs) g (io (ye zs).gr), 0 ≤ x := fun x hx => by
   obtain ⟨s, _, rfl⟩ := List.mem_map.1 (show x ∈ ((io (ye zs).gr).filter fun s => (s.g : Int) == g).map fun s => cZ (ye zs) s.p from hx)
   exact (abY zs _).1
  have h1 := yG (l := 8 :: xW (ye zs) g (io (ye zs).gr)) fun x hx => by
   rcases List.mem_cons.1 hx with rfl | hx
   ·omega
   ·exact h0 x hx
  have h2 : yQ (xW (ye zs) g (io (ye zs).gr)) ≤ ((io (ye zs).gr).filter fun s => (s.g : Int) == g).length * 200 := abL (f := fun s : Spot => cZ (ye zs) s.p) _ fun s _ => (abY zs _).2
  have h3 := List.length_filter_le (fun s : Spot => (s.g : Int) == g) (io (ye zs).gr)
  have h4 := acu zs
  have e : yQ (8 :: xW (ye zs) g (io (ye zs).gr)) = 8 + yQ (xW (ye zs) g (io (ye zs).gr)) := rfl
  omega
 ·omega
theorem ad3 (zs : List Int) (p : Int) : 0 ≤ dg (ye zs) p ∧ dg (ye zs) p ≤ 7000 := by
 refine ⟨(rk _ _).1, ?_⟩
 unfold dg
 split
 ·omega
 ·rename_i x _
  split
  ·have h0 : ∀ y ∈ u9 (ye zs) (ye zs).gr.length, 0 ≤ y := fun y hy => by
    obtain ⟨g, _, rfl⟩ := List.mem_map.1 (show y ∈ (List.range (ye zs).gr.length).map fun g : Nat => cK (ye zs) (g : Int) from hy)
    exact (aae zs _).1
   have h1 := yG (l := cK (ye zs) x.g :: u9 (ye zs) (ye zs).gr.length) fun y hy => by
    rcases List.mem_cons.1 hy with rfl | hy
    ·exact (aae zs _).1
    ·exact h0 y hy
   have h2 : yQ (u9 (ye zs) (ye zs).gr.length) ≤ (List.range (ye zs).gr.length).length * 1608 := abL (f := fun g : Nat => cK (ye zs) (g : Int)) _ fun s _ => (aae zs _).2
   rw [List.length_range] at h2
   have hlen : (ye zs).gr.length = yo zs := (yx zs).2.2
   have hg := yD zs
   have h3 := (aae zs x.g).2
   have e : yQ (cK (ye zs) x.g :: u9 (ye zs) (ye zs).gr.length) = cK (ye zs) x.g + yQ (u9 (ye zs) (ye zs).gr.length) := rfl
   omega
  ·omega
theorem abW (zs : List Int) : 0 ≤ cE (ye zs) ∧ cE (ye zs) ≤ 17 := by
 refine ⟨zz _, zg (by omega) fun x hx => ?_⟩
 obtain ⟨p, _, rfl⟩ := List.mem_map.1 (show x ∈ (ci (eB (ye zs))).map fun p => ch [((ye zs).ph p.toNat).yel, ((ye zs).ph p.toNat).red] from hx)
 have hp := aax zs p.toNat
 have h4 := hp.yel
 have h5 := hp.red
 have := yG (l := [((ye zs).ph p.toNat).yel, ((ye zs).ph p.toNat).red]) (by simp; omega)
 simp only [yQ, List.foldr_cons, List.foldr_nil] at this
 omega
theorem ae0 (zs : List Int) {r : Rl} (h : r ∈ (ye zs).ra) : iL r = true := by
 have := acf zs
 simp only [dS, Bool.and_eq_true] at this
 exact List.all_eq_true.1 this.1.1.1.1.2.2 r h
theorem abX (zs : List Int) {r : Rl} (h : r ∈ (ye zs).ra) : 0 ≤ dL (ye zs) r ∧ dL (ye zs) r ≤ 100000 ∧ 0 ≤ r.stay ∧ r.stay ≤ 9999 := by
 have hm := ae0 zs h
 unfold iL at hm
 simp only [Bool.and_eq_true, yE, List.mem_cons, List.not_mem_nil, or_false, forall_eq_or_imp, forall_eq] at hm
 have hc := abW zs
 have hr := abN zs
 refine ⟨(pk _).1, ?_, by omega, by omega⟩
 unfold dL
 generalize cE (ye zs) = c at *
 generalize (ye zs).rev = v at *
 have := yG (l := [r.dly, r.hold, r.grn, r.grn, r.foot, r.foot, r.foot, c, c, c, c, c, v, v, v, 60]) (by simp; omega)
 simp only [yQ, List.foldr_cons, List.foldr_nil] at this
 omega
theorem ad4 (zs : List Int) : 0 ≤ iV (ye zs) ∧ iV (ye zs) ≤ 200000 := by
 unfold iV
 split
 ·omega
 ·refine ⟨(pk _).1, ?_⟩
  have h1 : cd (vt (ye zs) (ye zs).ra) ≤ 110000 := zg (by omega) fun x hx => by
   obtain ⟨r, hr, rfl⟩ := List.mem_map.1 (show x ∈ (ye zs).ra.map fun r => ch [dL (ye zs) r, r.stay] from hx)
   have h2 := abX zs hr
   have := yG (l := [dL (ye zs) r, r.stay]) (by simp; omega)
   simp only [yQ, List.foldr_cons, List.foldr_nil] at this
   omega
  have h2 : cd (xH (ye zs) (ci (eB (ye zs)))) ≤ 60 := zg (by omega) fun x hx => by
   obtain ⟨p, _, hx⟩ := List.mem_flatMap.1 (show x ∈ (ci (eB (ye zs))).flatMap fun p => [aU ((ye zs).ph p.toNat).min, ch [((ye zs).ph p.toNat).walk, ((ye zs).ph p.toNat).blinks]] from hx)
   have hp := aax zs p.toNat
   have h1 := hp.min
   have h6 := hp.walk
   have h7 := hp.blinks
   have := yG (l := [((ye zs).ph p.toNat).walk, ((ye zs).ph p.toNat).blinks]) (by simp; omega)
   simp only [yQ, List.foldr_cons, List.foldr_nil] at this
   simp only [List.mem_cons, List.not_mem_nil, or_false] at hx
   rcases hx with rfl | rfl
   ·unfold aU; omega
   ·omega
  have h3 := zz (vt (ye zs) (ye zs).ra)
  have h4 := zz (xH (ye zs) (ci (eB (ye zs))))
  have hc := abW zs
  have hr := abN zs
  generalize cd (vt (ye zs) (ye zs).ra) = a at *
  generalize cd (xH (ye zs) (ci (eB (ye zs)))) = b at *
  have := yG (l := [a, b, cE (ye zs), (ye zs).rev, 30]) (by simp; omega)
  simp only [yQ, List.foldr_cons, List.foldr_nil] at this
  omega
theorem aef {a b c : Int} (ha : 0 ≤ a ∧ a ≤ c) (hb : 0 ≤ b) : dG a b ≤ c * b := by
 have h1 : aU a * aU b ≤ c * b := by
  have e1 : aU a ≤ c ∧ 0 ≤ aU a := by unfold aU; omega
  have e2 : aU b ≤ b ∧ 0 ≤ aU b := by unfold aU; omega
  exact Int.mul_le_mul e1.1 e2.1 e2.2 (by omega)
 have h0 : 0 ≤ c * b := Int.mul_nonneg (by omega) hb
 unfold dG
 generalize aU a * aU b = x at *
 unfold aU; omega
theorem ad5 (zs : List Int) (p : Int) : 0 ≤ cm (ye zs) p ∧ cm (ye zs) p ≤ 2000000 := by
 refine ⟨(tR _ _).1, ?_⟩
 have hf := ad3 zs p
 have ho := ad4 zs
 unfold cm
 split
 ·omega
 ·have hs : 0 ≤ (ye zs).share ∧ (ye zs).share < 4 := yh zs 183 (by omega)
  have h1 := yG (l := [(ye zs).share, 1]) (by simp; omega)
  have h2 := yG (l := [iV (ye zs), dg (ye zs) p, 2]) (by simp; omega)
  have h3 := pk [(ye zs).share, 1]
  have h4 := pk [iV (ye zs), dg (ye zs) p, 2]
  simp only [yQ, List.foldr_cons, List.foldr_nil] at h1 h2
  have h5 := aef (a := ch [(ye zs).share, 1]) (b := ch [iV (ye zs), dg (ye zs) p, 2]) (c := 4) (by omega) h4.1
  have h6 : 0 ≤ dG (ch [(ye zs).share, 1]) (ch [iV (ye zs), dg (ye zs) p, 2]) := (cg _).1
  have := yG (l := [dG (ch [(ye zs).share, 1]) (ch [iV (ye zs), dg (ye zs) p, 2]), (ye zs).share]) (by simp; omega)
  simp only [yQ, List.foldr_cons, List.foldr_nil] at this
  omega
theorem abO (t : Tab) : ∀ n k : Nat, k < n → cm t k ≤ yJ t n
 | 0, k, h => by omega
 | n + 1, k, h => by
  unfold yJ
  by_cases he : k = n
  ·subst he; omega
  ·have := abO t n k (by omega); omega
theorem aet (zs : List Int) : dR (ye zs) = (0, 0) := by
 have hc := adi zs
 unfold dR
 rw [hc]
 simp only [ne_eq, not_true_eq_false, if_false]
 have h1 : ((ci (eB (ye zs))).find? fun p => bq (cm (ye zs) p)) = none := by
  rw [List.find?_eq_none]; intro p _
  have := ad5 zs p
  unfold bq; simp; omega
 have h2 : ((List.range (ye zs).ra.length).find? fun k => bq (eN (ye zs) k)) = none := by
  rw [List.find?_eq_none]; intro k hk
  rw [List.mem_range] at hk
  unfold eN
  rw [List.getElem?_eq_getElem hk]
  have := abX zs (List.getElem_mem hk)
  unfold bq; simp; omega
 rw [h1, h2]
 simp only
 rw [if_neg]
 rintro ⟨hr, hw⟩
 have e : (ye zs).win = yJ (ye zs) (yf zs).1 := by
  show (if (zI zs).ra.length = 0 then 0 else yJ (zI zs) (yf zs).1) = _
  have : (zI zs).ra.length ≠ 0 := by have : (ye zs).ra.length = (zI zs).ra.length := rfl; omega
  rw [if_neg this]
  have key : ∀ n, yJ (zI zs) n = yJ (ye zs) n := fun n => by
   induction n with
   | zero => rfl
   | succ n ih => unfold yJ; rw [ih]; rfl
  exact key _
 have hm : cd ((ci (eB (ye zs))).map (cm (ye zs))) ≤ (ye zs).win := by
  rw [e]
  refine zg ?_ fun x hx => ?_
  ·have := abO (ye zs) (yf zs).1 0 (by have := yx zs; omega)
   have := tR (ye zs) (0 : Nat)
   omega
  ·obtain ⟨p, hp, rfl⟩ := List.mem_map.1 hx
   rw [ql] at hp
   obtain ⟨p, rfl, _⟩ := zy hp
   exact abO _ _ _ (adG hp)
 omega
theorem aeD (t : Tab) (p : Nat) (hp : p < 8) : aT (eB t) p = (t.ph p).on := by
 unfold eB tB
 rw [rL _ hp, yH _ hp, Bool.eq_iff_iff, List.contains_iff_mem]
 unfold onL
 simp only [List.mem_map, List.mem_filter, List.mem_range]
 constructor
 ·rintro ⟨i, ⟨hi, hon⟩, he⟩
  have : i = p := by omega
  subst this; exact hon
 ·intro h; exact ⟨p, ⟨hp, h⟩, rfl⟩
theorem abh {on : Int} : ∀ (l : List Int) (seen s : Int), pq on seen l = some s → ∀ q : Nat, q < 8 → aT s q = true → aT seen q = true ∨ (q : Int) ∈ l
 | [], seen, s, h, q, hq, hs => by
  unfold pq at h
  left; rw [show seen = s by simpa using h]; exact hs
 | p :: l, seen, s, h, q, hq, hs => by
  unfold pq at h
  split at h
  ·cases h
  ·rcases abh l _ s h q hq hs with h1 | h1
   ·rw [yK, Bool.or_eq_true] at h1
    rcases h1 with h1 | h1
    ·exact .inl h1
    ·simp only [Bool.and_eq_true, decide_eq_true_eq] at h1
     right; rw [h1.2]; exact List.mem_cons_self ..
   ·exact .inr (List.mem_cons_of_mem _ h1)
theorem aaa {on : Int} : ∀ (l : List (List Int × List Int)) (seen : Int) (g : Nat), dd on seen g l = (0, 0) → ∀ q : Nat, q < 8 → aT on q = true → aT seen q = true ∨ ∃ r ∈ l, (q : Int) ∈ r.1 ++ r.2
 | [], seen, g, h, q, hq, hs => by
  unfold dd at h
  split at h
  ·rename_i e; left; rw [e]; exact hs
  ·cases h
 | r :: l, seen, g, h, q, hq, hs => by
  unfold dd at h
  split at h
  ·cases h
  ·split at h
   ·cases h
   ·rename_i s he
    rcases aaa l s (g + 1) h q hq hs with h1 | ⟨r', hr, h1⟩
    ·rcases abh _ _ _ he q hq h1 with h2 | h2
     ·exact .inl h2
     ·exact .inr ⟨r, List.mem_cons_self .., h2⟩
    ·exact .inr ⟨r', List.mem_cons_of_mem _ hr, h1⟩
theorem abj {t : Tab} {on : Int} : ∀ n, bX t on n = (0, 0) → ∀ k, k < n → bi t on k = (0, 0)
 | 0, _, k, h => by omega
 | n + 1, h, k, hk => by
  unfold bX at h
  split at h
  ·rename_i h0
   by_cases he : k = n
   ·subst he; exact h
   ·exact abj n h0 k (by omega)
  ·rename_i h0; exact absurd h h0
theorem aen {gr : List (List Int × List Int)} {r : List Int × List Int} (hr : r ∈ gr) {q : Nat} (hq : q < 8) (h : (q : Int) ∈ r.1 ++ r.2) : ∃ s ∈ io gr, s.p = (q : Int) := by
 obtain ⟨g, hg, rfl⟩ := List.getElem_of_mem hr
 have hok : qL (q : Int) = true := by unfold qL; simp; omega
 have key : ∀ k, k < 2 → (q : Int) ∈ ak gr g k → ∃ s ∈ io gr, s.p = (q : Int) := fun k hk hm => by
  obtain ⟨i, hi, e⟩ := List.getElem_of_mem hm
  have e2 : (ak gr g k).getD i 0 = (q : Int) := by rw [List.getD_eq_getElem?_getD, List.getElem?_eq_getElem hi, e]; rfl
  exact ⟨_, aem hg hk hi (by rw [e2]; exact hok), e2⟩
 have e : gr[g]? = some gr[g] := List.getElem?_eq_getElem hg
 rcases List.mem_append.1 h with h | h
 ·exact key 0 (by omega) (by unfold ak; rw [e]; exact h)
 ·exact key 1 (by omega) (by unfold ak; rw [e]; exact h)
theorem aeL {gr : List (List Int × List Int)} {s : Spot} (h : s ∈ io gr) : s.g < gr.length := by
 unfold io ja at h
 obtain ⟨g, hg, h⟩ := List.mem_flatMap.1 h
 rw [sd h]
 exact List.mem_range.1 hg
theorem adx {t : Tab} {p : Int} (hon : aT (eB t) p = true) {x : Spot} (hx : bh t.gr p = some x) (hg : x.g < t.gr.length) : 8 ≤ dg t p := by
 unfold dg
 rw [hx]
 simp only
 rw [if_pos hon]
 have hp : 8 ≤ cK t x.g := by
  unfold cK
  rw [if_pos (by omega)]
  exact abM (by omega)
 have hb : cK t x.g ≤ 2147483647 := by
  unfold cK; split
  ·exact (pk _).2
  ·omega
 exact Int.le_trans hp (abM ⟨by omega, hb⟩)
theorem adX {t : Tab} {p : Int} (h : 1 ≤ dg t p) : 1 ≤ cm t p := by
 unfold cm
 split
 ·exact h
 ·have h1 : 1 ≤ ch [t.share, 1] := by
   have e : ch [t.share, 1] = aP (aP 0 t.share) 1 := rfl
   rw [e]; unfold aP aU; omega
  have h2 : 1 ≤ ch [iV t, dg t p, 2] := by
   have e : ch [iV t, dg t p, 2] = aP (aP (aP 0 (iV t)) (dg t p)) 2 := rfl
   rw [e]; unfold aP aU; omega
  have h3 : 1 ≤ dG (ch [t.share, 1]) (ch [iV t, dg t p, 2]) := by
   have b1 := pk [t.share, 1]
   have b2 := pk [iV t, dg t p, 2]
   generalize ch [t.share, 1] = a at *
   generalize ch [iV t, dg t p, 2] = b at *
   have e1 : aU a = a := by unfold aU; omega
   have e2 : aU b = b := by unfold aU; omega
   have : 1 * 1 ≤ a * b := Int.mul_le_mul h1 h2 (by omega) (by omega)
   unfold dG
   rw [e1, e2]
   generalize a * b = c at *
   unfold aU; omega
  have h4 : dG (ch [t.share, 1]) (ch [iV t, dg t p, 2]) ≤ 2147483647 := (cg _).2
  exact Int.le_trans h3 (abM ⟨by omega, h4⟩)
theorem aa1 {t : Tab} (h : (dR t).1 = 0) : aL t = (0, 0) := by
 by_cases hc : (aL t).1 = 0
 ·exact dF hc
 ·exact absurd (by rw [← fY hc]; exact h) hc
theorem ace {t : Tab} (h : (dR t).1 = 0) {p : Nat} (hp : p < 8) : (0 < df t p ↔ (t.ph p).on = true) ∧ 0 ≤ df t p ∧ df t p < 2147483647 := by
 have hc := aa1 h
 obtain ⟨hm, hr⟩ := iy (by rw [hc])
 have hbi : df t p = if aT (eB t) p then cm t p else 0 := by
  unfold df pl
  rw [if_pos h, if_pos hp]
 rw [hbi, ← aeD t p hp]
 cases hon : aT (eB t) p
 ·simp
 ·simp only [if_true, iff_true]
  have hrg := abj 7 hr 1 (by omega)
  have hwh : ∃ x, bh t.gr p = some x ∧ x.g < t.gr.length := by
   have hrg2 : ka t (eB t) = (0, 0) := hrg
   unfold ka at hrg2
   split at hrg2
   ·cases hrg2
   ·rcases aaa _ _ _ hrg2 p hp hon with h0 | ⟨r, hr, hq⟩
    ·rw [zl] at h0; cases h0
    ·obtain ⟨s, hs, he⟩ := aen hr hp hq
     have : (bh t.gr p).isSome = true := by
      unfold bh
      rw [List.find?_isSome]
      exact ⟨s, hs, by rw [he]; simp⟩
     obtain ⟨x, hx⟩ := Option.isSome_iff_exists.1 this
     refine ⟨x, hx, aeL ?_⟩
     unfold bh at hx
     exact List.mem_of_find?_eq_some hx
  obtain ⟨x, hx, hg⟩ := hwh
  have h1 := adX (t := t) (p := p) (by have := adx hon hx hg; omega)
  refine ⟨by omega, by omega, ?_⟩
  have hfull : bq (cm t p) = false := by
   cases hf : bq (cm t p)
   ·rfl
   ·exfalso
    have hne : ((ci (eB t)).find? fun p => bq (cm t p)) ≠ none := fun e => by
     rw [List.find?_eq_none] at e
     exact e p (ql.2 hon) hf
    unfold dR at h
    rw [hc] at h
    simp only [ne_eq, not_true_eq_false, if_false] at h
    split at h
    ·simp at h
    ·rename_i e; exact hne e
  unfold bq at hfull
  simp at hfull; omega
theorem aa6 {t : Tab} (h : (dR t).1 = 0) (k : Nat) : df t (8 + k) < 2147483647 := by
 have hc := aa1 h
 have hbi : df t (8 + k) = eN t k := by
  unfold df pl
  rw [if_pos h, if_neg (by omega), show 8 + k - 8 = k by omega]
 rw [hbi]
 by_cases hk : k < t.ra.length
 ·have hfull : bq (eN t k) = false := by
   cases hf : bq (eN t k)
   ·rfl
   ·exfalso
    have hne : ((List.range t.ra.length).find? fun k => bq (eN t k)) ≠ none := fun e => by
     rw [List.find?_eq_none] at e
     exact e k (List.mem_range.2 hk) hf
    unfold dR at h
    rw [hc] at h
    simp only [ne_eq, not_true_eq_false, if_false] at h
    split at h
    ·simp at h
    ·split at h
     ·simp at h
     ·rename_i e; exact hne e
  unfold bq at hfull
  simp at hfull; omega
 ·unfold eN
  rw [List.getElem?_eq_none (by omega)]
  simp
end
end Go.Proofs.YtodgfjgljcinlaaGreat
