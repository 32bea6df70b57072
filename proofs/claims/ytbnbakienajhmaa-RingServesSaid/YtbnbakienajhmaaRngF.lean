/- RingServes: what a phase's service still takes: the measure of one phase, tick by tick. RingServes: sums without a cap; what a phase costs within its Serve; a group's Pass. RingServes: the measure of a visit to a group, tick by tick. RingServes: who is pressed. RingServes: a tick while a phase waits: some place costs less, or the rings cross. RingServes: the bound: what a visit still takes, and the groups on the way. RingServes: a tick of the rings: whoever waits comes nearer. A phase that is always wanted is green again and again, each time within its bound. -/
import Derived.Test.YtbnbakienajhmaaRngO
namespace Go.Proofs.Ytbnbakienajhmaa
section
open Go.RowKit
set_option linter.unusedVariables false

/-- A run in this play: nobody on foot, counts from 0 on. -/
structure RuOk (r : Rn) : Prop where
  fs : r.fs = 0
  t : 0 ≤ r.t
  l : 0 ≤ r.l
  p : 0 ≤ r.p
/-- The play's cues: begin, end, pressed. -/
structure CuOk (k : Cu) : Prop where
  he : k.he = false
  pu : k.pu = false
  ho : k.ho = false
  ea : k.ea = false
  cu : k.cu = false
theorem cueM_ok (st en pr : Int) (p : Nat) : CuOk (cueM st en pr p) := ⟨rfl, rfl, rfl, rfl, rfl⟩
def limP (p : Phs) (r : Rn) : Int := limM p.max p.top r.tl
/-- Ticks till a green is Done, if it is pressed. -/
def dR (p : Phs) (r : Rn) : Int := max 1 (max (p.min - r.t) (min r.l (limP p r - r.p)))
/-- Ticks from the end of green to red. -/
def eP (p : Phs) : Int := max (p.yel - 1) 0 + 1 + p.red
/-- What a phase's service still takes. -/
def rP (p : Phs) (r : Rn) : Int :=
  if r.c = 1 then (if r.d = true then 1 + eP p else dR p r + 1 + eP p)
  else if r.c = 2 then max (p.yel - r.t) 0 + 1 + p.red
  else if r.c = 3 then max (p.red - r.t) 0 + 1 else 0
def dMax (p : Phs) : Int := max 1 (max p.min p.top)
theorem eP_pos {p : Phs} (h : PhIn p) : 1 ≤ eP p := by have := h.red; unfold eP; omega
theorem rP_nonneg {p : Phs} (h : PhIn p) (r : Rn) : 0 ≤ rP p r := by
  have h1 := h.red
  have h2 := eP_pos h
  unfold rP dR
  split
  · split <;> omega
  · split
    · omega
    · split <;> omega
theorem red_c {r : Rn} : redM r = true ↔ r.c ≠ 1 ∧ r.c ≠ 2 ∧ r.c ≠ 3 := by
  unfold redM
  simp [and_assoc]
theorem rP_red {p : Phs} {r : Rn} (h : redM r = true) : rP p r = 0 := by
  obtain ⟨h1, h2, h3⟩ := red_c.1 h
  unfold rP
  rw [if_neg h1, if_neg h2, if_neg h3]
theorem rP_pos {p : Phs} (hp : PhIn p) {r : Rn} (h : redM r = false) : 1 ≤ rP p r := by
  have h1 := hp.red
  have h2 := eP_pos hp
  unfold rP dR
  by_cases c1 : r.c = 1
  · rw [if_pos c1]; split <;> omega
  · rw [if_neg c1]
    by_cases c2 : r.c = 2
    · rw [if_pos c2]; omega
    · rw [if_neg c2]
      by_cases c3 : r.c = 3
      · rw [if_pos c3]; omega
      · exact absurd (red_c.2 ⟨c1, c2, c3⟩) (by rw [h]; simp)
theorem more_t {n : Int} (h : 0 ≤ n) : moreM n = min n 9999 + 1 := by unfold moreM; omega
theorem less_l {n : Int} (h : 0 ≤ n) : lessM n = max (min n 9999 - 1) 0 := by unfold lessM cutT; split <;> omega
/-- A green that goes on. -/
theorem go_ok {p : Phs} {r : Rn} {k : Cu} (hr : RuOk r) (hk : CuOk k) : goR p r k = ⟨1, moreM r.t, 0, 0, lessM r.l, if k.pr = true then moreM r.p else r.p, r.e, r.d, r.m, r.tl, r.tu, r.td⟩ := by
  have hf : gFoot p r k = (0, 0) := by
    unfold gFoot
    rw [if_neg (by simp [hk.cu])]
    unfold ftM
    rw [hr.fs, hk.pu]
    simp
  have hn : gNew p r k = false := by unfold gNew; rw [hf]; simp
  unfold goR
  rw [hf, hn, hk.he]
  simp [leftM]
theorem step_green {p : Phs} {r : Rn} {k : Cu} (hr : RuOk r) (hk : CuOk k) (hc : r.c = 1) (he : k.en = false) :
    stepM p r k = ⟨1, moreM r.t, 0, 0, lessM r.l, if k.pr = true then moreM r.p else r.p, r.e, r.d || (k.pr && !r.d && decide (p.min ≤ moreM r.t) && (lessM r.l == 0 || decide (limP p r ≤ moreM r.p))),
      if (k.pr && !r.d && decide (p.min ≤ moreM r.t) && (lessM r.l == 0 || decide (limP p r ≤ moreM r.p))) = true then (dueR p (goR p r k) k true).m else r.m, r.tl, r.tu, r.td⟩ := by
  have hdue : dueM p (goR p r k) k = (k.pr && !r.d && decide (p.min ≤ moreM r.t) && (lessM r.l == 0 || decide (limP p r ≤ moreM r.p))) := by
    unfold dueM longM
    rw [go_ok hr hk, hk.ea]
    unfold limP shM
    cases hpr : k.pr <;> simp
  unfold stepM
  rw [if_pos hc]
  unfold grnR
  rw [if_neg (by simp [he]), hdue]
  cases hd : (k.pr && !r.d && decide (p.min ≤ moreM r.t) && (lessM r.l == 0 || decide (limP p r ≤ moreM r.p)))
  · unfold dueR
    rw [if_neg (by simp), go_ok hr hk]
    simp
  · rw [if_pos rfl]
    unfold dueR
    rw [if_pos rfl, if_neg (by simp [hk.ho]), go_ok hr hk]
    simp
theorem step_end {p : Phs} {r : Rn} {k : Cu} (hc : r.c = 1) (he : k.en = true) : (stepM p r k).c = 2 ∧ (stepM p r k).t = 1 ∧ (stepM p r k).fs = 0 ∧ (stepM p r k).l = 0 ∧ (stepM p r k).p = 0 := by
  unfold stepM
  rw [if_pos hc]
  unfold grnR
  rw [if_pos he]
  unfold endR asM
  split <;> simp
theorem step_yel {p : Phs} {r : Rn} {k : Cu} (hc : r.c = 2) : stepM p r k = if r.t < p.yel then asM r 2 (moreM r.t) else if 0 < p.red then asM r 3 1 else asM r 0 1 := by
  unfold stepM
  rw [if_neg (by omega), if_pos hc]; rfl
theorem step_clr {p : Phs} {r : Rn} {k : Cu} (hc : r.c = 3) : stepM p r k = if r.t < p.red then asM r 3 (moreM r.t) else asM r 0 1 := by
  unfold stepM
  rw [if_neg (by omega), if_neg (by omega), if_pos hc]; rfl
theorem step_begin {p : Phs} {r : Rn} {k : Cu} (hk : CuOk k) (hc : redM r = true) (hs : k.st = true) : stepM p r k = ⟨1, 1, 0, 0, p.gap, 0, 0, false, false, r.tl, r.tu, r.td⟩ := by
  obtain ⟨h1, h2, h3⟩ := red_c.1 hc
  unfold stepM
  rw [if_neg h1, if_neg h2, if_neg h3]
  unfold redgM
  rw [if_pos hs, hk.pu]
  simp [ftM]
theorem step_rest {p : Phs} {r : Rn} {k : Cu} (hc : redM r = true) (hs : k.st = false) : stepM p r k = asM r 0 (moreM r.t) := by
  obtain ⟨h1, h2, h3⟩ := red_c.1 hc
  unfold stepM
  rw [if_neg h1, if_neg h2, if_neg h3]
  unfold redgM
  rw [if_neg (by simp [hs])]
/-- A run stays as it ought to be. -/
theorem ru_step {p : Phs} {r : Rn} {k : Cu} (hp : PhIn p) (hr : RuOk r) (hk : CuOk k) : RuOk (stepM p r k) := by
  have h1 := hr.t
  have h2 := hr.l
  have h3 := hr.p
  by_cases c1 : r.c = 1
  · cases he : k.en
    · rw [step_green hr hk c1 he]
      refine ⟨rfl, ?_, ?_, ?_⟩
      · show 0 ≤ moreM r.t; rw [more_t h1]; omega
      · show 0 ≤ lessM r.l; rw [less_l h2]; omega
      · show 0 ≤ if k.pr = true then moreM r.p else r.p
        split
        · rw [more_t h3]; omega
        · exact h3
    · obtain ⟨e1, e2, e3, e4, e5⟩ := step_end (p := p) c1 he
      exact ⟨e3, by rw [e2]; omega, by rw [e4]; omega, by rw [e5]; omega⟩
  · by_cases c2 : r.c = 2
    · rw [step_yel c2]
      have := more_t h1
      split
      · exact ⟨rfl, by show 0 ≤ moreM r.t; omega, Int.le_refl _, Int.le_refl _⟩
      · split
        · exact ⟨rfl, by show (0 : Int) ≤ 1; omega, Int.le_refl _, Int.le_refl _⟩
        · exact ⟨rfl, by show (0 : Int) ≤ 1; omega, Int.le_refl _, Int.le_refl _⟩
    · by_cases c3 : r.c = 3
      · rw [step_clr c3]
        have := more_t h1
        split
        · exact ⟨rfl, by show 0 ≤ moreM r.t; omega, Int.le_refl _, Int.le_refl _⟩
        · exact ⟨rfl, by show (0 : Int) ≤ 1; omega, Int.le_refl _, Int.le_refl _⟩
      · have hred := red_c.2 ⟨c1, c2, c3⟩
        have := more_t h1
        cases hs : k.st
        · rw [step_rest hred hs]
          exact ⟨rfl, by show 0 ≤ moreM r.t; omega, Int.le_refl _, Int.le_refl _⟩
        · rw [step_begin hk hred hs]
          exact ⟨rfl, by show (0 : Int) ≤ 1; omega, hp.gap.1, Int.le_refl _⟩
theorem limP_bd {p : Phs} (hp : PhIn p) (r : Rn) : limP p r ≤ p.top ∧ p.top ≤ 50 := by
  have h1 := hp.top
  unfold limP limM; omega
/-- The service goes on: it never takes longer; it takes less where it is not a green that nobody presses, or that is Done. -/
theorem rP_step {p : Phs} {r : Rn} {k : Cu} (hp : PhIn p) (hr : RuOk r) (hk : CuOk k) (hn : redM r = false) :
    rP p (stepM p r k) ≤ rP p r ∧ ((r.c ≠ 1 ∨ k.en = true ∨ (r.d = false ∧ k.pr = true)) → rP p (stepM p r k) ≤ rP p r - 1) := by
  have h1 := hr.t
  have h2 := hr.l
  have h3 := hr.p
  have hred := hp.red
  have hyel := hp.yel
  have hmin := hp.min
  have hlim := limP_bd hp r
  have hm := more_t h1
  by_cases c1 : r.c = 1
  · have hrr : rP p r = if r.d = true then 1 + eP p else dR p r + 1 + eP p := by unfold rP; rw [if_pos c1]
    have hd1 : 1 ≤ dR p r := by unfold dR; omega
    have hE := eP_pos hp
    cases he : k.en
    · have hsg := step_green (p := p) hr hk c1 he
      cases hd : r.d
      · rw [hd] at hrr hsg
        simp only [Bool.false_eq_true, if_false] at hrr
        cases hdue : (k.pr && !false && decide (p.min ≤ moreM r.t) && (lessM r.l == 0 || decide (limP p r ≤ moreM r.p)))
        · rw [hdue] at hsg
          simp only [Bool.or_false, Bool.false_eq_true, if_false] at hsg
          have hnew : rP p (stepM p r k) = max 1 (max (p.min - moreM r.t) (min (lessM r.l) (limP p r - (if k.pr = true then moreM r.p else r.p)))) + 1 + eP p := by
            rw [hsg]; unfold rP dR; simp [limP]
          rw [hnew, hrr]
          have hl := less_l h2
          have hpp := more_t h3
          cases hpr : k.pr
          · refine ⟨?_, fun h => ?_⟩
            · simp only [Bool.false_eq_true, if_false]
              unfold dR
              omega
            · rcases h with h | h | h
              · exact absurd c1 h
              · cases h
              · exact absurd h.2 (by simp)
          · rw [hpr] at hdue
            simp only [Bool.true_and, Bool.not_false, Bool.and_eq_false_iff, decide_eq_false_iff_not, Bool.or_eq_false_iff, beq_eq_false_iff_ne] at hdue
            have key : max 1 (max (p.min - moreM r.t) (min (lessM r.l) (limP p r - (if true = true then moreM r.p else r.p)))) ≤ dR p r - 1 := by
              simp only [if_true]
              unfold dR
              omega
            exact ⟨by omega, fun _ => by omega⟩
        · rw [hdue] at hsg
          simp only [Bool.or_true] at hsg
          have hnew : rP p (stepM p r k) = 1 + eP p := by rw [hsg]; unfold rP; simp
          rw [hnew, hrr]
          exact ⟨by omega, fun _ => by omega⟩
      · rw [hd] at hrr hsg
        simp only [if_true] at hrr
        have hnew : rP p (stepM p r k) = 1 + eP p := by rw [hsg]; unfold rP; simp
        rw [hnew, hrr]
        refine ⟨Int.le_refl _, fun h => ?_⟩
        rcases h with h | h | h
        · exact absurd c1 h
        · cases h
        · cases h.1
    · obtain ⟨e1, e2, _⟩ := step_end (p := p) c1 he
      have hnew : rP p (stepM p r k) = eP p := by
        unfold rP
        rw [e1, e2]
        simp [eP]
      rw [hnew, hrr]
      split <;> exact ⟨by omega, fun _ => by omega⟩
  · by_cases c2 : r.c = 2
    · have hrr : rP p r = max (p.yel - r.t) 0 + 1 + p.red := by unfold rP; rw [if_neg c1, if_pos c2]
      have key : rP p (stepM p r k) ≤ rP p r - 1 := by
        rw [step_yel c2, hrr]
        split
        · unfold rP asM; simp; omega
        · split
          · unfold rP asM; simp; omega
          · unfold rP asM; simp; omega
      exact ⟨by omega, fun _ => key⟩
    · by_cases c3 : r.c = 3
      · have hrr : rP p r = max (p.red - r.t) 0 + 1 := by unfold rP; rw [if_neg c1, if_neg c2, if_pos c3]
        have key : rP p (stepM p r k) ≤ rP p r - 1 := by
          rw [step_clr c3, hrr]
          split
          · unfold rP asM; simp; omega
          · unfold rP asM; simp; omega
        exact ⟨by omega, fun _ => key⟩
      · exact absurd (red_c.2 ⟨c1, c2, c3⟩) (by rw [hn]; simp)
theorem rP_begin {p : Phs} {r : Rn} {k : Cu} (hp : PhIn p) (hk : CuOk k) (hc : redM r = true) (hs : k.st = true) : rP p (stepM p r k) ≤ dMax p + 1 + eP p := by
  rw [step_begin hk hc hs]
  have hmin := hp.min
  have hgap := hp.gap
  have hmax := hp.max
  have htop := hp.top
  unfold rP dR dMax limP limM
  simp
  omega
end
section
open Go.RowKit
set_option linter.unusedVariables false

def sumI (l : List Int) : Int := l.foldr (· + ·) 0
theorem sumI_nn {l : List Int} (h : ∀ x ∈ l, 0 ≤ x) : 0 ≤ sumI l := by
  induction l with
  | nil => exact Int.le_refl _
  | cons a l ih =>
    have h1 := h a (List.mem_cons_self ..)
    have h2 := ih fun x hx => h x (List.mem_cons_of_mem _ hx)
    show 0 ≤ a + sumI l
    omega
theorem foldl_addZ : ∀ (l : List Int) (a : Int), (∀ x ∈ l, 0 ≤ x) → 0 ≤ a → a + sumI l ≤ 2147483647 → l.foldl addZ a = a + sumI l
  | [], a, _, _, _ => by simp [sumI]
  | x :: l, a, h, ha, hs => by
    have h1 := h x (List.mem_cons_self ..)
    have hl : ∀ y ∈ l, 0 ≤ y := fun y hy => h y (List.mem_cons_of_mem _ hy)
    have h2 := sumI_nn hl
    have e : sumI (x :: l) = x + sumI l := rfl
    rw [e] at hs ⊢
    have e2 : addZ a x = a + x := by unfold addZ capZ; omega
    rw [List.foldl_cons, e2, foldl_addZ l (a + x) hl (by omega) (by omega)]
    omega
theorem sumZ_eq {l : List Int} (h : ∀ x ∈ l, 0 ≤ x) (hs : sumI l ≤ 2147483647) : sumZ l = sumI l := by
  unfold sumZ
  rw [foldl_addZ l 0 h (Int.le_refl _) (by omega)]; omega
theorem sumI_le {α : Type} {f g : α → Int} : ∀ (l : List α), (∀ x ∈ l, f x ≤ g x) → sumI (l.map f) ≤ sumI (l.map g)
  | [], _ => Int.le_refl _
  | x :: l, h => by
    have h1 := h x (List.mem_cons_self ..)
    have h2 := sumI_le l fun y hy => h y (List.mem_cons_of_mem _ hy)
    show f x + sumI (l.map f) ≤ g x + sumI (l.map g)
    omega
theorem sumI_lt {α : Type} {f g : α → Int} : ∀ (l : List α), (∀ x ∈ l, f x ≤ g x) → (∃ x ∈ l, f x ≤ g x - 1) → sumI (l.map f) ≤ sumI (l.map g) - 1
  | [], _, ⟨x, hx, _⟩ => by cases hx
  | x :: l, h, ⟨y, hy, hlt⟩ => by
    have h1 := h x (List.mem_cons_self ..)
    have hl : ∀ z ∈ l, f z ≤ g z := fun z hz => h z (List.mem_cons_of_mem _ hz)
    have h2 := sumI_le l hl
    show f x + sumI (l.map f) ≤ g x + sumI (l.map g) - 1
    rcases List.mem_cons.1 hy with rfl | hy
    · omega
    · have := sumI_lt l hl ⟨y, hy, hlt⟩
      omega
/-- What a phase that is still to come costs at most, within a visit. -/
def cMax (t : Tab) (p : Phs) : Int := t.rev + 1 + (dMax p + 1 + eP p)
def cP (t : Tab) (p : Phs) (r : Rn) : Int := max 0 (t.rev - r.t) + 1 + (dMax p + 1 + eP p)
theorem cP_le {t : Tab} {p : Phs} {r : Rn} (ht : 0 ≤ r.t) (hr : 0 ≤ t.rev) : cP t p r ≤ cMax t p := by unfold cP cMax; omega
theorem on_someS (zs : List Int) (a : Int) : hasM (onM (tabM zs)) a = (decide (0 ≤ a) && decide (a < (rowsM zs).1)) := by
  have hb := rowsM_bd zs
  unfold onM ofM
  rw [hasM_pack, Bool.eq_iff_iff]
  simp only [Bool.and_eq_true, decide_eq_true_eq, List.contains_iff_mem]
  unfold onL
  simp only [List.mem_map, List.mem_filter, List.mem_range]
  constructor
  · rintro ⟨⟨h0, h8⟩, i, ⟨hi, hon⟩, he⟩
    refine ⟨h0, ?_⟩
    have : ((tabM zs).ph i).on = (ph1 zs (rowsM zs).1 i).on := rfl
    rw [this] at hon
    unfold ph1 at hon
    split at hon
    · omega
    · cases hon
  · rintro ⟨h0, h1⟩
    refine ⟨⟨h0, by omega⟩, a.toNat, ⟨by omega, ?_⟩, by omega⟩
    show (ph1 zs (rowsM zs).1 a.toNat).on = true
    unfold ph1
    rw [if_pos (by omega)]; rfl
theorem spot_on (zs : List Int) {s : Spot} (h : s ∈ spotsM (tabM zs).gr) : hasM (onM (tabM zs)) s.p = true := by
  have h1 : s.p ∈ (spotsM (tabM zs).gr).map (·.p) := List.mem_map.2 ⟨s, h, rfl⟩
  rw [spots_p, mem_fill] at h1
  rw [on_someS]
  simp; exact h1
theorem on_spot (zs : List Int) {p : Int} (h : hasM (onM (tabM zs)) p = true) : ∃ s ∈ spotsM (tabM zs).gr, s.p = p := by
  rw [on_someS] at h
  simp at h
  have : p ∈ (spotsM (tabM zs).gr).map (·.p) := by rw [spots_p, mem_fill]; exact h
  obtain ⟨s, hs, he⟩ := List.mem_map.1 this
  exact ⟨s, hs, he⟩
theorem tab_rev (zs : List Int) : 0 ≤ (tabM zs).rev ∧ (tabM zs).rev < 8 := fr_bd zs 181 (by omega)
theorem tab_ext (zs : List Int) : 0 ≤ (tabM zs).ext ∧ (tabM zs).ext < 12 := fr_bd zs 178 (by omega)
theorem serve_bd (zs : List Int) {p : Nat} (h : hasM (onM (tabM zs)) p = true) : cMax (tabM zs) ((tabM zs).ph p) + 4 ≤ serveZ (tabM zs) p ∧ serveZ (tabM zs) p ≤ 200 := by
  have hp := tab_phIn zs p
  have h1 := hp.min
  have h2 := hp.max
  have h3 := hp.top
  have h4 := hp.yel
  have h5 := hp.red
  have h6 := hp.walk
  have h7 := hp.blinks
  have h8 := tab_rev zs
  have h9 := tab_ext zs
  unfold serveZ cMax dMax eP
  rw [if_pos h, show ((p : Nat) : Int).toNat = p by omega]
  generalize (tabM zs).ph p = x at *
  unfold serveP
  have e1 : sumZ [x.walk, x.blinks] = x.walk + x.blinks := by
    rw [sumZ_eq (by simp; omega) (by simp [sumI]; omega)]; simp [sumI]
  have e2 : mostZ [capZ x.min, sumZ [x.walk, x.blinks], capZ x.top] = max (max (max 0 x.min) (x.walk + x.blinks)) x.top := by
    rw [e1]; simp [mostZ]; unfold capZ; omega
  rw [e2]
  generalize (tabM zs).rev = rev at *
  generalize (tabM zs).ext = ext at *
  have e3 : sumZ [max (max (max 0 x.min) (x.walk + x.blinks)) x.top, ext, x.yel, x.red, rev, 8] = max (max (max 0 x.min) (x.walk + x.blinks)) x.top + ext + x.yel + x.red + rev + 8 := by
    rw [sumZ_eq (by simp; omega) (by simp [sumI]; omega)]; simp [sumI]; omega
  rw [e3]
  omega
theorem sumI_filter {α : Type} (q : α → Bool) (f : α → Int) : ∀ l : List α, sumI ((l.filter q).map f) = sumI (l.map fun x => if q x = true then f x else 0)
  | [] => rfl
  | x :: l => by
    have ih := sumI_filter q f l
    cases h : q x
    · rw [List.filter_cons_of_neg (by simp [h])]
      show _ = (if q x = true then f x else 0) + sumI (l.map _)
      rw [h, ih]; simp
    · rw [List.filter_cons_of_pos h]
      show f x + sumI ((l.filter q).map f) = (if q x = true then f x else 0) + sumI (l.map _)
      rw [h, ih]; simp
theorem sumI_bd {α : Type} {f : α → Int} {b : Int} : ∀ (l : List α), (∀ x ∈ l, f x ≤ b) → sumI (l.map f) ≤ l.length * b
  | [], _ => by simp [sumI]
  | x :: l, h => by
    have h1 := h x (List.mem_cons_self ..)
    have h2 := sumI_bd l fun y hy => h y (List.mem_cons_of_mem _ hy)
    show f x + sumI (l.map f) ≤ ((l.length + 1 : Nat) : Int) * b
    rw [Int.natCast_add, Int.add_mul]
    simp only [Int.natCast_one, Int.one_mul]
    omega
theorem spots_lenT (zs : List Int) : (spotsM (tabM zs).gr).length ≤ 8 := by
  have h1 := congrArg List.length (spots_p zs)
  rw [List.length_map, fillR_len] at h1
  have := rowsM_bd zs
  omega
/-- A group's Pass is no less than the sum of its phases' Serve, and eight. -/
theorem pass_eq (zs : List Int) {n : Nat} (hn : n < (tabM zs).gr.length) : passZ (tabM zs) n = 8 + sumI ((spotsM (tabM zs).gr).map fun s => if ((s.g : Int) == (n : Int)) = true then serveZ (tabM zs) s.p else 0) ∧ passZ (tabM zs) n ≤ 2000 := by
  have hsv : ∀ s ∈ spotsM (tabM zs).gr, 0 ≤ serveZ (tabM zs) s.p ∧ serveZ (tabM zs) s.p ≤ 200 := fun s hs => by
    have hon := spot_on zs hs
    have hok := hasM_ok hon
    obtain ⟨p, hp⟩ := Int.eq_ofNat_of_zero_le hok.1
    rw [hp] at hon ⊢
    have := serve_bd zs hon
    have h2 := tab_rev zs
    have h3 := tab_phIn zs p
    have h4 := eP_pos h3
    have h5 : 0 ≤ cMax (tabM zs) ((tabM zs).ph p) := by unfold cMax dMax; omega
    omega
  have h0 : ∀ x ∈ (8 : Int) :: psL (tabM zs) n (spotsM (tabM zs).gr), 0 ≤ x := fun x hx => by
    rcases List.mem_cons.1 hx with rfl | hx
    · omega
    · unfold psL at hx
      obtain ⟨s, hs, rfl⟩ := List.mem_map.1 hx
      exact (hsv s (List.mem_filter.1 hs).1).1
  have hlen := spots_lenT zs
  have e1 : sumI (psL (tabM zs) n (spotsM (tabM zs).gr)) = sumI ((spotsM (tabM zs).gr).map fun s => if ((s.g : Int) == (n : Int)) = true then serveZ (tabM zs) s.p else 0) := by
    unfold psL; exact sumI_filter _ _ _
  have hb : sumI (psL (tabM zs) n (spotsM (tabM zs).gr)) ≤ 1600 := by
    rw [e1]
    have := sumI_bd (b := 200) (f := fun s => if ((s.g : Int) == (n : Int)) = true then serveZ (tabM zs) s.p else 0) (spotsM (tabM zs).gr) fun s hs => by
      split
      · exact (hsv s hs).2
      · omega
    omega
  have e2 : sumI ((8 : Int) :: psL (tabM zs) n (spotsM (tabM zs).gr)) = 8 + sumI (psL (tabM zs) n (spotsM (tabM zs).gr)) := rfl
  unfold passZ
  rw [if_pos ⟨by omega, by omega⟩, sumZ_eq h0 (by rw [e2]; omega), e2]
  exact ⟨by rw [e1], by omega⟩
end
section
open Go.RowKit
set_option linter.unusedVariables false

/-- Where a ring stands. -/
def aK (r : Rg) (k : Nat) : Int := if k = 0 then r.a0 else r.a1
/-- What holds while the rings go on: only the rings' own phases are other than red; where they cross, nobody is green. -/
structure SvIn (zs : List Int) (s : Pl) (n : Nat) : Prop where
  g : s.r.g = n
  ln : n < (tabM zs).gr.length
  ru : ∀ p : Nat, p < 8 → RuOk (s.rn p)
  act : ∀ p : Nat, p < 8 → redM (s.rn p) = false → ∃ k i : Nat, k < 2 ∧ (⟨n, k, i, (p : Int)⟩ : Spot) ∈ spotsM (tabM zs).gr ∧ (i : Int) = aK s.r k
  grn : s.r.x = true → ∀ p : Nat, p < 8 → (s.rn p).c ≠ 1
/-- What a place still costs within a visit to group n. -/
def costS (t : Tab) (s : Pl) (n : Nat) (sp : Spot) : Int :=
  if sp.g = n then (if aK s.r sp.k < (sp.i : Int) then (if s.r.x = true then 0 else cP t (t.ph sp.p.toNat) (s.rn sp.p.toNat)) else if (sp.i : Int) = aK s.r sp.k then rP (t.ph sp.p.toNat) (s.rn sp.p.toNat) else 0) else 0
def visV (t : Tab) (s : Pl) (n : Nat) : Int := (if s.r.x = true then 1 else 2) + sumI ((spotsM t.gr).map (costS t s n))
/-- A place's phase, and its row. -/
theorem spot_row {gr : List (List Int × List Int)} {sp : Spot} (h : sp ∈ spotsM gr) : sp.g < gr.length ∧ sp.k < 2 ∧ sp.i < (rowOf gr sp.g sp.k).length ∧ (rowOf gr sp.g sp.k).getD sp.i 0 = sp.p ∧ okP sp.p = true := by
  unfold spotsM spG at h
  obtain ⟨g, hg, h⟩ := List.mem_flatMap.1 h
  unfold spK at h
  obtain ⟨k, hk, h⟩ := List.mem_flatMap.1 h
  unfold spI at h
  obtain ⟨i, hi, h⟩ := List.mem_filterMap.1 h
  split at h
  · rename_i hp
    simp only [Option.some.injEq] at h
    subst h
    exact ⟨by simpa using hg, by simpa using hk, by simpa using hi, rfl, hp⟩
  · cases h
theorem okP_bd {p : Int} (h : okP p = true) : 0 ≤ p ∧ p < 8 := by unfold okP at h; simpa using h
/-- The phase at a place. -/
theorem atZ_spot {gr : List (List Int × List Int)} {n k i : Nat} {p : Int} (h : (⟨n, k, i, p⟩ : Spot) ∈ spotsM gr) : atZ gr n k i = p := by
  obtain ⟨h1, h2, h3, h4, h5⟩ := spot_row h
  simp only at h1 h2 h3 h4 h5
  have hr : rowZ gr n k = rowOf gr n k := rowZ_nat h1 h2
  unfold atZ
  rw [hr, atR_in h3, h4, if_neg]
  intro hz
  have h6 := of_one p
  rw [hz, h5] at h6
  simp at h6
/-- The first wanted place behind a is no later than any wanted place behind a. -/
theorem nextZ_le {r : List Int} {want a : Int} {j : Nat} (hj : j < r.length) (ha : a < j) (hh : hasM want (r.getD j 0) = true) : 0 ≤ nextZ r want a ∧ nextZ r want a ≤ j := by
  have key : ∀ n : Nat, j < n → 0 ≤ nextN r want a n ∧ nextN r want a n ≤ j := by
    intro n
    induction n with
    | zero => intro h; omega
    | succ n ih =>
      intro h
      unfold nextN
      by_cases hn : j < n
      · have := ih hn
        rw [if_neg (by omega)]
        exact this
      · have : j = n := by omega
        subst this
        split
        · omega
        · rename_i hc
          have hne : nextN r want a j ≠ -1 := fun e => hc ⟨e, ha, hh⟩
          have hb : ∀ m : Nat, nextN r want a m = -1 ∨ (0 ≤ nextN r want a m ∧ nextN r want a m < m) := by
            intro m
            induction m with
            | zero => exact .inl rfl
            | succ m ihm =>
              unfold nextN
              split
              · right; omega
              · omega
          have := hb j
          omega
  exact key _ hj
/-- Who begins: what Step sets in motion, as a set. -/
theorem rgS_eq (t : Tab) (rn : Nat → Rn) (want n a0 a1 : Int) : rgS t rn want ⟨n, a0, a1, false⟩ = if bgP t rn n 1 (ringO t rn n want 1 a1) = true then withM (if bgP t rn n 0 (ringO t rn n want 0 a0) = true then withM 0 (atZ t.gr n 0 (ringO t rn n want 0 a0).nx) else 0) (atZ t.gr n 1 (ringO t rn n want 1 a1).nx) else (if bgP t rn n 0 (ringO t rn n want 0 a0) = true then withM 0 (atZ t.gr n 0 (ringO t rn n want 0 a0).nx) else 0) := by
  show (stS2 t rn n want a0 a1).1 = _
  unfold stS2 stS1; rw [stepC_st, stepC_st]
theorem rgN_a0 (t : Tab) (rn : Nat → Rn) (want n a0 a1 : Int) : (rgN t rn want ⟨n, a0, a1, false⟩).a0 = if bgP t rn n 0 (ringO t rn n want 0 a0) = true then (ringO t rn n want 0 a0).nx else a0 := by
  show (stS1 t rn n want a0).2.2 = _
  unfold stS1; rw [stepC_a]
theorem rgN_a1 (t : Tab) (rn : Nat → Rn) (want n a0 a1 : Int) : (rgN t rn want ⟨n, a0, a1, false⟩).a1 = if bgP t rn n 1 (ringO t rn n want 1 a1) = true then (ringO t rn n want 1 a1).nx else a1 := by
  show (stS2 t rn n want a0 a1).2.2 = _
  unfold stS2; rw [stepC_a]
/-- A ring of which nobody begins stands still; else the one at its new place begins. -/
theorem beg_k {zs : List Int} {rn : Nat → Rn} {n : Nat} {want a0 a1 : Int} (hn : n < (tabM zs).gr.length) {k : Nat} (hk : k < 2) :
    (bgP (tabM zs) rn n k (ringO (tabM zs) rn n want k (aK ⟨n, a0, a1, false⟩ k)) = true ∧ ∃ i p : Nat, aK (rgN (tabM zs) rn want ⟨n, a0, a1, false⟩) k = i ∧ aK ⟨n, a0, a1, false⟩ k < i ∧ p < 8 ∧ (⟨n, k, i, (p : Int)⟩ : Spot) ∈ spotsM (tabM zs).gr ∧ hasM (rgS (tabM zs) rn want ⟨n, a0, a1, false⟩) p = true ∧ mayM (tabM zs) rn p = true) ∨
    (bgP (tabM zs) rn n k (ringO (tabM zs) rn n want k (aK ⟨n, a0, a1, false⟩ k)) = false ∧ aK (rgN (tabM zs) rn want ⟨n, a0, a1, false⟩) k = aK ⟨n, a0, a1, false⟩ k) := by
  rcases (show k = 0 ∨ k = 1 by omega) with rfl | rfl
  · cases b : bgP (tabM zs) rn n (0 : Nat) (ringO (tabM zs) rn n want (0 : Nat) (aK ⟨n, a0, a1, false⟩ 0))
    · exact .inr ⟨rfl, (rgN_a0 _ _ _ _ _ _).trans (if_neg (by rw [show bgP (tabM zs) rn n 0 (ringO (tabM zs) rn n want 0 a0) = false from b]; simp))⟩
    · obtain ⟨i, p, h1, h2, h3, h4, h5, h6⟩ := bg_facts hn hk b
      refine .inl ⟨rfl, i, p, (rgN_a0 _ _ _ _ _ _).trans ((if_pos b).trans h1), h2, h4, h5, ?_, h6⟩
      rw [rgS_eq]
      have hb0 : bgP (tabM zs) rn n 0 (ringO (tabM zs) rn n want 0 a0) = true := b
      have h3' : atZ (tabM zs).gr n 0 (ringO (tabM zs) rn n want 0 a0).nx = p := h3
      rw [if_pos hb0, h3']
      have hin : hasM (withM 0 (p : Int)) p = true := by rw [hasM_with]; simp; omega
      split
      · rw [hasM_with, hin]; rfl
      · exact hin
  · cases b : bgP (tabM zs) rn n (1 : Nat) (ringO (tabM zs) rn n want (1 : Nat) (aK ⟨n, a0, a1, false⟩ 1))
    · exact .inr ⟨rfl, (rgN_a1 _ _ _ _ _ _).trans (if_neg (by rw [show bgP (tabM zs) rn n 1 (ringO (tabM zs) rn n want 1 a1) = false from b]; simp))⟩
    · obtain ⟨i, p, h1, h2, h3, h4, h5, h6⟩ := bg_facts hn hk b
      refine .inl ⟨rfl, i, p, (rgN_a1 _ _ _ _ _ _).trans ((if_pos b).trans h1), h2, h4, h5, ?_, h6⟩
      rw [rgS_eq]
      have hb1 : bgP (tabM zs) rn n 1 (ringO (tabM zs) rn n want 1 a1) = true := b
      have h3' : atZ (tabM zs).gr n 1 (ringO (tabM zs) rn n want 1 a1).nx = p := h3
      rw [if_pos hb1, h3', hasM_with]
      simp; omega
theorem beg_p {zs : List Int} {rn : Nat → Rn} {n : Nat} {want a0 a1 : Int} (hn : n < (tabM zs).gr.length) {p : Nat} (hp : p < 8) (hh : hasM (rgS (tabM zs) rn want ⟨n, a0, a1, false⟩) p = true) :
    ∃ k i : Nat, k < 2 ∧ (⟨n, k, i, (p : Int)⟩ : Spot) ∈ spotsM (tabM zs).gr ∧ aK ⟨n, a0, a1, false⟩ k < (i : Int) ∧ aK (rgN (tabM zs) rn want ⟨n, a0, a1, false⟩) k = (i : Int) ∧ mayM (tabM zs) rn p = true := by
  rw [rgS_eq] at hh
  have c0 : bgP (tabM zs) rn n 0 (ringO (tabM zs) rn n want 0 a0) = true → atZ (tabM zs).gr n 0 (ringO (tabM zs) rn n want 0 a0).nx = (p : Int) → ∃ k i : Nat, k < 2 ∧ (⟨n, k, i, (p : Int)⟩ : Spot) ∈ spotsM (tabM zs).gr ∧ aK ⟨n, a0, a1, false⟩ k < (i : Int) ∧ aK (rgN (tabM zs) rn want ⟨n, a0, a1, false⟩) k = (i : Int) ∧ mayM (tabM zs) rn p = true := fun b e => by
    obtain ⟨i, q, h1, h2, h3, h4, h5, h6⟩ := bg_facts (zs := zs) (rn := rn) (n := n) (k := 0) (want := want) (a := a0) hn (by omega) b
    have h3' : atZ (tabM zs).gr n 0 (ringO (tabM zs) rn n want 0 a0).nx = q := h3
    have e' : q = p := by omega
    subst e'
    exact ⟨0, i, by omega, h5, h2, (rgN_a0 _ _ _ _ _ _).trans ((if_pos b).trans h1), h6⟩
  have c1 : bgP (tabM zs) rn n 1 (ringO (tabM zs) rn n want 1 a1) = true → atZ (tabM zs).gr n 1 (ringO (tabM zs) rn n want 1 a1).nx = (p : Int) → ∃ k i : Nat, k < 2 ∧ (⟨n, k, i, (p : Int)⟩ : Spot) ∈ spotsM (tabM zs).gr ∧ aK ⟨n, a0, a1, false⟩ k < (i : Int) ∧ aK (rgN (tabM zs) rn want ⟨n, a0, a1, false⟩) k = (i : Int) ∧ mayM (tabM zs) rn p = true := fun b e => by
    obtain ⟨i, q, h1, h2, h3, h4, h5, h6⟩ := bg_facts (zs := zs) (rn := rn) (n := n) (k := 1) (want := want) (a := a1) hn (by omega) b
    have h3' : atZ (tabM zs).gr n 1 (ringO (tabM zs) rn n want 1 a1).nx = q := h3
    have e' : q = p := by omega
    subst e'
    exact ⟨1, i, by omega, h5, h2, (rgN_a1 _ _ _ _ _ _).trans ((if_pos b).trans h1), h6⟩
  cases b1 : bgP (tabM zs) rn n 1 (ringO (tabM zs) rn n want 1 a1)
  · rw [b1] at hh
    simp only [Bool.false_eq_true, if_false] at hh
    cases b0 : bgP (tabM zs) rn n 0 (ringO (tabM zs) rn n want 0 a0)
    · rw [b0] at hh; simp only [Bool.false_eq_true, if_false] at hh; rw [hasM_zero] at hh; cases hh
    · rw [b0] at hh
      simp only [if_true] at hh
      rw [hasM_with, hasM_zero] at hh
      simp only [Bool.or_eq_true, Bool.and_eq_true, decide_eq_true_eq, Bool.false_eq_true, false_or] at hh
      exact c0 b0 hh.2
  · rw [b1] at hh
    simp only [if_true] at hh
    rw [hasM_with] at hh
    simp only [Bool.or_eq_true, Bool.and_eq_true, decide_eq_true_eq] at hh
    rcases hh with hh | hh
    · cases b0 : bgP (tabM zs) rn n 0 (ringO (tabM zs) rn n want 0 a0)
      · rw [b0] at hh; simp only [Bool.false_eq_true, if_false] at hh; rw [hasM_zero] at hh; cases hh
      · rw [b0] at hh
        simp only [if_true] at hh
        rw [hasM_with, hasM_zero] at hh
        simp only [Bool.or_eq_true, Bool.and_eq_true, decide_eq_true_eq, Bool.false_eq_true, false_or] at hh
        exact c0 b0 hh.2
    · exact c1 b1 hh.2
theorem aK_mono {zs : List Int} {rn : Nat → Rn} {n : Nat} {want a0 a1 : Int} (hn : n < (tabM zs).gr.length) {k : Nat} (hk : k < 2) : aK ⟨n, a0, a1, false⟩ k ≤ aK (rgN (tabM zs) rn want ⟨n, a0, a1, false⟩) k := by
  rcases beg_k (zs := zs) (rn := rn) (want := want) (a0 := a0) (a1 := a1) hn hk with ⟨_, i, p, h1, h2, _⟩ | ⟨_, h⟩
  · rw [h1]; omega
  · rw [h]; exact Int.le_refl _
/-- A ring whose phase is other than red is busy. -/
theorem busy_of {zs : List Int} {rn : Nat → Rn} {n k i p : Nat} {want a : Int} (hs : (⟨n, k, i, (p : Int)⟩ : Spot) ∈ spotsM (tabM zs).gr) (ha : (i : Int) = a) (hr : redM (rn p) = false) : (ringO (tabM zs) rn n want k a).bu = true := by
  subst ha
  show (decide (0 ≤ atZ (tabM zs).gr n k i) && !redM (rn (atZ (tabM zs).gr n k i).toNat)) = true
  rw [atZ_spot hs, Int.toNat_natCast, hr]
  simp
theorem bgP_idle {t : Tab} {rn : Nat → Rn} {g k : Int} {o : On1} (h : bgP t rn g k o = true) : o.bu = false := by
  unfold bgP at h; simp only [Bool.and_eq_true, Bool.not_eq_true'] at h; exact h.1
theorem step_not1 {p : Phs} {r : Rn} {k : Cu} (hc : r.c ≠ 1) (hs : k.st = false) : (stepM p r k).c ≠ 1 := by
  by_cases c2 : r.c = 2
  · rw [step_yel c2]; unfold asM; split
    · simp
    · split <;> simp
  · by_cases c3 : r.c = 3
    · rw [step_clr c3]; unfold asM; split <;> simp
    · rw [step_rest (red_c.2 ⟨hc, c2, c3⟩) hs]; unfold asM; simp
/-- Two places with one phase are one place. -/
theorem spot_one {zs : List Int} {n k i n2 k2 i2 : Nat} {p : Int} (h1 : (⟨n, k, i, p⟩ : Spot) ∈ spotsM (tabM zs).gr) (h2 : (⟨n2, k2, i2, p⟩ : Spot) ∈ spotsM (tabM zs).gr) : n = n2 ∧ k = k2 ∧ i = i2 := by
  have w1 := where_spot zs h1
  have w2 := where_spot zs h2
  simp only at w1 w2
  rw [w1] at w2
  simp only [Option.some.injEq, Spot.mk.injEq] at w2
  exact ⟨w2.1, w2.2.1, w2.2.2.1⟩
/-- What the rings keep in a tick between two crossings. -/
theorem sv_in {zs : List Int} {n : Nat} {a0 a1 : Int} {rn : Nat → Rn} {cn : Nat → Int} {cr want : Int} (h : SvIn zs ⟨⟨n, a0, a1, false⟩, rn, cn, cr⟩ n) : SvIn zs (tickP (tabM zs) want ⟨⟨n, a0, a1, false⟩, rn, cn, cr⟩) n := by
  have hn := h.ln
  have hok := step_ok zs rn n want a0 a1 hn
  refine ⟨rfl, hn, fun p hp => ru_step (tab_phIn zs p) (h.ru p hp) (cueM_ok _ _ _ _), fun p hp hr => ?_, fun hx p hp => ?_⟩
  · rcases step_red _ _ _ hr with ho | hs
    · obtain ⟨k, i, hk, hsp, hi⟩ := h.act p hp ho
      rcases beg_k (zs := zs) (rn := rn) (want := want) (a0 := a0) (a1 := a1) hn hk with ⟨b, _⟩ | ⟨_, e⟩
      · have h1 := bgP_idle b
        have h2 : (ringO (tabM zs) rn n want k (aK ⟨n, a0, a1, false⟩ k)).bu = true := busy_of hsp hi ho
        rw [h2] at h1; cases h1
      · exact ⟨k, i, hk, hsp, hi.trans e.symm⟩
    · obtain ⟨k, i, hk, hsp, _, ha, _⟩ := beg_p (zs := zs) (rn := rn) (want := want) (a0 := a0) (a1 := a1) hn hp hs
      exact ⟨k, i, hk, hsp, ha.symm⟩
  · have hcr : stCr (tabM zs) rn n want a0 a1 = true := hx
    have hst : rgS (tabM zs) rn want ⟨n, a0, a1, false⟩ = 0 := by
      by_cases e : (stS2 (tabM zs) rn n want a0 a1).1 = 0
      · exact e
      · have := (hok.apart e).2
        rw [hcr] at this; cases this
    by_cases c1 : (rn p).c = 1
    · have hen : hasM (rgE (tabM zs) rn want ⟨n, a0, a1, false⟩) p = true := by
        show hasM (stEn (tabM zs) rn n want a0 a1) p = true
        unfold stEn
        rw [if_pos hcr, grn_has rn p 8 (Nat.le_refl _)]
        simp [hp, c1]
      have := (step_end (p := (tabM zs).ph p) (k := cueM (rgS (tabM zs) rn want ⟨n, a0, a1, false⟩) (rgE (tabM zs) rn want ⟨n, a0, a1, false⟩) (pressZ (tabM zs) rn n a0 a1 want) p) c1 hen).1
      show (stepM _ _ _).c ≠ 1
      rw [this]; omega
    · refine step_not1 c1 ?_
      show hasM (rgS (tabM zs) rn want ⟨n, a0, a1, false⟩) p = false
      rw [hst, hasM_zero]
theorem cP_red {t : Tab} {p : Phs} {r : Rn} (ht : 0 ≤ r.t) (hrv : t.rev < 8) : cP t p (asM r 0 (moreM r.t)) ≤ cP t p r ∧ (r.t < t.rev → cP t p (asM r 0 (moreM r.t)) ≤ cP t p r - 1) := by
  have := more_t ht
  unfold cP asM
  simp only
  exact ⟨by omega, fun h => by omega⟩
/-- No place costs more behind a tick. -/
theorem sv_le {zs : List Int} {n : Nat} {a0 a1 : Int} {rn : Nat → Rn} {cn : Nat → Int} {cr want : Int} (h : SvIn zs ⟨⟨n, a0, a1, false⟩, rn, cn, cr⟩ n) :
    ∀ sp ∈ spotsM (tabM zs).gr, costS (tabM zs) (tickP (tabM zs) want ⟨⟨n, a0, a1, false⟩, rn, cn, cr⟩) n sp ≤ costS (tabM zs) ⟨⟨n, a0, a1, false⟩, rn, cn, cr⟩ n sp := by
  intro sp hsp
  have hn := h.ln
  obtain ⟨g, k, i, q⟩ := sp
  obtain ⟨r1, r2, r3, r4, r5⟩ := spot_row hsp
  simp only at r1 r2 r3 r4 r5
  have hq := okP_bd r5
  obtain ⟨p, hp⟩ := Int.eq_ofNat_of_zero_le hq.1
  subst hp
  have hp8 : p < 8 := by omega
  have hph := tab_phIn zs p
  have hrv := tab_rev zs
  have hE := eP_pos hph
  have hR0 := rP_nonneg hph (rn p)
  have hC0 : 0 ≤ cP (tabM zs) ((tabM zs).ph p) (rn p) := by unfold cP dMax; omega
  unfold costS
  simp only [Int.toNat_natCast]
  by_cases hgn : g = n
  · subst hgn
    rw [if_pos rfl, if_pos rfl]
    have hm := aK_mono (zs := zs) (rn := rn) (want := want) (a0 := a0) (a1 := a1) hn r2
    have hA : aK (tickP (tabM zs) want ⟨⟨g, a0, a1, false⟩, rn, cn, cr⟩).r k = aK (rgN (tabM zs) rn want ⟨g, a0, a1, false⟩) k := rfl
    rw [hA]
    have hnot : aK (rgN (tabM zs) rn want ⟨g, a0, a1, false⟩) k ≠ (i : Int) ∨ aK ⟨g, a0, a1, false⟩ k = (i : Int) → hasM (rgS (tabM zs) rn want ⟨g, a0, a1, false⟩) p = false := fun hh => by
      cases hs : hasM (rgS (tabM zs) rn want ⟨g, a0, a1, false⟩) p
      · rfl
      · obtain ⟨k', i', hk', hsp', hlt', ha', _⟩ := beg_p (zs := zs) (rn := rn) (want := want) (a0 := a0) (a1 := a1) hn hp8 hs
        obtain ⟨_, e2, e3⟩ := spot_one hsp hsp'
        subst e2; subst e3
        rcases hh with hh | hh
        · exact absurd ha' hh
        · rw [hh] at hlt'; omega
    by_cases h1 : aK ⟨g, a0, a1, false⟩ k < (i : Int)
    · -- still to come
      rw [if_pos h1]
      show _ ≤ cP (tabM zs) ((tabM zs).ph p) (rn p)
      have hred : redM (rn p) = true := by
        cases hr : redM (rn p)
        · obtain ⟨k', i', hk', hsp', hi'⟩ := h.act p hp8 hr
          obtain ⟨_, e2, e3⟩ := spot_one hsp hsp'
          subst e2; subst e3
          have hi2 : (i : Int) = aK ⟨g, a0, a1, false⟩ k := hi'
          omega
        · rfl
      by_cases h2 : aK (rgN (tabM zs) rn want ⟨g, a0, a1, false⟩) k < (i : Int)
      · rw [if_pos h2]
        have hns := hnot (.inl (by omega))
        split
        · exact hC0
        · show cP _ _ (stepM _ _ _) ≤ _
          rw [step_rest hred hns]
          exact (cP_red (h.ru p hp8).t hrv.2).1
      · rw [if_neg h2]
        by_cases h3 : (i : Int) = aK (rgN (tabM zs) rn want ⟨g, a0, a1, false⟩) k
        · rw [if_pos h3]
          have hs : hasM (rgS (tabM zs) rn want ⟨g, a0, a1, false⟩) p = true := by
            rcases beg_k (zs := zs) (rn := rn) (want := want) (a0 := a0) (a1 := a1) hn r2 with ⟨_, i2, p2, e1, e2, e3, e4, e5, _⟩ | ⟨_, e⟩
            · have hii : i2 = i := by omega
              subst hii
              have := (spot_row e4).2.2.2.1
              simp only at this
              rw [r4] at this
              have : p = p2 := by omega
              subst this; exact e5
            · rw [e] at h3; omega
          have := rP_begin (p := (tabM zs).ph p) (r := rn p) hph (cueM_ok (rgS (tabM zs) rn want ⟨g, a0, a1, false⟩) (rgE (tabM zs) rn want ⟨g, a0, a1, false⟩) (pressZ (tabM zs) rn g a0 a1 want) p) hred hs
          refine Int.le_trans this ?_
          unfold cP
          omega
        · rw [if_neg h3]; exact hC0
    · rw [if_neg h1]
      by_cases h2 : (i : Int) = aK ⟨g, a0, a1, false⟩ k
      · rw [if_pos h2]
        by_cases h3 : aK (rgN (tabM zs) rn want ⟨g, a0, a1, false⟩) k = aK ⟨g, a0, a1, false⟩ k
        · rw [if_neg (by omega), if_pos (by omega)]
          have hns := hnot (.inr h2.symm)
          cases hr : redM (rn p)
          · exact (rP_step hph (h.ru p hp8) (cueM_ok _ _ _ _) hr).1
          · have : redM (stepM ((tabM zs).ph p) (rn p) (cueM (rgS (tabM zs) rn want ⟨g, a0, a1, false⟩) (rgE (tabM zs) rn want ⟨g, a0, a1, false⟩) (pressZ (tabM zs) rn g a0 a1 want) p)) = true := by
              rw [step_rest hr hns]; unfold redM asM; simp
            show rP _ (stepM _ _ _) ≤ _
            rw [rP_red this]; exact hR0
        · rw [if_neg (by omega), if_neg (by omega)]; exact hR0
      · rw [if_neg h2, if_neg (by omega), if_neg (by omega)]; exact Int.le_refl _
  · rw [if_neg hgn, if_neg hgn]; exact Int.le_refl _
/-- A ring's own phase goes on: its place costs less. -/
theorem sv_cur {zs : List Int} {n : Nat} {a0 a1 : Int} {rn : Nat → Rn} {cn : Nat → Int} {cr want : Int} (h : SvIn zs ⟨⟨n, a0, a1, false⟩, rn, cn, cr⟩ n) {k i p : Nat} (hp8 : p < 8) (hsp : (⟨n, k, i, (p : Int)⟩ : Spot) ∈ spotsM (tabM zs).gr) (hi : (i : Int) = aK ⟨n, a0, a1, false⟩ k) (hr : redM (rn p) = false)
    (hc : (rn p).c ≠ 1 ∨ hasM (rgE (tabM zs) rn want ⟨n, a0, a1, false⟩) p = true ∨ ((rn p).d = false ∧ hasM (pressZ (tabM zs) rn n a0 a1 want) p = true)) :
    costS (tabM zs) (tickP (tabM zs) want ⟨⟨n, a0, a1, false⟩, rn, cn, cr⟩) n ⟨n, k, i, (p : Int)⟩ ≤ costS (tabM zs) ⟨⟨n, a0, a1, false⟩, rn, cn, cr⟩ n ⟨n, k, i, (p : Int)⟩ - 1 := by
  have hn := h.ln
  have hk := (spot_row hsp).2.1
  simp only at hk
  have ha : aK (tickP (tabM zs) want ⟨⟨n, a0, a1, false⟩, rn, cn, cr⟩).r k = aK ⟨n, a0, a1, false⟩ k := by
    rcases beg_k (zs := zs) (rn := rn) (want := want) (a0 := a0) (a1 := a1) hn hk with ⟨b, _⟩ | ⟨_, e⟩
    · have h1 := bgP_idle b
      have h2 : (ringO (tabM zs) rn n want k (aK ⟨n, a0, a1, false⟩ k)).bu = true := busy_of hsp hi hr
      rw [h2] at h1; cases h1
    · exact e
  unfold costS
  simp only [Int.toNat_natCast, if_true]
  rw [ha, if_neg (by omega), if_pos hi, if_neg (by omega), if_pos hi]
  exact (rP_step (tab_phIn zs p) (h.ru p hp8) (cueM_ok _ _ _ _) hr).2 hc
/-- A phase that begins: its place costs less. -/
theorem sv_start {zs : List Int} {n : Nat} {a0 a1 : Int} {rn : Nat → Rn} {cn : Nat → Int} {cr want : Int} (h : SvIn zs ⟨⟨n, a0, a1, false⟩, rn, cn, cr⟩ n) {p : Nat} (hp8 : p < 8) (hs : hasM (rgS (tabM zs) rn want ⟨n, a0, a1, false⟩) p = true) :
    ∃ sp ∈ spotsM (tabM zs).gr, costS (tabM zs) (tickP (tabM zs) want ⟨⟨n, a0, a1, false⟩, rn, cn, cr⟩) n sp ≤ costS (tabM zs) ⟨⟨n, a0, a1, false⟩, rn, cn, cr⟩ n sp - 1 := by
  have hn := h.ln
  obtain ⟨k, i, hk, hsp, hlt, ha, hm⟩ := beg_p (zs := zs) (rn := rn) (want := want) (a0 := a0) (a1 := a1) hn hp8 hs
  refine ⟨_, hsp, ?_⟩
  have hA : aK (tickP (tabM zs) want ⟨⟨n, a0, a1, false⟩, rn, cn, cr⟩).r k = (i : Int) := ha
  have hred : redM (rn p) = true := by
    have := may_facts hm
    unfold redM
    rw [this.1, this.2.1, this.2.2.1]; rfl
  unfold costS
  simp only [Int.toNat_natCast, if_true]
  rw [hA, if_neg (by omega), if_pos rfl, if_pos hlt, if_neg (by simp)]
  have := rP_begin (p := (tabM zs).ph p) (r := rn p) (tab_phIn zs p) (cueM_ok (rgS (tabM zs) rn want ⟨n, a0, a1, false⟩) (rgE (tabM zs) rn want ⟨n, a0, a1, false⟩) (pressZ (tabM zs) rn n a0 a1 want) p) hred hs
  refine Int.le_trans this ?_
  unfold cP
  omega
/-- Of phases to come each is red. -/
theorem sv_red {zs : List Int} {s : Pl} {n : Nat} (h : SvIn zs s n) {k i p : Nat} (hp8 : p < 8) (hsp : (⟨n, k, i, (p : Int)⟩ : Spot) ∈ spotsM (tabM zs).gr) (hi : aK s.r k < (i : Int)) : redM (s.rn p) = true := by
  cases hr : redM (s.rn p)
  · obtain ⟨k', i', hk', hsp', hi'⟩ := h.act p hp8 hr
    obtain ⟨_, e2, e3⟩ := spot_one hsp hsp'
    subst e2; subst e3
    omega
  · rfl
/-- A phase that is next, of an idle ring, and may not begin, waits for its time. -/
theorem sv_time {zs : List Int} {n : Nat} {a0 a1 : Int} {rn : Nat → Rn} {cn : Nat → Int} {cr want : Int} (h : SvIn zs ⟨⟨n, a0, a1, false⟩, rn, cn, cr⟩ n) {k i p : Nat} (hk : k < 2) (hp8 : p < 8) (hsp : (⟨n, k, i, (p : Int)⟩ : Spot) ∈ spotsM (tabM zs).gr) (hi : aK ⟨n, a0, a1, false⟩ k < (i : Int))
    (hb : (ringO (tabM zs) rn n want k (aK ⟨n, a0, a1, false⟩ k)).bu = false) (hm : mayM (tabM zs) rn p = false) : (rn p).t < (tabM zs).rev := by
  have hred := sv_red h hp8 hsp hi
  have hcf : ∀ q : Nat, q < 8 → hasM ((tabM zs).cf p) q = true → redM (rn q) = true := fun q hq hh => by
    cases hr : redM (rn q)
    · exfalso
      obtain ⟨k', i', hk', hsp', hi'⟩ := h.act q hq hr
      have hnb := tab_nbc zs p q hp8 hq hh
      have w1 := where_spot zs hsp
      have w2 := where_spot zs hsp'
      unfold besideM at hnb
      simp only at w1 w2
      rw [w1, w2] at hnb
      simp only [beq_self_eq_true, Bool.true_and] at hnb
      have hkk : k = k' := by
        by_cases e : k = k'
        · exact e
        · simp at hnb; omega
      subst hkk
      have h2 : (ringO (tabM zs) rn n want k (aK ⟨n, a0, a1, false⟩ k)).bu = true := busy_of hsp' hi' hr
      rw [h2] at hb; cases hb
    · rfl
  by_cases ht : (rn p).t < (tabM zs).rev
  · exact ht
  · exfalso
    have : mayM (tabM zs) rn p = true := by
      unfold mayM
      simp only [Bool.and_eq_true, Bool.not_eq_true', List.all_eq_true]
      refine ⟨⟨hred, decide_eq_false ht⟩, fun x hx => ?_⟩
      have := (setF_mem ((tabM zs).cf p) x 8 (Nat.le_refl _)).1 hx
      exact hcf x.val x.isLt this.2
    rw [this] at hm; cases hm
/-- It comes nearer. -/
theorem sv_wait {zs : List Int} {n : Nat} {a0 a1 : Int} {rn : Nat → Rn} {cn : Nat → Int} {cr want : Int} (h : SvIn zs ⟨⟨n, a0, a1, false⟩, rn, cn, cr⟩ n) (hx : stCr (tabM zs) rn n want a0 a1 = false) {k i p : Nat} (hk : k < 2) (hp8 : p < 8) (hsp : (⟨n, k, i, (p : Int)⟩ : Spot) ∈ spotsM (tabM zs).gr) (hi : aK ⟨n, a0, a1, false⟩ k < (i : Int))
    (hbg : bgP (tabM zs) rn n k (ringO (tabM zs) rn n want k (aK ⟨n, a0, a1, false⟩ k)) = false) (ht : (rn p).t < (tabM zs).rev) :
    costS (tabM zs) (tickP (tabM zs) want ⟨⟨n, a0, a1, false⟩, rn, cn, cr⟩) n ⟨n, k, i, (p : Int)⟩ ≤ costS (tabM zs) ⟨⟨n, a0, a1, false⟩, rn, cn, cr⟩ n ⟨n, k, i, (p : Int)⟩ - 1 := by
  have hn := h.ln
  have hA : aK (tickP (tabM zs) want ⟨⟨n, a0, a1, false⟩, rn, cn, cr⟩).r k = aK ⟨n, a0, a1, false⟩ k := by
    rcases beg_k (zs := zs) (rn := rn) (want := want) (a0 := a0) (a1 := a1) hn hk with ⟨b, _⟩ | ⟨_, e⟩
    · rw [hbg] at b; cases b
    · exact e
  have hred := sv_red h hp8 hsp hi
  have hns : hasM (rgS (tabM zs) rn want ⟨n, a0, a1, false⟩) p = false := by
    cases hs : hasM (rgS (tabM zs) rn want ⟨n, a0, a1, false⟩) p
    · rfl
    · obtain ⟨k', i', hk', hsp', hlt', ha', _⟩ := beg_p (zs := zs) (rn := rn) (want := want) (a0 := a0) (a1 := a1) hn hp8 hs
      obtain ⟨_, e2, e3⟩ := spot_one hsp hsp'
      subst e2; subst e3
      have : aK (rgN (tabM zs) rn want ⟨n, a0, a1, false⟩) k = aK ⟨n, a0, a1, false⟩ k := hA
      omega
  have hX : (tickP (tabM zs) want ⟨⟨n, a0, a1, false⟩, rn, cn, cr⟩).r.x = false := hx
  unfold costS
  simp only [Int.toNat_natCast, if_true]
  rw [hA, if_pos hi, if_pos hi, hX, if_neg (by simp), if_neg (by simp)]
  show cP _ _ (stepM _ _ _) ≤ _
  rw [step_rest hred hns]
  exact (cP_red (h.ru p hp8).t (tab_rev zs).2).2 ht
/-- A ring's next place, its phase. -/
theorem next_spot {zs : List Int} {n k : Nat} {want a : Int} (hn : n < (tabM zs).gr.length) (hk : k < 2) (h1 : 0 ≤ nextZ (rowZ (tabM zs).gr n k) want a) :
    ∃ i p : Nat, nextZ (rowZ (tabM zs).gr n k) want a = i ∧ a < i ∧ atZ (tabM zs).gr n k (nextZ (rowZ (tabM zs).gr n k) want a) = p ∧ p < 8 ∧ (⟨n, k, i, (p : Int)⟩ : Spot) ∈ spotsM (tabM zs).gr ∧ hasM want p = true := by
  have hgt := nextZ_gt h1
  obtain ⟨j, hj, hjl, hh⟩ := nextZ_in h1
  have hr : rowZ (tabM zs).gr n k = rowOf (tabM zs).gr n k := rowZ_nat hn hk
  rw [hr] at hjl hh
  have hok := hasM_ok hh
  have hp8 : okP ((rowOf (tabM zs).gr n k).getD j 0) = true := by unfold okP; simp; exact hok
  have hsp := spot_in hn hk hjl hp8
  obtain ⟨p, hp⟩ := Int.eq_ofNat_of_zero_le hok.1
  rw [hp] at hsp hh hok
  refine ⟨j, p, hj, by rw [hj] at hgt; exact hgt, ?_, by omega, hsp, hh⟩
  rw [hj]; exact atZ_spot hsp
/-- A ring's own phase, its place. -/
theorem at_spot {zs : List Int} {n k : Nat} {a : Int} (hn : n < (tabM zs).gr.length) (hk : k < 2) (h : 0 ≤ atZ (tabM zs).gr n k a) :
    ∃ i p : Nat, (i : Int) = a ∧ p < 8 ∧ atZ (tabM zs).gr n k a = p ∧ (⟨n, k, i, (p : Int)⟩ : Spot) ∈ spotsM (tabM zs).gr := by
  have hr : rowZ (tabM zs).gr n k = rowOf (tabM zs).gr n k := rowZ_nat hn hk
  unfold atZ atR at h
  rw [hr] at h
  split at h
  · rename_i hc
    obtain ⟨j, hj⟩ := Int.eq_ofNat_of_zero_le hc.1
    subst hj
    rw [Int.toNat_natCast] at hc h
    have h6 := of_one ((rowOf (tabM zs).gr n k).getD j 0)
    have hokp : okP ((rowOf (tabM zs).gr n k).getD j 0) = true := by
      cases ho : okP ((rowOf (tabM zs).gr n k).getD j 0)
      · rw [ho] at h6; simp at h6; exact absurd h6 hc.2.2
      · rfl
    have hsp := spot_in hn hk (by omega : j < _) hokp
    have hb := okP_bd hokp
    obtain ⟨p, hp⟩ := Int.eq_ofNat_of_zero_le hb.1
    rw [hp] at hsp hb
    exact ⟨j, p, rfl, by omega, atZ_spot hsp, hsp⟩
  · omega
/-- A ring that has a next place goes on, unless its green is neither Done nor pressed. -/
theorem prog_ring {zs : List Int} {n : Nat} {a0 a1 : Int} {rn : Nat → Rn} {cn : Nat → Int} {cr want : Int} (h : SvIn zs ⟨⟨n, a0, a1, false⟩, rn, cn, cr⟩ n) (hx : stCr (tabM zs) rn n want a0 a1 = false) {k : Nat} (hk : k < 2)
    (hnx : 0 ≤ nextZ (rowZ (tabM zs).gr n k) want (aK ⟨n, a0, a1, false⟩ k))
    (hpr : ∀ i p : Nat, p < 8 → (⟨n, k, i, (p : Int)⟩ : Spot) ∈ spotsM (tabM zs).gr → (i : Int) = aK ⟨n, a0, a1, false⟩ k → (rn p).c = 1 → (rn p).d = false → hasM (pressZ (tabM zs) rn n a0 a1 want) p = true) :
    ∃ sp ∈ spotsM (tabM zs).gr, costS (tabM zs) (tickP (tabM zs) want ⟨⟨n, a0, a1, false⟩, rn, cn, cr⟩) n sp ≤ costS (tabM zs) ⟨⟨n, a0, a1, false⟩, rn, cn, cr⟩ n sp - 1 := by
  have hn := h.ln
  cases hb : (ringO (tabM zs) rn n want k (aK ⟨n, a0, a1, false⟩ k)).bu
  · obtain ⟨i, p, hi, hlt, hat, hp8, hsp, hw⟩ := next_spot hn hk hnx
    cases hm : mayM (tabM zs) rn p
    · have hbg : bgP (tabM zs) rn n k (ringO (tabM zs) rn n want k (aK ⟨n, a0, a1, false⟩ k)) = false := by
        unfold bgP
        show (!(ringO (tabM zs) rn n want k (aK ⟨n, a0, a1, false⟩ k)).bu && (decide (0 ≤ nextZ (rowZ (tabM zs).gr n k) want (aK ⟨n, a0, a1, false⟩ k)) && mayM (tabM zs) rn (atZ (tabM zs).gr n k (nextZ (rowZ (tabM zs).gr n k) want (aK ⟨n, a0, a1, false⟩ k))).toNat)) = false
        rw [hat, Int.toNat_natCast, hm]
        simp
      exact ⟨_, hsp, sv_wait h hx hk hp8 hsp hlt hbg (sv_time (want := want) h hk hp8 hsp hlt hb hm)⟩
    · have hbg : bgP (tabM zs) rn n k (ringO (tabM zs) rn n want k (aK ⟨n, a0, a1, false⟩ k)) = true := by
        unfold bgP
        show (!(ringO (tabM zs) rn n want k (aK ⟨n, a0, a1, false⟩ k)).bu && (decide (0 ≤ nextZ (rowZ (tabM zs).gr n k) want (aK ⟨n, a0, a1, false⟩ k)) && mayM (tabM zs) rn (atZ (tabM zs).gr n k (nextZ (rowZ (tabM zs).gr n k) want (aK ⟨n, a0, a1, false⟩ k))).toNat)) = true
        rw [hat, Int.toNat_natCast, hm, hb]
        simp; omega
      rcases beg_k (zs := zs) (rn := rn) (want := want) (a0 := a0) (a1 := a1) hn hk with ⟨_, i2, p2, _, _, h3, _, h5, _⟩ | ⟨b, _⟩
      · exact sv_start h h3 h5
      · rw [hbg] at b; cases b
  · have hb' : (decide (0 ≤ atZ (tabM zs).gr n k (aK ⟨n, a0, a1, false⟩ k)) && !redM (rn (atZ (tabM zs).gr n k (aK ⟨n, a0, a1, false⟩ k)).toNat)) = true := hb
    simp only [Bool.and_eq_true, decide_eq_true_eq, Bool.not_eq_true'] at hb'
    obtain ⟨i, p, hi, hp8, hat, hsp⟩ := at_spot hn hk hb'.1
    have hr := hb'.2
    rw [hat, Int.toNat_natCast] at hr
    refine ⟨_, hsp, sv_cur h hp8 hsp hi hr ?_⟩
    by_cases c1 : (rn p).c = 1
    · cases hd : (rn p).d
      · exact .inr (.inr ⟨rfl, hpr i p hp8 hsp hi c1 hd⟩)
      · refine .inr (.inl ?_)
        have hend : enP (tabM zs) rn want (ringO (tabM zs) rn n want k (aK ⟨n, a0, a1, false⟩ k)) = true := by
          unfold enP
          rw [hb]
          show (true && (((rn (atZ (tabM zs).gr n k (aK ⟨n, a0, a1, false⟩ k)).toNat).c == 1) && (((rn (atZ (tabM zs).gr n k (aK ⟨n, a0, a1, false⟩ k)).toNat).d && decide (0 ≤ nextZ (rowZ (tabM zs).gr n k) want (aK ⟨n, a0, a1, false⟩ k))) || _))) = true
          rw [hat, Int.toNat_natCast, c1, hd, decide_eq_true hnx]
          simp
        show hasM (stEn (tabM zs) rn n want a0 a1) p = true
        unfold stEn
        rw [hx, if_neg (by simp)]
        have hin : ∀ e : Int, hasM (withM e (p : Int)) p = true := fun e => by rw [hasM_with]; simp; omega
        have hph : (ringO (tabM zs) rn n want k (aK ⟨n, a0, a1, false⟩ k)).ph = p := hat
        unfold stS2 stS1
        rw [stepC_en, stepC_en]
        rcases (show k = 0 ∨ k = 1 by omega) with rfl | rfl
        · have e0 : enP (tabM zs) rn want (ringO (tabM zs) rn n want 0 a0) = true := hend
          have p0 : (ringO (tabM zs) rn n want 0 a0).ph = p := hph
          rw [if_pos e0, p0]
          split
          · rw [hasM_with, hin]; rfl
          · exact hin _
        · have e1 : enP (tabM zs) rn want (ringO (tabM zs) rn n want 1 a1) = true := hend
          have p1 : (ringO (tabM zs) rn n want 1 a1).ph = p := hph
          rw [if_pos e1, p1]
          exact hin _
    · exact .inl c1
end
section
open Go.RowKit
set_option linter.unusedVariables false

theorem prsIn_mono {gr : List (List Int × List Int)} {g a0 a1 p : Int} {s q x : Int} (h : hasM s x = true) : hasM (prsIn gr g a0 a1 p s q) x = true := by
  unfold prsIn
  split
  · rw [hasM_with, h]; rfl
  · exact h
theorem prsIn_fold {gr : List (List Int × List Int)} {g a0 a1 p : Int} {x : Int} : ∀ (qs : List Int) (s : Int), hasM s x = true → hasM (qs.foldl (prsIn gr g a0 a1 p) s) x = true
  | [], _, h => h
  | q :: qs, s, h => prsIn_fold qs _ (prsIn_mono h)
theorem prsIn_hit {gr : List (List Int × List Int)} {g a0 a1 p : Int} (hp : 0 ≤ p ∧ p < 8) : ∀ (qs : List Int) (s : Int), (∃ q ∈ qs, prsC gr g a0 a1 p q = true) → hasM (qs.foldl (prsIn gr g a0 a1 p) s) p = true
  | [], _, ⟨q, hq, _⟩ => by cases hq
  | q :: qs, s, ⟨q', hq', hc⟩ => by
    rcases List.mem_cons.1 hq' with rfl | hq'
    · refine prsIn_fold qs _ ?_
      unfold prsIn
      rw [if_pos hc, hasM_with]
      simp [hp]
    · exact prsIn_hit hp qs _ ⟨q', hq', hc⟩
theorem prsOut_mono {gr : List (List Int × List Int)} {g a0 a1 : Int} {qs : List Int} {s p x : Int} (h : hasM s x = true) : hasM (prsOut gr g a0 a1 qs s p) x = true := prsIn_fold qs s h
theorem prsOut_fold {gr : List (List Int × List Int)} {g a0 a1 : Int} {qs : List Int} {x : Int} : ∀ (ps : List Int) (s : Int), hasM s x = true → hasM (ps.foldl (prsOut gr g a0 a1 qs) s) x = true
  | [], _, h => h
  | p :: ps, s, h => prsOut_fold ps _ (prsOut_mono h)
theorem prsOut_hit {gr : List (List Int × List Int)} {g a0 a1 : Int} {qs : List Int} {p : Int} (hp : 0 ≤ p ∧ p < 8) (hq : ∃ q ∈ qs, prsC gr g a0 a1 p q = true) : ∀ (ps : List Int) (s : Int), p ∈ ps → hasM (ps.foldl (prsOut gr g a0 a1 qs) s) p = true
  | [], _, h => by cases h
  | p' :: ps, s, h => by
    rcases List.mem_cons.1 h with rfl | h
    · exact prsOut_fold ps _ (prsIn_hit hp qs s hq)
    · exact prsOut_hit hp hq ps _ h
/-- Whoever ends in a ring is told so. -/
theorem en_has {t : Tab} {rn : Nat → Rn} {n : Int} {want a0 a1 : Int} (hx : stCr t rn n want a0 a1 = false) {k p : Nat} (hk : k < 2) (hp8 : p < 8) (hend : enP t rn want (ringO t rn n want k (aK ⟨n, a0, a1, false⟩ k)) = true) (hph : (ringO t rn n want k (aK ⟨n, a0, a1, false⟩ k)).ph = p) :
    hasM (rgE t rn want ⟨n, a0, a1, false⟩) p = true := by
  show hasM (stEn t rn n want a0 a1) p = true
  unfold stEn
  rw [hx, if_neg (by simp)]
  have hin : ∀ e : Int, hasM (withM e (p : Int)) p = true := fun e => by rw [hasM_with]; simp; omega
  unfold stS2 stS1
  rw [stepC_en, stepC_en]
  rcases (show k = 0 ∨ k = 1 by omega) with rfl | rfl
  · have e0 : enP t rn want (ringO t rn n want 0 a0) = true := hend
    have p0 : (ringO t rn n want 0 a0).ph = p := hph
    rw [if_pos e0, p0]
    split
    · rw [hasM_with, hin]; rfl
    · exact hin _
  · have e1 : enP t rn want (ringO t rn n want 1 a1) = true := hend
    have p1 : (ringO t rn n want 1 a1).ph = p := hph
    rw [if_pos e1, p1]
    exact hin _
/-- A busy ring: its phase, other than red, at its place. -/
theorem busy_spot {zs : List Int} {rn : Nat → Rn} {n k : Nat} {want a : Int} (hn : n < (tabM zs).gr.length) (hk : k < 2) (hb : (ringO (tabM zs) rn n want k a).bu = true) :
    ∃ i p : Nat, (i : Int) = a ∧ p < 8 ∧ (ringO (tabM zs) rn n want k a).ph = p ∧ (⟨n, k, i, (p : Int)⟩ : Spot) ∈ spotsM (tabM zs).gr ∧ redM (rn p) = false := by
  have hb' : (decide (0 ≤ atZ (tabM zs).gr n k a) && !redM (rn (atZ (tabM zs).gr n k a).toNat)) = true := hb
  simp only [Bool.and_eq_true, decide_eq_true_eq, Bool.not_eq_true'] at hb'
  obtain ⟨i, p, hi, hp8, hat, hsp⟩ := at_spot hn hk hb'.1
  have hr := hb'.2
  rw [hat, Int.toNat_natCast] at hr
  exact ⟨i, p, hi, hp8, hat, hsp, hr⟩
/-- A phase that is pressed: green, on, and somebody who waits does not stand ahead beside it. -/
theorem press_has {zs : List Int} {rn : Nat → Rn} {n : Nat} {a0 a1 want : Int} {p q : Nat} (hw : 0 ≤ want ∧ want ≤ 255) (hp8 : p < 8) (hq8 : q < 8) (hc : (rn p).c = 1) (hon : hasM (onM (tabM zs)) p = true) (hwq : hasM want q = true) (hq : (rn q).c ≠ 1)
    (hpc : prsC (tabM zs).gr n a0 a1 p q = true) : hasM (pressZ (tabM zs) rn n a0 a1 want) p = true := by
  unfold pressZ
  have hg := grn_bd rn 8
  have ho : 0 ≤ onM (tabM zs) ∧ onM (tabM zs) ≤ 255 := packM_bd _
  refine prsOut_hit (by omega) ⟨q, ?_, hpc⟩ _ _ ?_
  · rw [mem_listM, ← pack_of hw, ← pack_of hg, andNot_pack, hasM_pack]
    have h1 := hwq
    rw [hasM_nat _ hq8] at h1
    have h2 : bitM (grnN rn 8) q = false := by
      have := grn_has rn q 8 (Nat.le_refl _)
      rw [hasM_nat _ hq8] at this
      rw [this]; simp; exact fun _ => hq
    simp [h1, h2]; omega
  · rw [mem_listM, ← pack_of hg, ← pack_of ho, and_pack, hasM_pack]
    have h1 := hon
    rw [hasM_nat _ hp8] at h1
    have h2 : bitM (grnN rn 8) p = true := by
      have := grn_has rn p 8 (Nat.le_refl _)
      rw [hasM_nat _ hp8] at this
      rw [this]; simp; exact ⟨hp8, hc⟩
    simp [h1, h2]; omega
end
section
open Go.RowKit
set_option linter.unusedVariables false

theorem first_nn {s : Int} {q : Nat} (h : hasM s q = true) : 0 ≤ firstM s := by
  unfold firstM
  have hm : (q : Int) ∈ listM s := mem_listM.2 h
  cases hl : listM s with
  | nil => rw [hl] at hm; cases hm
  | cons x l =>
    have hx : x ∈ listM s := by rw [hl]; exact List.mem_cons_self ..
    exact (hasM_ok (mem_listM.1 hx)).1
theorem hasM_andNot {a b : Int} (ha : 0 ≤ a ∧ a ≤ 255) (hb : 0 ≤ b ∧ b ≤ 255) {q : Nat} (hq : q < 8) : hasM (bits .andNot .i64 a b) q = (hasM a q && !hasM b q) := by
  rw [← pack_of ha, ← pack_of hb, andNot_pack, hasM_pack, hasM_pack, hasM_pack]
  simp only [Int.toNat_natCast]
  have : decide ((0 : Int) ≤ q ∧ (q : Int) < 8) = true := by simp; omega
  rw [this]; simp
theorem stS2_st (t : Tab) (rn : Nat → Rn) (n want a0 a1 : Int) (h0 : bgP t rn n 0 (ringO t rn n want 0 a0) = false) (h1 : bgP t rn n 1 (ringO t rn n want 1 a1) = false) : (stS2 t rn n want a0 a1).1 = 0 := by
  unfold stS2 stS1
  rw [stepC_st, stepC_st, h0, h1]; simp
theorem stS2_en (t : Tab) (rn : Nat → Rn) (n want a0 a1 : Int) (h0 : enP t rn want (ringO t rn n want 0 a0) = false) (h1 : enP t rn want (ringO t rn n want 1 a1) = false) : (stS2 t rn n want a0 a1).2.1 = 0 := by
  unfold stS2 stS1
  rw [stepC_en, stepC_en, h0, h1]; simp
theorem bgP_none {t : Tab} {rn : Nat → Rn} {g k : Int} {o : On1} (h : o.nx < 0) : bgP t rn g k o = false := by
  unfold bgP
  have : decide (0 ≤ o.nx) = false := by simp; omega
  rw [this]; simp
theorem wait_tick {zs : List Int} {n : Nat} {a0 a1 : Int} {rn : Nat → Rn} {cn : Nat → Int} {cr want : Int} (h : SvIn zs ⟨⟨n, a0, a1, false⟩, rn, cn, cr⟩ n) (hw : 0 ≤ want ∧ want ≤ 255) (hx : stCr (tabM zs) rn n want a0 a1 = false)
    {n0 j0 i0 q : Nat} (hq8 : q < 8) (hsq : (⟨n0, j0, i0, (q : Int)⟩ : Spot) ∈ spotsM (tabM zs).gr) (hwq : hasM want q = true) (hcq : (rn q).c ≠ 1) :
    ∃ sp ∈ spotsM (tabM zs).gr, costS (tabM zs) (tickP (tabM zs) want ⟨⟨n, a0, a1, false⟩, rn, cn, cr⟩) n sp ≤ costS (tabM zs) ⟨⟨n, a0, a1, false⟩, rn, cn, cr⟩ n sp - 1 := by
  have hn := h.ln
  by_cases hA : n0 = n ∧ aK ⟨n, a0, a1, false⟩ j0 < (i0 : Int)
  · obtain ⟨rfl, hlt⟩ := hA
    obtain ⟨r1, r2, r3, r4, r5⟩ := spot_row hsq
    simp only at r1 r2 r3 r4 r5
    have hr : rowZ (tabM zs).gr n0 j0 = rowOf (tabM zs).gr n0 j0 := rowZ_nat hn r2
    have hnx := (nextZ_le (r := rowZ (tabM zs).gr n0 j0) (want := want) (a := aK ⟨n0, a0, a1, false⟩ j0) (j := i0) (by rw [hr]; exact r3) hlt (by rw [hr, r4]; exact hwq)).1
    refine prog_ring h hx r2 hnx fun i p hp8 hsp hi hc hd => press_has hw hp8 hq8 hc (spot_on zs hsp) hwq hcq ?_
    have w1 := where_spot zs hsp
    have w2 := where_spot zs hsq
    simp only at w1 w2
    unfold prsC ahM
    rw [w1, w2]
    simp [whK, whG]
  · have hpr : ∀ k i p : Nat, p < 8 → (⟨n, k, i, (p : Int)⟩ : Spot) ∈ spotsM (tabM zs).gr → (rn p).c = 1 → hasM (pressZ (tabM zs) rn n a0 a1 want) p = true := fun k i p hp8 hsp hc => press_has hw hp8 hq8 hc (spot_on zs hsp) hwq hcq (by
      have w1 := where_spot zs hsp
      have w2 := where_spot zs hsq
      simp only at w1 w2
      have r2 := (spot_row hsq).2.1
      simp only at r2
      unfold prsC ahM
      rw [w1, w2]
      simp only [whK, whG, whI, Option.isSome_some, Bool.not_true, Bool.true_and, Bool.false_or, Bool.not_eq_true', Bool.and_eq_false_iff, beq_eq_false_iff_ne, Bool.not_eq_false', beq_iff_eq]
      by_cases e : n0 = n
      · right
        refine decide_eq_false fun hlt => hA ⟨e, ?_⟩
        unfold aK
        rcases (show j0 = 0 ∨ j0 = 1 by omega) with rfl | rfl
        · simpa using hlt
        · simpa using hlt
      · left; left; omega)
    cases hb0 : decide (0 ≤ nextZ (rowZ (tabM zs).gr n (0 : Nat)) want (aK ⟨n, a0, a1, false⟩ 0)) with
    | true => exact prog_ring h hx (k := 0) (by omega) (by simpa using hb0) fun i p hp8 hsp _ hc _ => hpr 0 i p hp8 hsp hc
    | false =>
      cases hb1 : decide (0 ≤ nextZ (rowZ (tabM zs).gr n (1 : Nat)) want (aK ⟨n, a0, a1, false⟩ 1)) with
      | true => exact prog_ring h hx (k := 1) (by omega) (by simpa using hb1) fun i p hp8 hsp _ hc _ => hpr 1 i p hp8 hsp hc
      | false =>
        have n0' : (ringO (tabM zs) rn n want 0 a0).nx < 0 := by
          have : ¬ (0 ≤ (ringO (tabM zs) rn n want 0 a0).nx) := of_decide_eq_false hb0
          omega
        have n1' : (ringO (tabM zs) rn n want 1 a1).nx < 0 := by
          have : ¬ (0 ≤ (ringO (tabM zs) rn n want 1 a1).nx) := of_decide_eq_false hb1
          omega
        have hst := stS2_st (tabM zs) rn n want a0 a1 (bgP_none n0') (bgP_none n1')
        -- a ring that ends its phase
        have hE : ∀ k : Nat, k < 2 → enP (tabM zs) rn want (ringO (tabM zs) rn n want k (aK ⟨n, a0, a1, false⟩ k)) = true → ∃ sp ∈ spotsM (tabM zs).gr, costS (tabM zs) (tickP (tabM zs) want ⟨⟨n, a0, a1, false⟩, rn, cn, cr⟩) n sp ≤ costS (tabM zs) ⟨⟨n, a0, a1, false⟩, rn, cn, cr⟩ n sp - 1 := fun k hk he => by
          have hbu : (ringO (tabM zs) rn n want k (aK ⟨n, a0, a1, false⟩ k)).bu = true := by unfold enP at he; simp only [Bool.and_eq_true] at he; exact he.1
          obtain ⟨i, p, hi, hp8, hph, hsp, hr⟩ := busy_spot hn hk hbu
          exact ⟨_, hsp, sv_cur h hp8 hsp hi hr (.inr (.inl (en_has hx hk hp8 he hph)))⟩
        -- a ring that is not through
        have hS : ∀ k : Nat, k < 2 → (ringO (tabM zs) rn n want k (aK ⟨n, a0, a1, false⟩ k)).nx < 0 → settM (ringO (tabM zs) rn n want k (aK ⟨n, a0, a1, false⟩ k)).ph (ringO (tabM zs) rn n want k (aK ⟨n, a0, a1, false⟩ k)).nx (ringO (tabM zs) rn n want k (aK ⟨n, a0, a1, false⟩ k)).bu rn = false → ∃ sp ∈ spotsM (tabM zs).gr, costS (tabM zs) (tickP (tabM zs) want ⟨⟨n, a0, a1, false⟩, rn, cn, cr⟩) n sp ≤ costS (tabM zs) ⟨⟨n, a0, a1, false⟩, rn, cn, cr⟩ n sp - 1 := fun k hk hnx hs => by
          unfold settM at hs
          rw [decide_eq_true hnx] at hs
          cases hbu : (ringO (tabM zs) rn n want k (aK ⟨n, a0, a1, false⟩ k)).bu
          · rw [hbu] at hs; simp at hs
          · rw [hbu] at hs
            obtain ⟨i, p, hi, hp8, hph, hsp, hr⟩ := busy_spot hn hk hbu
            rw [hph, Int.toNat_natCast] at hs
            simp only [Bool.true_and, Bool.not_true, Bool.false_or, Bool.and_eq_false_iff, beq_eq_false_iff_ne] at hs
            refine ⟨_, hsp, sv_cur h hp8 hsp hi hr ?_⟩
            by_cases c1 : (rn p).c = 1
            · rcases hs with hs | hs
              · exact absurd c1 hs
              · exact .inr (.inr ⟨hs, hpr k i p hp8 hsp c1⟩)
            · exact .inl c1
        cases e0 : enP (tabM zs) rn want (ringO (tabM zs) rn n want 0 a0) with
        | true => exact hE 0 (by omega) e0
        | false =>
          cases e1 : enP (tabM zs) rn want (ringO (tabM zs) rn n want 1 a1) with
          | true => exact hE 1 (by omega) e1
          | false =>
            have hen := stS2_en (tabM zs) rn n want a0 a1 e0 e1
            cases s0 : settM (ringO (tabM zs) rn n want 0 a0).ph (ringO (tabM zs) rn n want 0 a0).nx (ringO (tabM zs) rn n want 0 a0).bu rn with
            | false => exact hS 0 (by omega) n0' s0
            | true =>
              cases s1 : settM (ringO (tabM zs) rn n want 1 a1).ph (ringO (tabM zs) rn n want 1 a1).nx (ringO (tabM zs) rn n want 1 a1).bu rn with
              | false => exact hS 1 (by omega) n1' s1
              | true =>
                exfalso
                have hf : 0 ≤ firstM (bits .andNot .i64 want (grnN rn 8)) := first_nn (q := q) (by
                  rw [hasM_andNot hw (grn_bd rn 8) hq8, hwq, grn_has rn q 8 (Nat.le_refl _)]
                  simp; exact .inr hcq)
                unfold stCr at hx
                rw [hst, hen, s0, s1, decide_eq_true hf] at hx
                revert hx
                decide
end
section
open Go.RowKit
set_option linter.unusedVariables false

/-! ### The way from group to group -/
def idxN (N m : Nat) : Nat := m % N
def wayS (f : Nat → Int) (N m : Nat) : Nat → Int
  | 0 => 0
  | k + 1 => wayS f N m k + f ((m + k) % N)
theorem wayS_nn {f : Nat → Int} {N m : Nat} (h : ∀ g, 0 ≤ f g) : ∀ k, 0 ≤ wayS f N m k
  | 0 => Int.le_refl _
  | k + 1 => by have := wayS_nn (m := m) (N := N) h k; have := h ((m + k) % N); unfold wayS; omega
theorem wayS_mono {f : Nat → Int} {N m : Nat} (h : ∀ g, 0 ≤ f g) (k : Nat) : ∀ j, wayS f N m k ≤ wayS f N m (k + j)
  | 0 => Int.le_refl _
  | j + 1 => by have := wayS_mono (m := m) (N := N) h k j; have := h ((m + (k + j)) % N); show _ ≤ wayS f N m (k + j) + f ((m + (k + j)) % N); omega
theorem wayS_front {f : Nat → Int} {N m : Nat} : ∀ k, wayS f N m (k + 1) = f (m % N) + wayS f N (m + 1) k
  | 0 => by simp [wayS]
  | k + 1 => by
    have ih := wayS_front (f := f) (N := N) (m := m) k
    show wayS f N m (k + 1) + f ((m + (k + 1)) % N) = f (m % N) + (wayS f N (m + 1) k + f ((m + 1 + k) % N))
    rw [ih, show m + (k + 1) = m + 1 + k by omega]; omega
theorem wayS_add {f : Nat → Int} {N m : Nat} (j : Nat) : ∀ k, wayS f N m (j + k) = wayS f N m j + wayS f N (m + j) k
  | 0 => by simp [wayS]
  | k + 1 => by
    have ih := wayS_add (f := f) (N := N) (m := m) j k
    show wayS f N m (j + k) + f ((m + (j + k)) % N) = wayS f N m j + (wayS f N (m + j) k + f ((m + j + k) % N))
    rw [ih, show m + (j + k) = m + j + k by omega]; omega
theorem wayS_turn {f : Nat → Int} {N : Nat} (hN : 0 < N) : ∀ m, wayS f N m N = wayS f N 0 N
  | 0 => rfl
  | m + 1 => by
    have ih := wayS_turn (f := f) hN m
    have h1 := wayS_front (f := f) (N := N) (m := m) N
    have h2 : wayS f N m (N + 1) = wayS f N m N + f ((m + N) % N) := rfl
    rw [Nat.add_mod_right] at h2
    omega
theorem wayS_mod {f : Nat → Int} {N m : Nat} : ∀ k, wayS f N (m % N) k = wayS f N m k
  | 0 => rfl
  | k + 1 => by
    have ih := wayS_mod (f := f) (N := N) (m := m) k
    show wayS f N (m % N) k + f ((m % N + k) % N) = _
    rw [ih, Nat.mod_add_mod]; rfl
theorem wayS_sum {f : Nat → Int} {N : Nat} : ∀ k, k ≤ N → wayS f N 0 k = sumI ((List.range k).map f)
  | 0, _ => rfl
  | k + 1, h => by
    have ih := wayS_sum (f := f) (N := N) k (by omega)
    show wayS f N 0 k + f ((0 + k) % N) = _
    have happ : ∀ l : List Int, ∀ x : Int, sumI (l ++ [x]) = sumI l + x := fun l x => by
      induction l with
      | nil => simp [sumI]
      | cons a l ih => show a + sumI (l ++ [x]) = a + sumI l + x; rw [ih]; omega
    rw [ih, List.range_succ, List.map_append, List.map_singleton, happ, Nat.zero_add, Nat.mod_eq_of_lt (by omega)]
/-- How many groups lie between n and n0, behind n, round. -/
def gapN (N n n0 : Nat) : Nat := if n < n0 then n0 - n - 1 else n0 + N - n - 1
theorem gap_lt {N n n0 : Nat} (hn : n < N) (h0 : n0 < N) : gapN N n n0 < N := by unfold gapN; split <;> omega
theorem gap_at {N n n0 : Nat} (hn : n < N) (h0 : n0 < N) : (n + 1 + gapN N n n0) % N = n0 := by
  unfold gapN
  split
  · rw [show n + 1 + (n0 - n - 1) = n0 by omega, Nat.mod_eq_of_lt h0]
  · rw [show n + 1 + (n0 + N - n - 1) = n0 + N by omega, Nat.add_mod_right, Nat.mod_eq_of_lt h0]
theorem gap_pos {N n n0 : Nat} (h : n < n0) : gapN N n n0 = n0 - n - 1 := by unfold gapN; rw [if_pos h]
theorem gap_neg {N n n0 : Nat} (h : ¬ n < n0) : gapN N n n0 = n0 + N - n - 1 := by unfold gapN; rw [if_neg h]
theorem gap_step {N n n0 j : Nat} (hn : n < N) (h0 : n0 < N) (hj : j < gapN N n n0) : (n + 1 + j) % N ≠ n0 ∧ gapN N ((n + 1 + j) % N) n0 = gapN N n n0 - j - 1 := by
  by_cases hc : n < n0
  · rw [gap_pos hc] at hj ⊢
    rw [Nat.mod_eq_of_lt (by omega)]
    exact ⟨by omega, by rw [gap_pos (by omega)]; omega⟩
  · rw [gap_neg hc] at hj ⊢
    by_cases h : n + 1 + j < N
    · rw [Nat.mod_eq_of_lt h]
      exact ⟨by omega, by rw [gap_neg (by omega)]; omega⟩
    · have : (n + 1 + j) % N = n + 1 + j - N := by
        rw [Nat.mod_eq_sub_mod (by omega), Nat.mod_eq_of_lt (by omega)]
      rw [this]
      exact ⟨by omega, by rw [gap_pos (by omega)]; omega⟩
theorem fol_way {f : Int → Bool} {N n n0 : Nat} (hn : n < N) (h0 : n0 < N) (hf : f (n0 : Int) = true) : ∃ j, j ≤ gapN N n n0 ∧ folZ f N n = ((n + 1 + j) % N : Nat) := by
  have hg : grpZ N n = n := by unfold grpZ; rw [if_neg (by omega)]
  have key : ∀ k : Nat, folN f N n k = -1 ∨ ∃ j : Nat, j < k ∧ folN f N n k = ((n + 1 + j) % N : Nat) := by
    intro k
    induction k with
    | zero => exact .inl rfl
    | succ k ih =>
      unfold folN
      split
      · exact .inr ⟨k, by omega, by push_cast; rfl⟩
      · rcases ih with h | ⟨j, hj, he⟩
        · exact .inl h
        · exact .inr ⟨j, by omega, he⟩
  have hlt := gap_lt hn h0
  have hne : folN f N n (gapN N n n0 + 1) ≠ -1 := by
    have hat := gap_at hn h0
    have hat' : ((n : Int) + 1 + (gapN N n n0 : Nat)) % (N : Int) = n0 := by have := congrArg (fun x : Nat => (x : Int)) hat; push_cast at this; exact this
    unfold folN
    rw [hat', hf]
    by_cases h : folN f N n (gapN N n n0) = -1
    · rw [if_pos ⟨h, rfl⟩]; omega
    · rw [if_neg (fun hc => h hc.1)]; exact h
  unfold folZ
  have hk := folN_keep hne (N - (gapN N n n0 + 1))
  rw [show gapN N n n0 + 1 + (N - (gapN N n n0 + 1)) = N by omega] at hk
  rw [hg, Int.toNat_natCast, hk]
  rcases key (gapN N n n0 + 1) with h | ⟨j, hj, he⟩
  · exact absurd h hne
  · exact ⟨j, by omega, he⟩
/-! ### A group with a wanted phase -/
theorem wan_spot {zs : List Int} {n0 j0 i0 q : Nat} {want : Int} (hw : 0 ≤ want ∧ want ≤ 255) (hq8 : q < 8) (hsq : (⟨n0, j0, i0, (q : Int)⟩ : Spot) ∈ spotsM (tabM zs).gr) (hwq : hasM want q = true) : wanZ (tabM zs).gr want n0 = true := by
  obtain ⟨r1, r2, r3, r4, r5⟩ := spot_row hsq
  simp only at r1 r2 r3 r4 r5
  have hr : rowZ (tabM zs).gr n0 j0 = rowOf (tabM zs).gr n0 j0 := rowZ_nat r1 r2
  have hc : (rowZ (tabM zs).gr n0 j0).contains (q : Int) = true := by
    rw [List.contains_iff_mem, hr, ← r4, List.getD_eq_getElem?_getD, List.getElem?_eq_getElem r3]
    exact List.getElem_mem _
  have hin : hasM (bits .and .i64 (memZ (tabM zs).gr n0) want) q = true := by
    unfold memZ ofM
    rw [or_pack, ← pack_of hw, and_pack, hasM_pack]
    rw [hasM_nat _ hq8] at hwq
    have h8 : decide ((0 : Int) ≤ q ∧ (q : Int) < 8) = true := by simp; omega
    rw [h8, Int.toNat_natCast, hwq]
    rcases (show j0 = 0 ∨ j0 = 1 by omega) with rfl | rfl
    · have hc' : (rowZ (tabM zs).gr n0 0).contains (q : Int) = true := hc
      rw [hc']; simp
    · have hc' : (rowZ (tabM zs).gr n0 1).contains (q : Int) = true := hc
      rw [hc']; simp
  unfold wanZ
  rw [bne_iff_ne]
  intro e
  rw [e, hasM_zero] at hin; cases hin
/-! ### The bound -/
def passN (zs : List Int) (g : Nat) : Int := if g < (tabM zs).gr.length then passZ (tabM zs) g else 0
theorem passN_bd (zs : List Int) (g : Nat) : 0 ≤ passN zs g ∧ passN zs g ≤ 2000 := by
  unfold passN
  split
  · rename_i h
    have := pass_eq zs h
    refine ⟨?_, this.2⟩
    rw [this.1]
    have : 0 ≤ sumI ((spotsM (tabM zs).gr).map fun s => if ((s.g : Int) == (g : Int)) = true then serveZ (tabM zs) s.p else 0) := sumI_nn fun x hx => by
      obtain ⟨s, hs, rfl⟩ := List.mem_map.1 hx
      have hon := spot_on zs hs
      have hok := hasM_ok hon
      obtain ⟨p, hp⟩ := Int.eq_ofNat_of_zero_le hok.1
      rw [hp] at hon ⊢
      have h1 := serve_bd zs hon
      have h2 := tab_rev zs
      have h3 := tab_phIn zs p
      have h4 := eP_pos h3
      have h5 : 0 ≤ cMax (tabM zs) ((tabM zs).ph p) := by unfold cMax dMax; omega
      split <;> omega
    omega
  · omega
theorem rP_le {p : Phs} {r : Rn} (hp : PhIn p) (hr : RuOk r) : rP p r ≤ dMax p + 1 + eP p := by
  have h1 := hr.t
  have h2 := hr.p
  have hred := hp.red
  have hyel := hp.yel
  have hlim := limP_bd hp r
  have hE := eP_pos hp
  unfold rP dR dMax
  split
  · split <;> omega
  · split
    · unfold eP; omega
    · split
      · unfold eP; omega
      · omega
/-- What a place costs is within its Serve. -/
theorem cost_bd {zs : List Int} {s : Pl} {n m : Nat} (h : SvIn zs s m) {sp : Spot} (hs : sp ∈ spotsM (tabM zs).gr) : 0 ≤ costS (tabM zs) s n sp ∧ costS (tabM zs) s n sp ≤ (if ((sp.g : Int) == (n : Int)) = true then serveZ (tabM zs) sp.p else 0) := by
  obtain ⟨g, k, i, q⟩ := sp
  obtain ⟨r1, r2, r3, r4, r5⟩ := spot_row hs
  simp only at r1 r2 r3 r4 r5
  have hq := okP_bd r5
  obtain ⟨p, hp⟩ := Int.eq_ofNat_of_zero_le hq.1
  subst hp
  have hp8 : p < 8 := by omega
  have hph := tab_phIn zs p
  have hrv := tab_rev zs
  have hE := eP_pos hph
  have hR0 := rP_nonneg hph (s.rn p)
  have hR1 := rP_le hph (h.ru p hp8)
  have hC1 := cP_le (t := tabM zs) (p := (tabM zs).ph p) (h.ru p hp8).t hrv.1
  have hC0 : 0 ≤ cP (tabM zs) ((tabM zs).ph p) (s.rn p) := by unfold cP dMax; omega
  have hsv := serve_bd zs (spot_on zs hs)
  unfold costS
  simp only [Int.toNat_natCast]
  by_cases hg : g = n
  · subst hg
    rw [if_pos rfl]
    simp only [beq_self_eq_true, if_true]
    have hcm : dMax ((tabM zs).ph p) + 1 + eP ((tabM zs).ph p) ≤ cMax (tabM zs) ((tabM zs).ph p) := by unfold cMax; omega
    split
    · split <;> omega
    · split <;> omega
  · rw [if_neg hg, if_neg (by simp; omega)]
    omega
theorem vis_bd {zs : List Int} {s : Pl} {n : Nat} (h : SvIn zs s n) : 1 ≤ visV (tabM zs) s n ∧ visV (tabM zs) s n ≤ passN zs n - 6 := by
  have hn := h.ln
  have h1 := sumI_le (f := costS (tabM zs) s n) (g := fun sp => if ((sp.g : Int) == (n : Int)) = true then serveZ (tabM zs) sp.p else 0) (spotsM (tabM zs).gr) fun sp hs => (cost_bd h hs).2
  have h2 : 0 ≤ sumI ((spotsM (tabM zs).gr).map (costS (tabM zs) s n)) := sumI_nn fun x hx => by
    obtain ⟨sp, hs, rfl⟩ := List.mem_map.1 hx
    exact (cost_bd h hs).1
  have h3 := (pass_eq zs hn).1
  unfold passN visV
  rw [if_pos hn, h3]
  split <;> omega
/-- Does a place still come in this visit? -/
def aheadB (s : Pl) (n0 j0 i0 : Nat) : Bool := (s.r.g == (n0 : Int)) && !s.r.x && decide (aK s.r j0 < (i0 : Int))
def bndV (zs : List Int) (n0 j0 i0 : Nat) (s : Pl) (n : Nat) : Int :=
  visV (tabM zs) s n + if aheadB s n0 j0 i0 = true then 0 else wayS (passN zs) (tabM zs).gr.length (n + 1) (gapN (tabM zs).gr.length n n0 + 1)
theorem free_eq (zs : List Int) {n0 j0 i0 q : Nat} (hsq : (⟨n0, j0, i0, (q : Int)⟩ : Spot) ∈ spotsM (tabM zs).gr) : freeZ (tabM zs) q = passN zs n0 + wayS (passN zs) (tabM zs).gr.length 0 (tabM zs).gr.length := by
  have w := where_spot zs hsq
  simp only at w
  have hon := spot_on zs hsq
  simp only at hon
  have hn0 := (spot_row hsq).1
  simp only at hn0
  have hN : (tabM zs).gr.length ≤ 8 := by have := rowsM_bd zs; have := groupsN_bd zs; show (rowsM zs).2.length ≤ 8; omega
  have hfp : fpL (tabM zs) (tabM zs).gr.length = (List.range (tabM zs).gr.length).map (passN zs) := by
    unfold fpL
    refine List.map_congr_left fun g hg => ?_
    unfold passN
    rw [if_pos (by simpa using hg)]
  unfold freeZ
  rw [w]
  simp only
  rw [if_pos hon, wayS_sum _ (Nat.le_refl _), hfp]
  have e0 : passZ (tabM zs) n0 = passN zs n0 := by unfold passN; rw [if_pos hn0]
  rw [e0]
  have hnn : ∀ x ∈ passN zs n0 :: (List.range (tabM zs).gr.length).map (passN zs), 0 ≤ x := fun x hx => by
    rcases List.mem_cons.1 hx with rfl | hx
    · exact (passN_bd zs n0).1
    · obtain ⟨g, _, rfl⟩ := List.mem_map.1 hx
      exact (passN_bd zs g).1
  have hsum : sumI ((List.range (tabM zs).gr.length).map (passN zs)) ≤ 16000 := by
    have := sumI_bd (b := 2000) (f := passN zs) (List.range (tabM zs).gr.length) fun g _ => (passN_bd zs g).2
    rw [List.length_range] at this
    omega
  have hp0 := passN_bd zs n0
  rw [sumZ_eq hnn (by show passN zs n0 + sumI _ ≤ _; omega)]
  rfl
theorem bnd_bd {zs : List Int} {s : Pl} {n n0 j0 i0 q : Nat} (h : SvIn zs s n) (hsq : (⟨n0, j0, i0, (q : Int)⟩ : Spot) ∈ spotsM (tabM zs).gr) : 1 ≤ bndV zs n0 j0 i0 s n ∧ bndV zs n0 j0 i0 s n ≤ freeZ (tabM zs) q - 6 := by
  have hn := h.ln
  have hn0 := (spot_row hsq).1
  simp only at hn0
  have hv := vis_bd h
  have hnn : ∀ g, 0 ≤ passN zs g := fun g => (passN_bd zs g).1
  have hw0 := wayS_nn (N := (tabM zs).gr.length) (m := n + 1) hnn (gapN (tabM zs).gr.length n n0 + 1)
  rw [free_eq zs hsq, ← wayS_turn (f := passN zs) (by omega : 0 < (tabM zs).gr.length) (n + 1)]
  have hall := wayS_nn (N := (tabM zs).gr.length) (m := n + 1) hnn (tabM zs).gr.length
  have hp0 := hnn n0
  unfold bndV
  by_cases hnn0 : n = n0
  · subst hnn0
    have hg : gapN (tabM zs).gr.length n n + 1 = (tabM zs).gr.length := by unfold gapN; rw [if_neg (by omega)]; omega
    rw [hg] at hw0 ⊢
    split <;> omega
  · have hlt : gapN (tabM zs).gr.length n n0 + 1 < (tabM zs).gr.length := by unfold gapN; split <;> omega
    generalize (tabM zs).gr.length = N at *
    have hlast : wayS (passN zs) N (n + 1) N = wayS (passN zs) N (n + 1) (N - 1) + passN zs n := by
      have : wayS (passN zs) N (n + 1) (N - 1 + 1) = wayS (passN zs) N (n + 1) (N - 1) + passN zs ((n + 1 + (N - 1)) % N) := rfl
      rw [show n + 1 + (N - 1) = n + N by omega, Nat.add_mod_right, Nat.mod_eq_of_lt hn, show N - 1 + 1 = N by omega] at this
      exact this
    have hm := wayS_mono (N := N) (m := n + 1) hnn (gapN N n n0 + 1) (N - 1 - (gapN N n n0 + 1))
    rw [show gapN N n n0 + 1 + (N - 1 - (gapN N n n0 + 1)) = N - 1 by omega] at hm
    split <;> omega
end
section
open Go.RowKit
set_option linter.unusedVariables false

theorem redsB_all {rn : Nat → Rn} : ∀ n, redsB rn n = true → ∀ p : Nat, p < n → redM (rn p) = true
  | 0, _, p, hp => absurd hp (Nat.not_lt_zero _)
  | n + 1, h, p, hp => by
    have h' : (redsB rn n && redM (rn n)) = true := h
    rw [Bool.and_eq_true] at h'
    rcases Nat.lt_succ_iff_lt_or_eq.1 hp with h2 | rfl
    · exact redsB_all n h'.1 p h2
    · exact h'.2
theorem redsB_some {rn : Nat → Rn} : ∀ n, redsB rn n = false → ∃ p : Nat, p < n ∧ redM (rn p) = false
  | 0, h => by cases h
  | n + 1, h => by
    have h' : (redsB rn n && redM (rn n)) = false := h
    cases hr : redM (rn n)
    · exact ⟨n, by omega, hr⟩
    · rw [hr, Bool.and_true] at h'
      obtain ⟨p, hp, he⟩ := redsB_some n h'
      exact ⟨p, by omega, he⟩
/-- Between two groups, somebody is not red yet. -/
theorem sv_inx {zs : List Int} {n : Nat} {a0 a1 : Int} {rn : Nat → Rn} {cn : Nat → Int} {cr want : Int} (h : SvIn zs ⟨⟨n, a0, a1, true⟩, rn, cn, cr⟩ n) (hr : redsB rn 8 = false) :
    (tickP (tabM zs) want ⟨⟨n, a0, a1, true⟩, rn, cn, cr⟩).r = ⟨n, a0, a1, true⟩ ∧ SvIn zs (tickP (tabM zs) want ⟨⟨n, a0, a1, true⟩, rn, cn, cr⟩) n ∧ visV (tabM zs) (tickP (tabM zs) want ⟨⟨n, a0, a1, true⟩, rn, cn, cr⟩) n ≤ visV (tabM zs) ⟨⟨n, a0, a1, true⟩, rn, cn, cr⟩ n - 1 := by
  have hn := h.ln
  have hR : (tickP (tabM zs) want ⟨⟨n, a0, a1, true⟩, rn, cn, cr⟩).r = ⟨n, a0, a1, true⟩ := by
    show rgN (tabM zs) rn want ⟨n, a0, a1, true⟩ = _
    unfold rgN
    rw [if_pos rfl, if_neg (by rw [hr]; simp)]
  have hS : ∀ p : Nat, hasM (rgS (tabM zs) rn want ⟨n, a0, a1, true⟩) p = false := fun p => by
    show hasM 0 p = false
    exact hasM_zero _
  have hG := h.grn rfl
  have hstep : ∀ p : Nat, p < 8 → redM (rn p) = true → redM ((tickP (tabM zs) want ⟨⟨n, a0, a1, true⟩, rn, cn, cr⟩).rn p) = true := fun p hp hh => by
    show redM (stepM _ _ _) = true
    rw [step_rest hh (hS p)]; unfold redM asM; simp
  have hle : ∀ sp ∈ spotsM (tabM zs).gr, costS (tabM zs) (tickP (tabM zs) want ⟨⟨n, a0, a1, true⟩, rn, cn, cr⟩) n sp ≤ costS (tabM zs) ⟨⟨n, a0, a1, true⟩, rn, cn, cr⟩ n sp := fun sp hsp => by
    obtain ⟨g, k, i, q⟩ := sp
    obtain ⟨r1, r2, r3, r4, r5⟩ := spot_row hsp
    simp only at r1 r2 r3 r4 r5
    have hq := okP_bd r5
    obtain ⟨p, hp⟩ := Int.eq_ofNat_of_zero_le hq.1
    subst hp
    have hp8 : p < 8 := by omega
    have hph := tab_phIn zs p
    unfold costS
    rw [hR]
    simp only [Int.toNat_natCast, if_true]
    split
    · split
      · exact Int.le_refl _
      · split
        · cases hr2 : redM (rn p)
          · exact (rP_step hph (h.ru p hp8) (cueM_ok _ _ _ _) hr2).1
          · rw [rP_red (hstep p hp8 hr2)]; exact rP_nonneg hph _
        · exact Int.le_refl _
    · exact Int.le_refl _
  have hlt : ∃ sp ∈ spotsM (tabM zs).gr, costS (tabM zs) (tickP (tabM zs) want ⟨⟨n, a0, a1, true⟩, rn, cn, cr⟩) n sp ≤ costS (tabM zs) ⟨⟨n, a0, a1, true⟩, rn, cn, cr⟩ n sp - 1 := by
    obtain ⟨p, hp8, hr2⟩ := redsB_some 8 hr
    obtain ⟨k, i, hk, hsp, hi⟩ := h.act p hp8 hr2
    refine ⟨_, hsp, ?_⟩
    have hi' : (i : Int) = aK ⟨n, a0, a1, true⟩ k := hi
    unfold costS
    rw [hR]
    simp only [Int.toNat_natCast, if_true]
    rw [if_neg (by omega), if_pos hi', if_neg (by omega), if_pos hi']
    exact (rP_step (tab_phIn zs p) (h.ru p hp8) (cueM_ok _ _ _ _) hr2).2 (.inl (hG p hp8))
  refine ⟨hR, ⟨by rw [hR], hn, fun p hp => ru_step (tab_phIn zs p) (h.ru p hp) (cueM_ok _ _ _ _), fun p hp hh => ?_, fun _ p hp => step_not1 (hG p hp) (hS p)⟩, ?_⟩
  · cases hr2 : redM (rn p)
    · obtain ⟨k, i, hk, hsp, hi⟩ := h.act p hp hr2
      exact ⟨k, i, hk, hsp, by rw [hR]; exact hi⟩
    · rw [hstep p hp hr2] at hh; cases hh
  · have := sumI_lt (spotsM (tabM zs).gr) hle hlt
    unfold visV
    rw [hR]
    simp only [if_true]
    omega
/-- Between two groups, all are red: the next group. -/
theorem sv_new {zs : List Int} {n n0 : Nat} {a0 a1 : Int} {rn : Nat → Rn} {cn : Nat → Int} {cr want : Int} (h : SvIn zs ⟨⟨n, a0, a1, true⟩, rn, cn, cr⟩ n) (hr : redsB rn 8 = true) (h0 : n0 < (tabM zs).gr.length) (hf : wanZ (tabM zs).gr want n0 = true) :
    ∃ j, j ≤ gapN (tabM zs).gr.length n n0 ∧ (tickP (tabM zs) want ⟨⟨n, a0, a1, true⟩, rn, cn, cr⟩).r = ⟨((n + 1 + j) % (tabM zs).gr.length : Nat), -1, -1, false⟩ ∧ SvIn zs (tickP (tabM zs) want ⟨⟨n, a0, a1, true⟩, rn, cn, cr⟩) ((n + 1 + j) % (tabM zs).gr.length) := by
  have hn := h.ln
  obtain ⟨j, hj, he⟩ := fol_way hn h0 hf
  have hR : (tickP (tabM zs) want ⟨⟨n, a0, a1, true⟩, rn, cn, cr⟩).r = ⟨((n + 1 + j) % (tabM zs).gr.length : Nat), -1, -1, false⟩ := by
    show rgN (tabM zs) rn want ⟨n, a0, a1, true⟩ = _
    unfold rgN folG
    rw [if_pos rfl, if_pos hr, he, if_pos (Int.natCast_nonneg _)]
  have hS : ∀ p : Nat, hasM (rgS (tabM zs) rn want ⟨n, a0, a1, true⟩) p = false := fun p => by
    show hasM 0 p = false
    exact hasM_zero _
  refine ⟨j, hj, hR, by rw [hR], Nat.mod_lt _ (by omega), fun p hp => ru_step (tab_phIn zs p) (h.ru p hp) (cueM_ok _ _ _ _), fun p hp hh => ?_, fun hx => by rw [hR] at hx; cases hx⟩
  have hh' : redM (stepM ((tabM zs).ph p) (rn p) (cueM (rgS (tabM zs) rn want ⟨n, a0, a1, true⟩) (rgE (tabM zs) rn want ⟨n, a0, a1, true⟩) (pressZ (tabM zs) rn n a0 a1 want) p)) = false := hh
  rw [step_rest (redsB_all 8 hr p hp) (hS p)] at hh'
  unfold redM asM at hh'
  simp at hh'
theorem tick_x {zs : List Int} {n : Nat} {a0 a1 : Int} {rn : Nat → Rn} {cn : Nat → Int} {cr want : Int} (h : SvIn zs ⟨⟨n, a0, a1, true⟩, rn, cn, cr⟩ n) (hw : 0 ≤ want ∧ want ≤ 255)
    {n0 j0 i0 q : Nat} (hq8 : q < 8) (hsq : (⟨n0, j0, i0, (q : Int)⟩ : Spot) ∈ spotsM (tabM zs).gr) (hwq : hasM want q = true) :
    ∃ n', SvIn zs (tickP (tabM zs) want ⟨⟨n, a0, a1, true⟩, rn, cn, cr⟩) n' ∧ bndV zs n0 j0 i0 (tickP (tabM zs) want ⟨⟨n, a0, a1, true⟩, rn, cn, cr⟩) n' ≤ bndV zs n0 j0 i0 ⟨⟨n, a0, a1, true⟩, rn, cn, cr⟩ n - 1 := by
  have hn := h.ln
  have hn0 := (spot_row hsq).1
  simp only at hn0
  have hnn : ∀ g, 0 ≤ passN zs g := fun g => (passN_bd zs g).1
  have hA : aheadB ⟨⟨n, a0, a1, true⟩, rn, cn, cr⟩ n0 j0 i0 = false := by unfold aheadB; simp
  have hB : bndV zs n0 j0 i0 ⟨⟨n, a0, a1, true⟩, rn, cn, cr⟩ n = visV (tabM zs) ⟨⟨n, a0, a1, true⟩, rn, cn, cr⟩ n + wayS (passN zs) (tabM zs).gr.length (n + 1) (gapN (tabM zs).gr.length n n0 + 1) := by
    unfold bndV; rw [hA]; simp
  cases hr : redsB rn 8
  · obtain ⟨hR, h', hv⟩ := sv_inx (want := want) h hr
    refine ⟨n, h', ?_⟩
    have hA' : aheadB (tickP (tabM zs) want ⟨⟨n, a0, a1, true⟩, rn, cn, cr⟩) n0 j0 i0 = false := by unfold aheadB; rw [hR]; simp
    rw [hB]
    unfold bndV
    rw [hA']
    simp only [Bool.false_eq_true, if_false]
    omega
  · obtain ⟨j, hj, hR, h'⟩ := sv_new (want := want) h hr hn0 (wan_spot hw hq8 hsq hwq)
    refine ⟨_, h', ?_⟩
    have hv := vis_bd h
    have hv' := vis_bd h'
    rw [hB]
    generalize hN : (tabM zs).gr.length = N at *
    have hsplit := wayS_add (f := passN zs) (N := N) (m := n + 1) j (gapN N n n0 + 1 - j)
    rw [show j + (gapN N n n0 + 1 - j) = gapN N n n0 + 1 by omega] at hsplit
    have hfr := wayS_front (f := passN zs) (N := N) (m := n + 1 + j) (gapN N n n0 - j)
    rw [show gapN N n n0 - j + 1 = gapN N n n0 + 1 - j by omega] at hfr
    have hj0 := wayS_nn (N := N) (m := n + 1) hnn j
    unfold bndV
    by_cases hjg : j = gapN N n n0
    · have hat := gap_at hn hn0
      rw [← hjg] at hat
      have hA' : aheadB (tickP (tabM zs) want ⟨⟨n, a0, a1, true⟩, rn, cn, cr⟩) n0 j0 i0 = true := by
        unfold aheadB
        rw [hR, hat]
        have : aK ⟨(n0 : Int), -1, -1, false⟩ j0 = -1 := by unfold aK; split <;> rfl
        rw [this]
        simp; omega
      rw [hA', if_pos rfl]
      have := wayS_nn (N := N) (m := n + 1 + j + 1) hnn (gapN N n n0 - j)
      omega
    · obtain ⟨hne, hgs⟩ := gap_step hn hn0 (show j < gapN N n n0 by omega)
      have hA' : aheadB (tickP (tabM zs) want ⟨⟨n, a0, a1, true⟩, rn, cn, cr⟩) n0 j0 i0 = false := by
        unfold aheadB
        rw [hR]
        have : ((((n + 1 + j) % N : Nat) : Int) == (n0 : Int)) = false := beq_eq_false_iff_ne.2 (by omega)
        show ((((n + 1 + j) % N : Nat) : Int) == (n0 : Int) && _ && _) = false
        rw [this]; rfl
      rw [hA', hN, hgs]
      have hm : wayS (passN zs) N ((n + 1 + j) % N + 1) (gapN N n n0 - j - 1 + 1) = wayS (passN zs) N (n + 1 + j + 1) (gapN N n n0 - j) := by
        rw [show gapN N n n0 - j - 1 + 1 = gapN N n n0 - j by omega, ← wayS_mod (m := (n + 1 + j) % N + 1), ← wayS_mod (m := n + 1 + j + 1), Nat.mod_add_mod]
      rw [hm]
      simp only [Bool.false_eq_true, if_false]
      omega
/-- A phase that comes in this visit comes next, or stays ahead. -/
theorem ahead_next {zs : List Int} {n : Nat} {a0 a1 : Int} {rn : Nat → Rn} {cn : Nat → Int} {cr want : Int} (h : SvIn zs ⟨⟨n, a0, a1, false⟩, rn, cn, cr⟩ n) {j0 i0 q : Nat} (hq8 : q < 8) (hsq : (⟨n, j0, i0, (q : Int)⟩ : Spot) ∈ spotsM (tabM zs).gr) (hwq : hasM want q = true)
    (hlt : aK ⟨n, a0, a1, false⟩ j0 < (i0 : Int)) : aK (rgN (tabM zs) rn want ⟨n, a0, a1, false⟩) j0 < (i0 : Int) ∨ ((tickP (tabM zs) want ⟨⟨n, a0, a1, false⟩, rn, cn, cr⟩).rn q).c = 1 := by
  have hn := h.ln
  obtain ⟨r1, r2, r3, r4, r5⟩ := spot_row hsq
  simp only at r1 r2 r3 r4 r5
  have hr : rowZ (tabM zs).gr n j0 = rowOf (tabM zs).gr n j0 := rowZ_nat hn r2
  have hnx := nextZ_le (r := rowZ (tabM zs).gr n j0) (want := want) (a := aK ⟨n, a0, a1, false⟩ j0) (j := i0) (by rw [hr]; exact r3) hlt (by rw [hr, r4]; exact hwq)
  rcases beg_k (zs := zs) (rn := rn) (want := want) (a0 := a0) (a1 := a1) hn r2 with ⟨b, i, p, h1, h2, hp8, hsp, hs, hm⟩ | ⟨_, e⟩
  · have hnew : aK (rgN (tabM zs) rn want ⟨n, a0, a1, false⟩) j0 = nextZ (rowZ (tabM zs).gr n j0) want (aK ⟨n, a0, a1, false⟩ j0) := by
      rcases (show j0 = 0 ∨ j0 = 1 by omega) with rfl | rfl
      · exact (rgN_a0 _ _ _ _ _ _).trans (if_pos b)
      · exact (rgN_a1 _ _ _ _ _ _).trans (if_pos b)
    by_cases he : i = i0
    · subst he
      have r4' := (spot_row hsp).2.2.2.1
      simp only at r4'
      rw [r4] at r4'
      have : q = p := by omega
      subst this
      right
      have hred := (may_facts hm)
      have hredM : redM (rn q) = true := by unfold redM; rw [hred.1, hred.2.1, hred.2.2.1]; rfl
      show (stepM ((tabM zs).ph q) (rn q) (cueM (rgS (tabM zs) rn want ⟨n, a0, a1, false⟩) (rgE (tabM zs) rn want ⟨n, a0, a1, false⟩) (pressZ (tabM zs) rn n a0 a1 want) q)).c = 1
      rw [step_begin (cueM_ok _ _ _ _) hredM hs]
    · left; omega
  · left; rw [e]; exact hlt
theorem tick_n {zs : List Int} {n : Nat} {a0 a1 : Int} {rn : Nat → Rn} {cn : Nat → Int} {cr want : Int} (h : SvIn zs ⟨⟨n, a0, a1, false⟩, rn, cn, cr⟩ n) (hw : 0 ≤ want ∧ want ≤ 255)
    {n0 j0 i0 q : Nat} (hq8 : q < 8) (hsq : (⟨n0, j0, i0, (q : Int)⟩ : Spot) ∈ spotsM (tabM zs).gr) (hwq : hasM want q = true) :
    SvIn zs (tickP (tabM zs) want ⟨⟨n, a0, a1, false⟩, rn, cn, cr⟩) n ∧ ((rn q).c = 1 ∨ ((tickP (tabM zs) want ⟨⟨n, a0, a1, false⟩, rn, cn, cr⟩).rn q).c = 1 ∨ bndV zs n0 j0 i0 (tickP (tabM zs) want ⟨⟨n, a0, a1, false⟩, rn, cn, cr⟩) n ≤ bndV zs n0 j0 i0 ⟨⟨n, a0, a1, false⟩, rn, cn, cr⟩ n - 1) := by
  have hn := h.ln
  have h' := sv_in (want := want) h
  refine ⟨h', ?_⟩
  by_cases hc : (rn q).c = 1
  · exact .inl hc
  by_cases hc' : ((tickP (tabM zs) want ⟨⟨n, a0, a1, false⟩, rn, cn, cr⟩).rn q).c = 1
  · exact .inr (.inl hc')
  refine .inr (.inr ?_)
  have hle := sumI_le (spotsM (tabM zs).gr) (sv_le (want := want) h)
  have hx' : (tickP (tabM zs) want ⟨⟨n, a0, a1, false⟩, rn, cn, cr⟩).r.x = stCr (tabM zs) rn n want a0 a1 := rfl
  have hg' : (tickP (tabM zs) want ⟨⟨n, a0, a1, false⟩, rn, cn, cr⟩).r.g = n := rfl
  have hv : visV (tabM zs) (tickP (tabM zs) want ⟨⟨n, a0, a1, false⟩, rn, cn, cr⟩) n ≤ visV (tabM zs) ⟨⟨n, a0, a1, false⟩, rn, cn, cr⟩ n - 1 := by
    unfold visV
    rw [hx']
    cases hx : stCr (tabM zs) rn n want a0 a1
    · have := sumI_lt (spotsM (tabM zs).gr) (sv_le (want := want) h) (wait_tick h hw hx hq8 hsq hwq hc)
      simp only [Bool.false_eq_true, if_false]
      omega
    · simp only [Bool.false_eq_true, if_false, if_true]
      omega
  have hw0 := wayS_nn (N := (tabM zs).gr.length) (m := n + 1) (fun g => (passN_bd zs g).1) (gapN (tabM zs).gr.length n n0 + 1)
  unfold bndV
  cases hA : aheadB ⟨⟨n, a0, a1, false⟩, rn, cn, cr⟩ n0 j0 i0
  · -- not ahead: it stays so
    have hA' : aheadB (tickP (tabM zs) want ⟨⟨n, a0, a1, false⟩, rn, cn, cr⟩) n0 j0 i0 = false := by
      cases hB : aheadB (tickP (tabM zs) want ⟨⟨n, a0, a1, false⟩, rn, cn, cr⟩) n0 j0 i0
      · rfl
      · unfold aheadB at hB hA
        simp only [Bool.and_eq_true, beq_iff_eq, Bool.not_eq_true', decide_eq_true_eq] at hB
        obtain ⟨⟨e1, _⟩, e3⟩ := hB
        have e1' : (n : Int) = n0 := e1
        have hk := (spot_row hsq).2.1
        simp only at hk
        have hm := aK_mono (zs := zs) (rn := rn) (want := want) (a0 := a0) (a1 := a1) hn hk
        have e3' : aK (rgN (tabM zs) rn want ⟨n, a0, a1, false⟩) j0 < (i0 : Int) := e3
        have : aK ⟨n, a0, a1, false⟩ j0 < (i0 : Int) := by omega
        simp [e1'] at hA
        rw [e1'] at this
        omega
    rw [hA']
    simp only [Bool.false_eq_true, if_false]
    omega
  · -- ahead: it stays so, and the rings do not cross
    have hA2 := hA
    unfold aheadB at hA2
    simp only [Bool.and_eq_true, beq_iff_eq, Bool.not_eq_true', decide_eq_true_eq] at hA2
    obtain ⟨⟨e1, _⟩, e3⟩ := hA2
    have e1' : n = n0 := by have : (n : Int) = n0 := e1; omega
    subst e1'
    have e3' : aK ⟨n, a0, a1, false⟩ j0 < (i0 : Int) := e3
    have hnext := (ahead_next (want := want) h hq8 hsq hwq e3').resolve_right hc'
    obtain ⟨r1, r2, r3, r4, r5⟩ := spot_row hsq
    simp only at r1 r2 r3 r4 r5
    have hr : rowZ (tabM zs).gr n j0 = rowOf (tabM zs).gr n j0 := rowZ_nat hn r2
    have hnx := (nextZ_le (r := rowZ (tabM zs).gr n j0) (want := want) (a := aK ⟨n, a0, a1, false⟩ j0) (j := i0) (by rw [hr]; exact r3) e3' (by rw [hr, r4]; exact hwq)).1
    have hcr : stCr (tabM zs) rn n want a0 a1 = false := by
      cases hx : stCr (tabM zs) rn n want a0 a1
      · rfl
      · unfold stCr at hx
        simp only [Bool.and_eq_true] at hx
        obtain ⟨⟨⟨_, s0⟩, s1⟩, _⟩ := hx
        have hno : ∀ k : Nat, k < 2 → settM (ringO (tabM zs) rn n want k (aK ⟨n, a0, a1, false⟩ k)).ph (ringO (tabM zs) rn n want k (aK ⟨n, a0, a1, false⟩ k)).nx (ringO (tabM zs) rn n want k (aK ⟨n, a0, a1, false⟩ k)).bu rn = true := fun k hk => by
          rcases (show k = 0 ∨ k = 1 by omega) with rfl | rfl
          · exact s0
          · exact s1
        have := hno j0 r2
        unfold settM at this
        simp only [Bool.and_eq_true, decide_eq_true_eq] at this
        have h2 : nextZ (rowZ (tabM zs).gr n j0) want (aK ⟨n, a0, a1, false⟩ j0) < 0 := this.1
        omega
    have hA' : aheadB (tickP (tabM zs) want ⟨⟨n, a0, a1, false⟩, rn, cn, cr⟩) n j0 i0 = true := by
      unfold aheadB
      rw [hx', hcr, hg']
      have hd : decide (aK (tickP (tabM zs) want ⟨⟨n, a0, a1, false⟩, rn, cn, cr⟩).r j0 < (i0 : Int)) = true := decide_eq_true hnext
      rw [hd]; simp
    rw [hA']
    simp only [if_true]
    omega
/-- A tick: who waits comes nearer. -/
theorem serve_tick {zs : List Int} {s : Pl} {n : Nat} {want : Int} (h : SvIn zs s n) (hw : 0 ≤ want ∧ want ≤ 255) {n0 j0 i0 q : Nat} (hq8 : q < 8) (hsq : (⟨n0, j0, i0, (q : Int)⟩ : Spot) ∈ spotsM (tabM zs).gr) (hwq : hasM want q = true) :
    ∃ n', SvIn zs (tickP (tabM zs) want s) n' ∧ ((s.rn q).c = 1 ∨ ((tickP (tabM zs) want s).rn q).c = 1 ∨ bndV zs n0 j0 i0 (tickP (tabM zs) want s) n' ≤ bndV zs n0 j0 i0 s n - 1) := by
  have hg := h.g
  obtain ⟨⟨g, a0, a1, x⟩, rn, cn, cr⟩ := s
  simp only at hg
  subst hg
  cases x
  · have := tick_n h hw hq8 hsq hwq
    exact ⟨n, this.1, this.2⟩
  · obtain ⟨n', h1, h2⟩ := tick_x h hw hq8 hsq hwq
    exact ⟨n', h1, .inr (.inr h2)⟩
/-- What holds from tick to tick, with the ticks since the phase was green. -/
def SrvI (zs : List Int) (n0 j0 i0 q : Nat) (s : Pl) (since : Int) : Prop := ∃ n, SvIn zs s n ∧ 0 ≤ since ∧ since + bndV zs n0 j0 i0 s n ≤ freeZ (tabM zs) q ∧ ((s.rn q).c = 1 → since = 0)
theorem srv_tick {zs : List Int} {s : Pl} {want since : Int} {n0 j0 i0 q : Nat} (h : SrvI zs n0 j0 i0 q s since) (hw : 0 ≤ want ∧ want ≤ 255) (hq8 : q < 8) (hsq : (⟨n0, j0, i0, (q : Int)⟩ : Spot) ∈ spotsM (tabM zs).gr) (hwq : hasM want q = true) :
    SrvI zs n0 j0 i0 q (tickP (tabM zs) want s) (if ((tickP (tabM zs) want s).rn q).c = 1 then 0 else since + 1) ∧ (if ((tickP (tabM zs) want s).rn q).c = 1 then 0 else since + 1) ≤ freeZ (tabM zs) q := by
  obtain ⟨n, h1, h2, h3, h4⟩ := h
  obtain ⟨n', g1, g2⟩ := serve_tick h1 hw hq8 hsq hwq
  have hb := bnd_bd g1 hsq
  have hb0 := bnd_bd h1 hsq
  have key : (if ((tickP (tabM zs) want s).rn q).c = 1 then 0 else since + 1) + bndV zs n0 j0 i0 (tickP (tabM zs) want s) n' ≤ freeZ (tabM zs) q := by
    split
    · omega
    · rename_i hc
      rcases g2 with g2 | g2 | g2
      · have := h4 g2; omega
      · exact absurd g2 hc
      · omega
  refine ⟨⟨n', g1, ?_, key, fun hc => by rw [if_pos hc]⟩, by omega⟩
  split <;> omega
theorem srv_start (zs : List Int) {n0 j0 i0 q : Nat} (hsq : (⟨n0, j0, i0, (q : Int)⟩ : Spot) ∈ spotsM (tabM zs).gr) : SrvI zs n0 j0 i0 q ⟨⟨0, -1, -1, false⟩, fun p => bgn19 ((tabM zs).ph p), fun _ => 0, 0⟩ 0 := by
  have hn1 := (spot_row hsq).1
  simp only at hn1
  have hsv : SvIn zs ⟨⟨0, -1, -1, false⟩, fun p => bgn19 ((tabM zs).ph p), fun _ => 0, 0⟩ 0 := ⟨rfl, by omega, fun p hp => ⟨rfl, by show (0 : Int) ≤ 9999; omega, Int.le_refl _, Int.le_refl _⟩, (fun p hp hh => by
    have : redM (bgn19 ((tabM zs).ph p)) = true := rfl
    rw [this] at hh; cases hh), fun hx => (by cases hx)⟩
  have hb := bnd_bd hsv hsq
  exact ⟨0, hsv, Int.le_refl _, by omega, fun hc => by cases hc⟩
end
section
open Go.ChangeShapes Go.WideShapes Go.ChangeAt Go.RowKit Go.Shelf
set_option linter.unusedVariables false
attribute [local go_sem] IsBlk.cell IsBlk.frozen

theorem sv_kind {zs : List Int} {s : Pl} {n : Nat} (h : SvIn zs s n) : InKind .i64 s.r.g := by
  have hgl : (tabM zs).gr.length ≤ 8 := by have := rowsM_bd zs; have := groupsN_bd zs; show (rowsM zs).2.length ≤ 8; omega
  have h1 := h.g
  have h2 := h.ln
  rw [h1]; unfold InKind; omega
theorem tick_cn (t : Tab) (want : Int) (s : Pl) (q : Nat) : (tickP t want s).cn q = s.cn q ∨ (tickP t want s).cn q = s.cn q + 1 := by
  unfold tickP
  simp only
  split
  · exact .inr rfl
  · exact .inl rfl
/-- The loop's own. -/
structure SvLp (zs : List Int) (n0 j0 i0 q : Nat) (s : Pl) (since : Int) (j : Nat) : Prop where
  srv : SrvI zs n0 j0 i0 q s since
  cn : ∀ r, r < 8 → 0 ≤ s.cn r ∧ s.cn r ≤ j
  cr : 0 ≤ s.cr ∧ s.cr ≤ j
  si : 0 ≤ since ∧ since ≤ 2147483647
theorem svLp_tick {zs : List Int} {s : Pl} {want since : Int} {n0 j0 i0 q j : Nat} (h : SvLp zs n0 j0 i0 q s since j) (hw : 0 ≤ want ∧ want ≤ 255) (hq8 : q < 8) (hsq : (⟨n0, j0, i0, (q : Int)⟩ : Spot) ∈ spotsM (tabM zs).gr) (hwq : hasM want q = true) :
    SvLp zs n0 j0 i0 q (tickP (tabM zs) want s) (if ((tickP (tabM zs) want s).rn q).c = 1 then 0 else since + 1) (j + 1) ∧ ¬ (freeZ (tabM zs) q < (if ((tickP (tabM zs) want s).rn q).c = 1 then 0 else since + 1)) := by
  have h1 := srv_tick h.srv hw hq8 hsq hwq
  have hf := freeZ_bd (tabM zs) q
  have hs := h.si
  have hge : 0 ≤ (if ((tickP (tabM zs) want s).rn q).c = 1 then 0 else since + 1) := by split <;> omega
  refine ⟨⟨h1.1, fun r hr => ?_, ?_, hge, by have := h1.2; omega⟩, by have := h1.2; omega⟩
  · have := h.cn r hr
    rcases tick_cn (tabM zs) want s r with e | e <;> omega
  · have := h.cr
    rcases tick_cr (tabM zs) want s with e | e <;> omega
set_option maxHeartbeats 8000000 in
set_option maxRecDepth 100000 in
theorem ringServes_walk (a0 : Option Addr) (cap0 : Nat) (z0 : List Int) (p : Int) (a1 : Option Addr) (cap1 : Nat) (z1 : List Int) (w : World) (hc0 : z0.length ≤ cap0 ∧ cap0 ≤ 9223372036854775807) (_ : Hdr w a0 cap0) (hz0 : Ints w a0 z0) (_ : ∀ i, i < z0.length → InKind .i64 (z0.getD i 0)) (hp : InKind .i64 p)
    (hc1 : z1.length ≤ cap1 ∧ cap1 ≤ 9223372036854775807) (_ : Hdr w a1 cap1) (hz1 : Ints w a1 z1) (_ : ∀ i, i < z1.length → InKind .i64 (z1.getD i 0)) :
    Calls Try.prog 6 #[.slice a0 z0.length cap0, .int .i64 p, .slice a1 z1.length cap1] w fun e w' => e = .returned (.bool true) ∧ Below w.heap.size w w' := by
  have HZ : Hid (∀ w', Below w.heap.size w w' → Ints w' a0 z0) := Lib.hid fun w' hb => Row1.below hz0 hb (Nat.le_refl _)
  have HZL : Hid (z0.length ≤ 9223372036854775807) := Lib.hid (by omega)
  have HY := Lib.hid hz1
  have hyl : z1.length ≤ 9223372036854775807 := by omega
  have z := zeroTab
  have HPH : Hid (∀ k, PhIn ((tabM z0).ph k)) := Lib.hid (tab_phIn z0)
  clear hz0 hz1
  go_enter Try.func6, Try.ntmps6
  go_upto_region 2 with (first | (go_at_call 7; refine (ltable_up _ _ _ _ HZL.out (HZ.out _ (by (repeat' (first | (with_reducible exact Below.refl _ _) | (with_reducible assumption) | (with_reducible refine Below.setCell ?_ ?_ _) | (with_reducible refine Below.alloc ?_ ?_ _) | (with_reducible refine Below.drew ?_) | (with_reducible refine Up.base _ ?_ ?_) | (with_reducible exact LeSize.out) | exact LeSize.out | exact Nat.le_add_right_of_le LeSize.out | exact Nat.le_add_right_of_le (Nat.le_add_right_of_le LeSize.out) | (with_reducible exact Nat.le_refl _) | (simp; done) | (simp; omega)))))).mono ?_; rintro e w' ⟨T, uT, rfl, rfl, hT⟩) | (refine wpList_build_play rfl rfl rfl hT.size (fun C hC => ?_); have HC := Lib.hid hC; clear hC; go_simp))
  haveI : Sz131 T := ⟨hT.size⟩
  have HT : Hid (∀ w', Below uT.w.heap.size uT.w w' → IsTab w' T (tabM z0)) := Lib.hid fun w' hb => hT.below hb (Nat.le_refl _)
  clear hT
  have hC240 : 240 ≤ C.size := by rw [HC.out, plA_size]; exact Nat.le_refl _
  have iC : IsBlk (uT.w.alloc (.cells C 57)) uT.w.heap.size C 57 := inferInstance
  have hb0 : Below w.heap.size w (uT.w.alloc (.cells C 57)) := by (repeat' (first | (with_reducible exact Below.refl _ _) | (with_reducible assumption) | (with_reducible refine Below.setCell ?_ ?_ _) | (with_reducible refine Below.alloc ?_ ?_ _) | (with_reducible refine Below.drew ?_) | (with_reducible refine Up.base _ ?_ ?_) | (with_reducible exact LeSize.out) | exact LeSize.out | exact Nat.le_add_right_of_le LeSize.out | exact Nat.le_add_right_of_le (Nat.le_add_right_of_le LeSize.out) | (with_reducible exact Nat.le_refl _) | (simp; done) | (simp; omega)))
  have hbT : Below uT.w.heap.size uT.w (uT.w.alloc (.cells C 57)) := by (repeat' (first | (with_reducible exact Below.refl _ _) | (with_reducible assumption) | (with_reducible refine Below.setCell ?_ ?_ _) | (with_reducible refine Below.alloc ?_ ?_ _) | (with_reducible refine Below.drew ?_) | (with_reducible refine Up.base _ ?_ ?_) | (with_reducible exact LeSize.out) | exact LeSize.out | exact Nat.le_add_right_of_le LeSize.out | exact Nat.le_add_right_of_le (Nat.le_add_right_of_le LeSize.out) | (with_reducible exact Nat.le_refl _) | (simp; done) | (simp; omega)))
  have huw := uT.bel.size
  have hW0s : uT.w.heap.size < (uT.w.alloc (.cells C 57)).heap.size := by simp
  generalize (uT.w.alloc (.cells C 57)) = W0 at *
  have HTB : Hid (∀ w', Below uT.w.heap.size W0 w' → IsTab w' T (tabM z0)) := Lib.hid fun w' hb => HT.out w' (hbT.trans hb)
  obtain ⟨b, hb⟩ : ∃ b, uT.w.heap.size = b := ⟨_, rfl⟩
  rw [hb] at iC huw hW0s HTB
  rw [hb]
  clear HT hbT hb
  haveI : LeSize w.heap.size W0 := ⟨hb0.size⟩
  go_upto_region 3 with (refine wpList_store_part (cs := #[.int .i64 (-1), .int .i64 (-1)]) 34 rfl rfl rfl rfl (by show 132 + 2 ≤ C.size; omega) (by kernel_rfl) (by simp [Value.oneCell']) ?_; go_simp)
  have i1 : (W0.setCells b 132 [.int .i64 (-1), .int .i64 (-1)]).heap[b]? = some (.cells (PlA T (plZ.setR ⟨0, -1, -1, false⟩)) 57) := by
    have := heap_sets_same [.int .i64 (-1), .int .i64 (-1)] iC.out 132
    rw [HC.out, plA_setAt T plZ (-1) (-1)] at this
    exact this
  have b1 : Below b W0 (W0.setCells b 132 [.int .i64 (-1), .int .i64 (-1)]) := below_setCells _ _ (Below.refl _ _) (Nat.le_refl _)
  generalize (W0.setCells b 132 [.int .i64 (-1), .int .i64 (-1)]) = W1 at *
  haveI j1 : IsBlk W1 b (PlA T (plZ.setR ⟨0, -1, -1, false⟩)) 57 := ⟨i1⟩
  have s1 := b1.size
  haveI : LeSize w.heap.size W1 := ⟨by omega⟩
  haveI : LeSize (b + 1) W1 := ⟨by omega⟩
  have HBG : Hid (∀ w', Below W1.heap.size W1 w' → Calls Try.prog 19 #[.agg T] w' fun e w'' => e = .returned (.agg (runsA fun p => bgn19 ((tabM z0).ph p))) ∧ Below w'.heap.size w' w'') := Lib.hid fun w' hb => begun_any T (tabM z0) w' (HTB.out w' (b1.trans (hb.mono (by omega))))
  have hra : (runsA fun p => bgn19 ((tabM z0).ph p)).size = 96 := arrF_size _ _
  have HRO := Lib.hid (show (runsA fun p => bgn19 ((tabM z0).ph p)).all (·.oneCell') = true from bgnR_one (tabM z0))
  have HRA : Hid (spl (PlA T (plZ.setR ⟨0, -1, -1, false⟩)) 135 (runsA fun p => bgn19 ((tabM z0).ph p)).toList = PlA T (plS (tabM z0))) := Lib.hid (plA_setRuns _ _ _)
  generalize (runsA fun p => bgn19 ((tabM z0).ph p)) = RR at *
  have HRS := Lib.hid hra
  clear hra i1 iC hC240 HC
  obtain ⟨CC, hCC⟩ : ∃ CC, plZ.setR ⟨0, -1, -1, false⟩ = CC := ⟨_, rfl⟩
  rw [hCC] at j1 HRA
  clear hCC
  go_upto_region 4 with (first | (refine l_lpT rfl rfl rfl ?_; go_simp) | (go_at_call 19; refine (Up.run (HBG.out _ (by (repeat' (first | (with_reducible exact Below.refl _ _) | (with_reducible assumption) | (with_reducible refine Below.setCell ?_ ?_ _) | (with_reducible refine Below.alloc ?_ ?_ _) | (with_reducible refine Below.drew ?_) | (with_reducible refine Up.base _ ?_ ?_) | (with_reducible exact LeSize.out) | exact LeSize.out | exact Nat.le_add_right_of_le LeSize.out | exact Nat.le_add_right_of_le (Nat.le_add_right_of_le LeSize.out) | (with_reducible exact Nat.le_refl _) | (simp; done) | (simp; omega)))))).mono ?_; rintro e w' ⟨rfl, ub, rfl⟩) | (refine wpList_store_part (cs := RR) 46 rfl rfl rfl rfl (by rw [plA_size, HRS.out]; omega) (by rw [HRS.out]; exact info_runs96) HRO.out ?_; go_simp))
  have b2 : Below W1.heap.size W1 ub.w := ub.bel
  have s2 := b2.size
  have HP0 : Hid (PoSt W0 (ub.w.setCells b 135 RR.toList) b T (plS (tabM z0))) := Lib.hid ⟨by
      have := heap_sets_same RR.toList (inferInstance : IsBlk ub.w b (PlA T CC) 57).out 135
      rw [HRA.out] at this
      exact this, below_setCells _ _ (b1.trans (b2.mono (by omega))) (Nat.le_refl _)⟩
  generalize (ub.w.setCells b 135 RR.toList) = Y at *
  clear b2 s2 HBG HRA HRO HRS j1 b1 s1
  have hby := HP0.out.bel
  have HBY : Hid (Below b W0 Y) := Lib.hid hby
  have hbY : Below w.heap.size w Y := hb0.trans (hby.mono (by omega))
  haveI : LeSize w.heap.size Y := ⟨hbY.size⟩
  haveI iPY : IsBlk Y b (PlA T (plS (tabM z0))) 57 := ⟨HP0.out.p⟩
  have hbYl : b < Y.heap.size := (Array.getElem?_eq_some_iff.1 HP0.out.p).1
  haveI : LeSize (b + 1) Y := ⟨hbYl⟩
  obtain ⟨q, hq, hq8⟩ : ∃ q : Nat, p % 8 = q ∧ q < 8 := ⟨(p % 8).toNat, by omega, by omega⟩
  have HPL : Hid (∀ w', Calls Try.prog 22 #[.int .i64 p, .int .i64 8] w' fun e w'' => e = .returned (.int .i64 q) ∧ w' = w'') := Lib.hid fun w' => by
    rw [← hq]; exact place_any p 8 w' (by omega) (by omega)
  have HON : Hid (∀ w', Below Y.heap.size Y w' → Calls Try.prog 21 #[.agg T] w' fun e w'' => e = .returned (.int .i64 (onM (tabM z0))) ∧ Below w'.heap.size w' w'') := Lib.hid fun w' hb => ron_any T (tabM z0) w' (HTB.out w' (HBY.out.trans (hb.mono (by omega))))
  have hqI : (q : Int) < 8 := by omega
  clear hq
  obtain ⟨hn, hhn⟩ : ∃ hn, hasM (onM (tabM z0)) q = hn := ⟨_, rfl⟩
  have HSP : Hid (hn = true → ∃ n0 j0 i0 : Nat, (⟨n0, j0, i0, (q : Int)⟩ : Spot) ∈ spotsM (tabM z0).gr) := Lib.hid fun h => by
    obtain ⟨⟨n0, j0, i0, q0⟩, h1, h2⟩ := on_spot z0 (hhn.trans h)
    simp only at h2
    subst h2
    exact ⟨n0, j0, i0, h1⟩
  have HHAS : Hid (∀ w', Calls Try.prog 14 #[.int .i64 (onM (tabM z0)), .int .i64 q] w' fun e w'' => e = .returned (.bool hn) ∧ w' = w'') := Lib.hid fun w' => by
    rw [← hhn]; exact rhas_any _ _ w'
  have hob : 0 ≤ onM (tabM z0) ∧ onM (tabM z0) ≤ 255 := packM_bd _
  have HOB : Hid (∀ v, 0 ≤ withM (bits .and .i64 v (onM (tabM z0))) q ∧ withM (bits .and .i64 v (onM (tabM z0))) q ≤ 255) := Lib.hid fun v => packM_bd _
  generalize onM (tabM z0) = on at *
  have HFR : Hid (∀ w', Below b W0 w' → Calls Try.prog 24 #[.agg T, .int .i64 q] w' fun e w'' => e = .returned (.int .i64 (freeZ (tabM z0) q)) ∧ Below w'.heap.size w' w'') := Lib.hid fun w' hb => rfree_any T (tabM z0) q w' (HTB.out w' hb)
  cases hn with
  | false =>
    clear hhn
    go_wp2_with (first | (refine l_lpT rfl rfl rfl ?_; go_simp) | (go_at_call 10; refine (Up.run (awake19_any _)).mono ?_; rintro e w' ⟨rfl, u, rfl⟩) | (go_at_call 22; refine (HPL.out _).mono ?_; rintro e w' ⟨rfl, rfl⟩) | (go_at_call 21; refine (Up.run (HON.out _ (by (repeat' (first | (with_reducible exact Below.refl _ _) | (with_reducible assumption) | (with_reducible refine Below.setCell ?_ ?_ _) | (with_reducible refine Below.alloc ?_ ?_ _) | (with_reducible refine Below.drew ?_) | (with_reducible refine Up.base _ ?_ ?_) | (with_reducible exact LeSize.out) | exact LeSize.out | exact Nat.le_add_right_of_le LeSize.out | exact Nat.le_add_right_of_le (Nat.le_add_right_of_le LeSize.out) | (with_reducible exact Nat.le_refl _) | (simp; done) | (simp; omega)))))).mono ?_; rintro e w' ⟨rfl, uo, rfl⟩) | (go_at_call 14; refine (HHAS.out _).mono ?_; rintro e w' ⟨rfl, rfl⟩))
    go_ret
    exact ⟨rfl, by (repeat' (first | (with_reducible exact Below.refl _ _) | (with_reducible assumption) | (with_reducible refine Below.setCell ?_ ?_ _) | (with_reducible refine Below.alloc ?_ ?_ _) | (with_reducible refine Below.drew ?_) | (with_reducible refine Up.base _ ?_ ?_) | (with_reducible exact LeSize.out) | exact LeSize.out | exact Nat.le_add_right_of_le LeSize.out | exact Nat.le_add_right_of_le (Nat.le_add_right_of_le LeSize.out) | (with_reducible exact Nat.le_refl _) | (simp; done) | (simp; omega)))⟩
  | true =>
    obtain ⟨n0, j0, i0, hsp0⟩ := HSP.out rfl
    have HSQ := Lib.hid hsp0
    clear hsp0 HSP
    have HS0 : Hid (SvLp z0 n0 j0 i0 q (plS (tabM z0)) 0 0) := Lib.hid ⟨srv_start z0 HSQ.out, fun r _ => ⟨Int.le_refl _, Int.le_refl _⟩, ⟨Int.le_refl _, Int.le_refl _⟩, by omega⟩
    clear hhn
    have HHQ : Hid (∀ v, hasM (withM (bits .and .i64 v on) q) q = true) := Lib.hid fun v => by rw [hasM_with]; simp; omega
    go_wp2_with (first | (refine l_lpT rfl rfl rfl ?_; go_simp) | (go_at_call 22; refine (HPL.out _).mono ?_; rintro e w' ⟨rfl, rfl⟩) | (go_at_call 21; refine (Up.run (HON.out _ (by (repeat' (first | (with_reducible exact Below.refl _ _) | (with_reducible assumption) | (with_reducible refine Below.setCell ?_ ?_ _) | (with_reducible refine Below.alloc ?_ ?_ _) | (with_reducible refine Below.drew ?_) | (with_reducible refine Up.base _ ?_ ?_) | (with_reducible exact LeSize.out) | exact LeSize.out | exact Nat.le_add_right_of_le LeSize.out | exact Nat.le_add_right_of_le (Nat.le_add_right_of_le LeSize.out) | (with_reducible exact Nat.le_refl _) | (simp; done) | (simp; omega)))))).mono ?_; rintro e w' ⟨rfl, uo, rfl⟩) | (go_at_call 14; refine (HHAS.out _).mono ?_; rintro e w' ⟨rfl, rfl⟩))
    have hbo : Below Y.heap.size Y uo.w := uo.bel
    have HP1 : Hid (PoSt W0 uo.w b T (plS (tabM z0))) := Lib.hid (HP0.out.below hbo)
    have hby1 := HP1.out.bel
    have hb1 : Below w.heap.size w uo.w := hbY.trans (hbo.mono (by omega))
    have hVl : b < uo.w.heap.size := by have := hbo.size; omega
    clear iPY HP0 HON HPL hby hbo hby1 HBY hbY hbYl
    generalize uo.w = V at *
    haveI : LeSize w.heap.size V := ⟨hb1.size⟩
    haveI : LeSize (b + 1) V := ⟨hVl⟩
    have hwb : w.heap.size ≤ b := by omega
    have HBV := Lib.hid HP1.out.bel
    have HPV := Lib.hid HP1.out.p
    clear HP1
    go_loopw [10, 11] (fun a i wr => ∃ (j : Nat) (since : Int), j ≤ 2000 ∧ a = .int .i64 since ∧ i = .int .i64 j ∧ ∃ s : Pl, Hid (PoSt V wr b T s ∧ SvLp z0 n0 j0 i0 q s since j)) (fun _ i _ => 2000 - (intOf i).toNat)
    case atStart => exact ⟨0, 0, by omega, rfl, rfl, plS (tabM z0), Lib.hid ⟨⟨HPV.out, Below.refl _ _⟩, HS0.out⟩⟩
    case round =>
      obtain ⟨j, since, hj, rfl, rfl, s, HR⟩ := hrel
      have hbel := HR.out.1.bel
      haveI iP : IsBlk wr b (PlA T s) 57 := ⟨HR.out.1.p⟩
      have hbl : b < wr.heap.size := (Array.getElem?_eq_some_iff.1 HR.out.1.p).1
      have hbw : Below w.heap.size w wr := hb1.trans (hbel.mono (by omega))
      haveI : LeSize w.heap.size wr := ⟨hbw.size⟩
      haveI : LeSize (b + 1) wr := ⟨hbl⟩
      by_cases hjl : j < 2000
      · have hjI : (j : Int) < 2000 := by omega
        go_upto_if 48 with fail
        go_cut [12] (fun o wx => wr = wx ∧ ∃ v : Int, o = .int .i64 v)
        case first =>
          by_cases hl : 0 < z1.length
          · have hlI : (0 : Int) < z1.length := by omega
            obtain ⟨c, hc⟩ : ∃ c, j / 17 = c := ⟨_, rfl⟩
            obtain ⟨d, hd⟩ : ∃ d, c % z1.length = d := ⟨_, rfl⟩
            have hdl : d < z1.length := by rw [← hd]; exact Nat.mod_lt _ hl
            have hdI : (d : Int) < z1.length := by omega
            have e17 : (j : Int) / 17 = (c : Int) := by omega
            have hn0 : ((z1.length : Int) == 0) = false := beq_eq_false_iff_ne.2 (by omega)
            have hmod : ((c : Nat) : Int).tmod (z1.length : Int) = (d : Int) := by rw [← hd]; rfl
            obtain ⟨zb, zoff, rfl, hyb, hyc⟩ := Row1.cell HY.out (Nat.ne_of_gt hl)
            have hz : wr.cell? ⟨zb, zoff + d, none⟩ = some (.int .i64 (z1.getD d 0)) := by
              rw [hbw.cell (p := ⟨zb, zoff + d, none⟩) hyb]; exact hyc _ hdl
            haveI : LeSize (zb + 1) wr := ⟨Nat.le_trans hyb hbw.size⟩
            haveI := HasCell.of hz
            generalize z1.getD d 0 = zv at *
            generalize z1.length = zl at *
            clear hd hc hyc
            go_wp2
            go_meet
            exact ⟨rfl, _, rfl⟩
          · have hlI : ¬ ((0 : Int) < z1.length) := by omega
            go_wp2
            go_meet
            exact ⟨rfl, _, rfl⟩
        case rest =>
          obtain ⟨rfl, v, rfl⟩ := hcut
          have hob2 := HOB.out v
          have hwq := HHQ.out v
          obtain ⟨wt, hwt⟩ : ∃ x, withM (bits .and .i64 v on) q = x := ⟨_, rfl⟩
          rw [hwt] at hob2 hwq
          have HTK : Hid (∀ w', Below wr.heap.size wr w' → Calls Try.prog 20 #[.pointer (some ⟨b, 0, none⟩), .int .i64 wt] w' fun e w'' => e = .returned (.tuple #[.int .i64 (rgS (tabM z0) s.rn wt s.r), .int .i64 (rgE (tabM z0) s.rn wt s.r)]) ∧ w''.heap[b]? = some (.cells (PlA T (tickP (tabM z0) wt s)) 57) ∧ Below b w' w'') := Lib.hid fun w' hb => by
            obtain ⟨n, hn, _⟩ := HR.out.2.srv
            have hcn := HR.out.2.cn
            have hcr := HR.out.2.cr
            exact tick_any T (tabM z0) b s wt w' ((hb.block _ hbl).trans HR.out.1.p) (fun w2 hb2 => HTB.out w2 (((HBV.out.trans hbel).trans (hb.mono (by omega))).trans hb2)) (sv_kind hn) HPH.out (fun r hr => by have := hcn r hr; omega) (by omega)
          obtain ⟨HS1, HFT⟩ := (⟨Lib.hid (svLp_tick HR.out.2 hob2 hq8 HSQ.out hwq).1, Lib.hid (svLp_tick HR.out.2 hob2 hq8 HSQ.out hwq).2⟩ : Hid _ ∧ Hid _)
          have hsi := HR.out.2.si
          have hs31 : since < 2147483648 := by omega
          generalize rgS (tabM z0) s.rn wt s.r = st at *
          generalize rgE (tabM z0) s.rn wt s.r = en at *
          generalize tickP (tabM z0) wt s = s1 at *
          go_upto_region 16 with (first | (go_at_call 23; refine (Up.run (rwith_any _ _ _)).mono ?_; rintro e w' ⟨rfl, u, rfl⟩) | (go_at_call 20; refine (HTK.out _ (by (repeat' (first | (with_reducible exact Below.refl _ _) | (with_reducible assumption) | (with_reducible refine Below.setCell ?_ ?_ _) | (with_reducible refine Below.alloc ?_ ?_ _) | (with_reducible refine Below.drew ?_) | (with_reducible refine Up.base _ ?_ ?_) | (with_reducible exact LeSize.out) | exact LeSize.out | exact Nat.le_add_right_of_le LeSize.out | exact Nat.le_add_right_of_le (Nat.le_add_right_of_le LeSize.out) | (with_reducible exact Nat.le_refl _) | (simp; done) | (simp; omega))))).mono ?_; rintro e w' ⟨rfl, hp2, hb2⟩))
          have hbu : Below b wr u.w := u.bel.mono (by omega)
          have HP2 : Hid (PoSt V w' b T s1) := Lib.hid ⟨hp2, (hbel.trans hbu).trans hb2⟩
          haveI iP2 : IsBlk w' b (PlA T s1) 57 := ⟨hp2⟩
          have hb2s := hb2.size
          have hbus := hbu.size
          have HB2 : Hid (Below b V w') := Lib.hid ((hbel.trans hbu).trans hb2)
          have hXr : (PlA T s1)[135 + q * 12]? = some (.int .i64 (s1.rn q).c) := plA_run T s1 hq8 (j := 0) (by omega)
          clear hp2 hb2 hbu HTK
          generalize w' = X at *
          haveI : LeSize (b + 1) X := ⟨by omega⟩
          have HFX : Hid (∀ w', Below X.heap.size X w' → Calls Try.prog 24 #[.agg T, .int .i64 q] w' fun e w'' => e = .returned (.int .i64 (freeZ (tabM z0) q)) ∧ Below w'.heap.size w' w'') := Lib.hid fun w' hb => HFR.out w' ((HBV.out.trans HB2.out).trans (hb.mono (by omega)))
          have HEND : Hid (∀ w', Below X.heap.size X w' → PoSt V w' b T s1) := Lib.hid fun w' hb => HP2.out.below hb
          obtain ⟨C2, hC2⟩ : ∃ C2, PlA T s1 = C2 := ⟨_, rfl⟩
          rw [hC2] at iP2 hXr
          haveI : IsPl C2 T s1 := ⟨hC2.symm⟩
          have hC2s : C2.size = 240 := by rw [← hC2]; exact plA_size _ _
          have HC2s := Lib.hid hC2s
          clear hC2s hC2
          generalize (s1.rn q).c = cc at *
          generalize freeZ (tabM z0) q = fr at *
          by_cases hcc : cc = 1
          · subst hcc
            have hft : ¬ (fr < 0) := by have := HFT.out; simpa using this
            have HS2 : Hid (SvLp z0 n0 j0 i0 q s1 0 (j + 1)) := Lib.hid (by have := HS1.out; simpa using this)
            clear HS1 HFT
            go_wp2_with (first | (refine l_lpT rfl rfl rfl ?_; go_simp) | (go_at_call 24; refine (Up.run (HFX.out _ (by (repeat' (first | (with_reducible exact Below.refl _ _) | (with_reducible assumption) | (with_reducible refine Below.setCell ?_ ?_ _) | (with_reducible refine Below.alloc ?_ ?_ _) | (with_reducible refine Below.drew ?_) | (with_reducible refine Up.base _ ?_ ?_) | (with_reducible exact LeSize.out) | exact LeSize.out | exact Nat.le_add_right_of_le LeSize.out | exact Nat.le_add_right_of_le (Nat.le_add_right_of_le LeSize.out) | (with_reducible exact Nat.le_refl _) | (simp; done) | (simp; omega)))))).mono ?_; rintro e w' ⟨rfl, uf, rfl⟩))
            go_roundw
            case rel => exact ⟨j + 1, 0, by omega, rfl, by go_num, s1, Lib.hid ⟨HEND.out _ (by (repeat' (first | (with_reducible exact Below.refl _ _) | (with_reducible assumption) | (with_reducible refine Below.setCell ?_ ?_ _) | (with_reducible refine Below.alloc ?_ ?_ _) | (with_reducible refine Below.drew ?_) | (with_reducible refine Up.base _ ?_ ?_) | (with_reducible exact LeSize.out) | exact LeSize.out | exact Nat.le_add_right_of_le LeSize.out | exact Nat.le_add_right_of_le (Nat.le_add_right_of_le LeSize.out) | (with_reducible exact Nat.le_refl _) | (simp; done) | (simp; omega)))), HS2.out⟩⟩
            case measure => simp [intOf]; omega
          · have hft : ¬ (fr < since + 1) := by have := HFT.out; rw [if_neg hcc] at this; omega
            have HS2 : Hid (SvLp z0 n0 j0 i0 q s1 (since + 1) (j + 1)) := Lib.hid (by have := HS1.out; rw [if_neg hcc] at this; exact this)
            have hcb : (cc == 1) = false := beq_eq_false_iff_ne.2 hcc
            clear HS1 HFT hcc
            go_wp2_with (first | (refine l_lpT rfl rfl rfl ?_; go_simp) | (go_at_call 24; refine (Up.run (HFX.out _ (by (repeat' (first | (with_reducible exact Below.refl _ _) | (with_reducible assumption) | (with_reducible refine Below.setCell ?_ ?_ _) | (with_reducible refine Below.alloc ?_ ?_ _) | (with_reducible refine Below.drew ?_) | (with_reducible refine Up.base _ ?_ ?_) | (with_reducible exact LeSize.out) | exact LeSize.out | exact Nat.le_add_right_of_le LeSize.out | exact Nat.le_add_right_of_le (Nat.le_add_right_of_le LeSize.out) | (with_reducible exact Nat.le_refl _) | (simp; done) | (simp; omega)))))).mono ?_; rintro e w' ⟨rfl, uf, rfl⟩))
            go_roundw
            case rel => exact ⟨j + 1, since + 1, by omega, rfl, by go_num, s1, Lib.hid ⟨HEND.out _ (by (repeat' (first | (with_reducible exact Below.refl _ _) | (with_reducible assumption) | (with_reducible refine Below.setCell ?_ ?_ _) | (with_reducible refine Below.alloc ?_ ?_ _) | (with_reducible refine Below.drew ?_) | (with_reducible refine Up.base _ ?_ ?_) | (with_reducible exact LeSize.out) | exact LeSize.out | exact Nat.le_add_right_of_le LeSize.out | exact Nat.le_add_right_of_le (Nat.le_add_right_of_le LeSize.out) | (with_reducible exact Nat.le_refl _) | (simp; done) | (simp; omega)))), HS2.out⟩⟩
            case measure => simp [intOf]; omega
      · have hjI : ¬ ((j : Int) < 2000) := by omega
        go_wp2_with (go_at_call 10; refine (Up.run (awake19_any _)).mono ?_; rintro e w' ⟨rfl, u, rfl⟩)
        go_ret
        exact ⟨rfl, by (repeat' (first | (with_reducible exact Below.refl _ _) | (with_reducible assumption) | (with_reducible refine Below.setCell ?_ ?_ _) | (with_reducible refine Below.alloc ?_ ?_ _) | (with_reducible refine Below.drew ?_) | (with_reducible refine Up.base _ ?_ ?_) | (with_reducible exact LeSize.out) | exact LeSize.out | exact Nat.le_add_right_of_le LeSize.out | exact Nat.le_add_right_of_le (Nat.le_add_right_of_le LeSize.out) | (with_reducible exact Nat.le_refl _) | (simp; done) | (simp; omega)))⟩
set_option maxRecDepth 100000 in
theorem RingServes_lifted (os : Os) (started : os.Started) (H : Type) (enc : TypeId × Value → H) :
    ReturnsInHanded {} Try.checked os 6 .any (Rows.ringServesSpec.pre6 enc Try.prog Try.f6 Rows.ringServesRow.domain false) (Rows.ringServesSpec.post enc Try.prog Try.f6 false true false false) := by
  refine returnsInHanded_of_change (C := Try.checked) own started (by kernel_rfl) Try.func6
    (ChangeSpec.witness6 (enc := enc) (C := Try.checked) false ⟨#[], #[.slice none 0 0, .int .i64 0, .slice none 0 0], []⟩ 8 (by kernel_rfl) (by kernel_rfl) (by kernel_rfl) (by kernel_rfl)) ?_
  intro W base args ds gs before hval0 hW hcnd _
  have hval : ∀ (j : Nat) t v, Try.f6.params[j]? = some t → args[j]? = some v → Value.okWide Try.prog W .any base t v := hval0
  have hW' := hW
  obtain ⟨p, q, hA0, hV, rfl, hfz, hnd⟩ := hW
  have hA : DataW.TrodAll enc Try.prog W 0 (fun _ => true) true Try.f6.params.toList args.toList ds p := hA0
  rw [Try.params6] at hA hval
  obtain ⟨v0, vs0, d0, ds0, p0, q0, hargs, rfl, rfl, h0, r0⟩ := trodAll_cons hA
  obtain ⟨v1, vs1, d1, ds1, p1, q1, rfl, rfl, rfl, h1, r1⟩ := trodAll_cons r0
  obtain ⟨v2, vs2, d2, ds2, p2, q2, rfl, rfl, rfl, h2, r2⟩ := trodAll_cons r1
  obtain ⟨rfl, rfl, rfl⟩ := trodAll_nil r2
  obtain rfl : args = #[v0, v1, v2] := by cases args; simp_all
  obtain ⟨rfl, rfl⟩ := trodVars_none hV
  have k0 := h0
  have lt0 : ∀ x ∈ p0, x.block < W.heap.size := by obtain ⟨m, hm⟩ := k0; exact DataW.trod_lt m _ _ _ hm
  have k1 := h1
  have lt1 : ∀ x ∈ p1, x.block < W.heap.size := by obtain ⟨m, hm⟩ := k1; exact DataW.trod_lt m _ _ _ hm
  have k2 := h2
  have lt2 : ∀ x ∈ p2, x.block < W.heap.size := by obtain ⟨m, hm⟩ := k2; exact DataW.trod_lt m _ _ _ hm
  obtain ⟨a0, cap0, z0, rfl, hl0, hm0, hh0, hr0, iz0⟩ := open_ints1 Try.underlying22 Try.underlying3 (by kernel_rfl) (hval 0 22 v0 rfl rfl) k0
  obtain ⟨a1, rfl, w1⟩ := open_int1 Try.underlying3 (hval 1 3 v1 rfl rfl)
  obtain ⟨a2, cap2, z2, rfl, hl2, hm2, hh2, hr2, iz2⟩ := open_ints1 Try.underlying22 Try.underlying3 (by kernel_rfl) (hval 2 22 v2 rfl rfl) k2
  clear hA0 hval0
  refine (ringServes_walk a0 cap0 z0 a1 a2 cap2 z2 W ⟨hl0, hm0⟩ hh0 hr0 iz0 w1 ⟨hl2, hm2⟩ hh2 hr2 iz2).mono fun e W' ⟨he, bel⟩ => ?_
  subst he
  exact ⟨_, rfl, _, _, _, [], _, [], hW', trodAll_mk1 (shut_bool Try.underlying4 _), (trodAll_cons_mk (Below.trod laidOut (by kernel_rfl) (of_decide_eq_true (by kernel_rfl)) k0 bel lt0) (trodAll_cons_mk (Below.trod laidOut (by kernel_rfl) (of_decide_eq_true (by kernel_rfl)) k1 bel lt1) (trodAll_cons_mk (Below.trod laidOut (by kernel_rfl) (of_decide_eq_true (by kernel_rfl)) k2 bel lt2) trodAll_mk0))), rfl, bel.frame _, fun h => by cases h⟩

theorem RingServes_over : Rows.ringServesRow.holds Try.pinned (OpenSpec.ofChange Rows.ringServesSpec) :=
  OpenClaim.holds_of_wide 6 Try.f6 rfl rfl rfl rfl rfl rfl rfl ⟨rfl, rfl, rfl, rfl, rfl⟩ rfl rfl rfl rfl rfl (by kernel_rfl) Try.func6 (by kernel_rfl)
    (of_decide_eq_true (by kernel_rfl)) (by unfold Func.isWrapper; first | (rw [if_pos (by decide +kernel)]; kernel_rfl) | (rw [if_neg (by decide +kernel)]; exact ⟨rfl, rfl⟩))
    (fun os started H enc _ => RingServes_lifted os started H enc)

/-- The given statement. -/
theorem RingServes_holds : Rows.RingServesSaid := RingServes_over
#print axioms RingServes_holds
end
end Go.Proofs.Ytbnbakienajhmaa
