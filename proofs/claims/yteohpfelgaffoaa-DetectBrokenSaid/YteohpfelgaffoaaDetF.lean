/- Broken detectors: the plain law. -/
import Derived.Test.YteohpfelgaffoaaDetE
namespace Go.Proofs.Yteohpfelgaffoaa
set_option linter.unusedVariables false

def detZ : Det := ⟨0, 0, 0, 0, 0, 0, 0⟩
/-- All phases with a detector. -/
def allN (de : List Det) : Nat → Int
  | 0 => 0
  | n + 1 => withM (allN de n) (de.getD n ⟨0, 0, 0, 0, 0, 0, 0⟩).ph
theorem here_all {de : List Det} {cs : List Ch} : ∀ {n : Nat}, (∀ d, d < n → callB (de.getD d ⟨0, 0, 0, 0, 0, 0, 0⟩) (cs.getD d ch0) = true) → hereN de cs n = allN de n
  | 0, _ => rfl
  | n + 1, h => by
    unfold hereN allN
    rw [h n (by omega), if_pos rfl, here_all (n := n) (fun d hd => h d (by omega))]
theorem here_none {de : List Det} {cs : List Ch} : ∀ {n : Nat}, (∀ d, d < n → callB (de.getD d ⟨0, 0, 0, 0, 0, 0, 0⟩) (cs.getD d ch0) = false) → hereN de cs n = 0
  | 0, _ => rfl
  | n + 1, h => by
    unfold hereN
    rw [h n (by omega), if_neg (by simp), here_none (n := n) (fun d hd => h d (by omega))]
/-- What no loop says. -/
def badV (h : Int) : Nat := if h = 0 then 9221120237041090561 else if h = 1 then 9218868437227405312 else if h = 2 then 18442240474082181120 else 4701340746312056832
theorem badV_bad (h : Int) (hh : 0 ≤ h ∧ h < 4) : lv_badM (badV h) = true := by
  rcases (show h = 0 ∨ h = 1 ∨ h = 2 ∨ h = 3 by omega) with rfl | rfl | rfl | rfl <;> decide +kernel
theorem step_bad {d : Det} {c : Ch} {x : Nat} (hx : lv_badM x = true) : (stepCh d c x).bad = lv_moreM c.bad := by
  unfold stepCh lv_levM
  simp [hx]
theorem step_tl5 {d : Det} {c : Ch} {x : Nat} (h : 0 ≤ c.tl ∧ c.tl ≤ 5) : 0 ≤ (stepCh d c x).tl ∧ (stepCh d c x).tl ≤ 5 := by
  have he := tkF_bd d.ex
  show 0 ≤ tm_tTail (tkF d.dl) (tkF d.ex) c.hd c.tl c.out _ ∧ tm_tTail (tkF d.dl) (tkF d.ex) c.hd c.tl c.out _ ≤ 5
  unfold tm_tTail tm_cutT
  split
  · omega
  · split
    · rename_i h2; have := h2.2; unfold tm_cutT at this; omega
    · omega
theorem min3_step {i : Nat} {b : Int} (h : (min i 3 : Nat) ≤ b) : ((min (i + 1) 3 : Nat) : Int) ≤ lv_moreM b := by
  unfold lv_moreM; omega
/-- After e samples that say nothing. -/
structure ZeIn (e : Nat) (c : Ch) : Prop where
  on : c.on = false
  bad : c.bad = 0
  out : c.out = true → 0 ≤ c.tl ∧ c.tl + e ≤ 5
theorem lev0 {d : Det} {c : Ch} (h1 : fge 0 d.on = false) (h2 : fle 0 d.off = true) : lv_levM d.on d.off c.on c.bad 0 = (false, 0) := by
  have h0 : lv_badM 0 = false := by decide +kernel
  unfold lv_levM
  simp [h0, h1, h2]
theorem ze_tail {dl ex tl : Int} {out : Bool} {e : Nat} (hd : 0 ≤ dl) (ht : out = true → 0 ≤ tl ∧ tl + e ≤ 5) (ho : tm_tOut dl 0 tl out false = true) (hd' : Int) : 0 ≤ tm_tTail dl ex hd' tl out false ∧ tm_tTail dl ex hd' tl out false + (e + 1 : Nat) ≤ 5 := by
  have hc := tm_cutT_bd dl
  have h0 : ∀ h, tm_tH false h = 0 := fun h => rfl
  have h3 : ¬ (tm_cutT dl < (0 : Int)) := by omega
  unfold tm_tOut at ho
  unfold tm_tTail
  rw [h0] at ho ⊢
  rw [decide_eq_false h3, Bool.false_or, Bool.and_eq_true, decide_eq_true_eq] at ho
  obtain ⟨h1, h2⟩ := ho
  have h4 := ht h1
  rw [if_neg h3, if_pos ⟨h1, h2⟩]
  have : tm_cutT tl = tl := by unfold tm_cutT; omega
  rw [this] at h2 ⊢
  omega
theorem ze_first {d : Det} {c : Ch} (h1 : fge 0 d.on = false) (h2 : fle 0 d.off = true) (h : 0 ≤ c.tl ∧ c.tl ≤ 5) : ZeIn 1 (stepCh d c 0) := by
  have e := lev0 (c := c) h1 h2
  have hs : lv_seenM false 0 = false := by decide
  unfold stepCh
  rw [e]
  simp only [hs]
  exact ⟨rfl, rfl, fun ho => ze_tail (e := 0) (tkF_bd d.dl).1 (fun _ => by omega) ho _⟩
theorem ze_step {d : Det} {c : Ch} {e : Nat} (h1 : fge 0 d.on = false) (h2 : fle 0 d.off = true) (h : ZeIn e c) : ZeIn (e + 1) (stepCh d c 0) := by
  have el := lev0 (c := c) h1 h2
  have hs : lv_seenM false 0 = false := by decide
  unfold stepCh
  rw [el]
  simp only [hs]
  exact ⟨rfl, rfl, fun ho => ze_tail (tkF_bd d.dl).1 h.out ho _⟩
theorem ze_call {d : Det} {c : Ch} {e : Nat} (he : 6 ≤ e) (hm : d.mon = 0 ∧ d.mof = 0) (h : ZeIn e c) : callB d c = false := by
  obtain ⟨_, h4, h5⟩ := h
  have ho : c.out = false := by
    cases hc : c.out
    · rfl
    · have := h5 hc; omega
  unfold callB wt_stuckM
  rw [ho, h4, hm.1, hm.2]
  simp
/-- A table's detectors say nothing at 0. -/
theorem tab_de_lv (zs : List Int) : ∀ d ∈ (tabM zs).de, fge 0 d.on = false ∧ fle 0 d.off = true := by
  intro d hd
  have hd' : d ∈ deM zs (rowsM zs).1 (fr zs 175 9).toNat (fr zs 175 9).toNat := hd
  unfold deM at hd'
  rw [List.mem_map] at hd'
  obtain ⟨j, _, rfl⟩ := hd'
  have h3 := fr_bd zs (180 + 8 * ((fr zs 175 9).toNat - j) + 1) (n := 4) (by omega)
  have h4 := fr_bd zs (180 + 8 * ((fr zs 175 9).toNat - j) + 2) (n := 3) (by omega)
  show fge 0 (onT _) = false ∧ fle 0 (mulT _ _) = true
  generalize fr zs (180 + 8 * ((fr zs 175 9).toNat - j) + 1) 4 = x at *
  generalize fr zs (180 + 8 * ((fr zs 175 9).toNat - j) + 2) 3 = y at *
  rcases (show x = 0 ∨ x = 1 ∨ x = 2 ∨ x = 3 by omega) with rfl | rfl | rfl | rfl <;> rcases (show y = 0 ∨ y = 1 ∨ y = 2 by omega) with rfl | rfl | rfl <;> decide +kernel
end Go.Proofs.Yteohpfelgaffoaa
