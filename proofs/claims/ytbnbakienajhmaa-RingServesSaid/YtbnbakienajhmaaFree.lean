/- A region that draws its order: addresses reckoned anywhere in it, reads and calls that make memory at most, and a forced tail of stores, even where addresses of the tail hang free. The operations are named by three lists of numbers: free addresses, head, tail. -/
import Derived.Test.YtbnbakienajhmaaUp
import Derived.Test.YtbnbakienajhmaaEnv
import Derived.Deep.RegionHeld3
namespace Go.Proofs.Ytbnbakienajhmaa
open Go.RowKit
set_option linter.unusedVariables false

section
variable {P : Program} {ops : Array Oper} {md : Region.Mode} {C : World → Prop}
structure ClosedL (md : Region.Mode) (ops : Array Oper) (listed : Array Bool) : Prop where
  size : listed.size = ops.size
  closed : ∀ j oj, ops[j]? = some oj → listed.getD j false = true → ∀ e ∈ oj.after, Region.binds md e = true → listed.getD e.on false = true
theorem ClosedL.set {i : Nat} {listed : Array Bool} (inv : ClosedL md ops listed) (hi : i ∈ Region.ready md ops listed) : ClosedL md ops (listed.setIfInBounds i true) := by
  obtain ⟨_, oi, hoi, hall⟩ := mem_ready.1 hi
  refine ⟨by simp [inv.size], fun j oj hj hl e he hb => ?_⟩
  by_cases hij : i = j
  · subst hij
    have : oj = oi := Option.some.inj (hj.symm.trans hoi)
    subst this
    exact getD_set_true (hall e he hb)
  · rw [getD_set_ne false hij] at hl
    exact getD_set_true (inv.closed j oj hj hl e he hb)
theorem waitsT_listed' {listed : Array Bool} (inv : ClosedL md ops listed) : ∀ (f j h : Nat), listed.getD j false = true → waitsT md ops f j h = true → listed.getD h false = true
  | 0, _, _, _, hw => by simp [waitsT] at hw
  | f + 1, j, h, hl, hw => by
    unfold waitsT at hw
    split at hw
    · cases hw
    · rename_i oj hoj
      obtain ⟨e, he, hb⟩ := Array.any_eq_true'.1 hw
      simp only [Bool.and_eq_true, Bool.or_eq_true, beq_iff_eq] at hb
      have h1 := inv.closed j oj hoj hl e he hb.1
      rcases hb.2 with rfl | h2
      · exact h1
      · exact waitsT_listed' inv f e.on h h1 h2
theorem waitsT_ready' {listed : Array Bool} (inv : ClosedL md ops listed) {f j h : Nat} (hr : j ∈ Region.ready md ops listed) (hw : waitsT md ops f j h = true) : listed.getD h false = true := by
  cases f with
  | zero => simp [waitsT] at hw
  | succ f =>
    obtain ⟨_, oj, hoj, hall⟩ := mem_ready.1 hr
    unfold waitsT at hw
    rw [hoj] at hw
    obtain ⟨e, he, hb⟩ := Array.any_eq_true'.1 hw
    simp only [Bool.and_eq_true, Bool.or_eq_true, beq_iff_eq] at hb
    have h1 := hall e he hb.1
    rcases hb.2 with rfl | h2
    · exact h1
    · exact waitsT_listed' inv f e.on h h1 h2
/-- Operation j waits for operation h, itself or by others. -/
inductive Reach (md : Region.Mode) (ops : Array Oper) (h : Nat) : Nat → Prop
  | here {j : Nat} {oj : Oper} {e : Edge} (hj : ops[j]? = some oj) (he : e ∈ oj.after) (hb : Region.binds md e = true) (hh : e.on = h) : Reach md ops h j
  | there {j : Nat} {oj : Oper} {e : Edge} (hj : ops[j]? = some oj) (he : e ∈ oj.after) (hb : Region.binds md e = true) (hr : Reach md ops h e.on) : Reach md ops h j
theorem Reach.listed {listed : Array Bool} (inv : ClosedL md ops listed) {h j : Nat} (hr : Reach md ops h j) : listed.getD j false = true → listed.getD h false = true := by
  induction hr with
  | here hj he hb hh => intro hl; have := inv.closed _ _ hj hl _ he hb; rwa [hh] at this
  | there hj he hb _ ih => intro hl; exact ih (inv.closed _ _ hj hl _ he hb)
theorem Reach.ready {listed : Array Bool} (inv : ClosedL md ops listed) {h j : Nat} (hr : Reach md ops h j) (hj : j ∈ Region.ready md ops listed) : listed.getD h false = true := by
  obtain ⟨_, oj, hoj, hall⟩ := mem_ready.1 hj
  cases hr with
  | here hj' he hb hh =>
    rw [hoj] at hj'; obtain rfl := Option.some.inj hj'
    have := hall _ he hb; rwa [hh] at this
  | there hj' he hb hr' =>
    rw [hoj] at hj'; obtain rfl := Option.some.inj hj'
    exact hr'.listed inv (hall _ he hb)
/-- The operations that one waits for, as bits; those that came before, by a list, the last first. -/
def maskE (md : Region.Mode) (acc : List Nat) (k : Nat) : List Edge → Nat
  | [] => 0
  | e :: es => if Region.binds md e && decide (e.on < k) then (2 ^ e.on ||| acc.getD (k - 1 - e.on) 0) ||| maskE md acc k es else maskE md acc k es
def masks (md : Region.Mode) : List Oper → List Nat → Nat → List Nat
  | [], acc, _ => acc
  | o :: l, acc, k => masks md l (maskE md acc k o.after.toList :: acc) (k + 1)
theorem maskE_spec {l : List Oper} {acc : List Nat} {k : Nat} {o : Oper} (hk : acc.length = k) (ho : l[k]? = some o) (hacc : ∀ i, i < k → ∀ h, (acc.getD (k - 1 - i) 0).testBit h = true → Reach md l.toArray h i) :
    ∀ (es : List Edge), (∀ e ∈ es, e ∈ o.after) → ∀ h, (maskE md acc k es).testBit h = true → Reach md l.toArray h k
  | [], _, h, ht => by simp [maskE] at ht
  | e :: es, hes, h, ht => by
    unfold maskE at ht
    have hrest := maskE_spec hk ho hacc es (fun e he => hes e (by simp [he])) h
    split at ht
    · rename_i hc
      simp only [Bool.and_eq_true, decide_eq_true_eq] at hc
      rw [Nat.testBit_or, Nat.testBit_or, Bool.or_eq_true, Bool.or_eq_true] at ht
      rcases ht with (ht | ht) | ht
      · have : e.on = h := by
          rw [Nat.testBit_two_pow] at ht; simpa using ht
        exact .here (by simpa using ho) (hes e (by simp)) hc.1 this
      · exact .there (by simpa using ho) (hes e (by simp)) hc.1 (hacc _ hc.2 h ht)
      · exact hrest ht
    · exact hrest ht
theorem masks_spec {l : List Oper} : ∀ (r : List Oper) (acc : List Nat) (k : Nat), l.drop k = r → k ≤ l.length → acc.length = k → (∀ i, i < k → ∀ h, (acc.getD (k - 1 - i) 0).testBit h = true → Reach md l.toArray h i) →
    ∀ i, i < l.length → ∀ h, ((masks md r acc k).getD (l.length - 1 - i) 0).testBit h = true → Reach md l.toArray h i
  | [], acc, k, hr, hkl, hk, hacc, i, hi, h, ht => by
    have : l.length ≤ k := by
      have := congrArg List.length hr; simp at this; omega
    unfold masks at ht
    have : k = l.length := by omega
    subst this
    exact hacc i hi h ht
  | o :: r, acc, k, hr, hkl, hk, hacc, i, hi, h, ht => by
    have ho : l[k]? = some o := by
      have := congrArg (fun x => x[0]?) hr
      simpa [List.getElem?_drop] using this
    have hlt := (List.getElem?_eq_some_iff.1 ho).1
    unfold masks at ht
    refine masks_spec r _ (k + 1) ?_ (by omega) (by simp [hk]) (fun j hj h ht => ?_) i hi h ht
    · rw [← List.drop_drop, hr]; rfl
    · by_cases hjk : j = k
      · subst hjk
        have : j + 1 - 1 - j = 0 := by omega
        rw [this] at ht
        exact maskE_spec hk ho hacc _ (fun e he => Array.mem_toList_iff.1 he) h (by simpa using ht)
      · have e : k + 1 - 1 - j = (k - 1 - j) + 1 := by omega
        rw [e] at ht
        exact hacc j (by omega) h (by simpa using ht)
def waitB (md : Region.Mode) (l : List Oper) (ts hs : List Nat) : Bool :=
  let ms := masks md l [] 0
  let need := hs.foldr (fun h m => 2 ^ h ||| m) 0
  ts.all fun t => decide (t < l.length) && ((ms.getD (l.length - 1 - t) 0) &&& need == need)
theorem foldr_bit : ∀ (hs : List Nat) (h : Nat), h ∈ hs → (hs.foldr (fun h m => 2 ^ h ||| m) 0).testBit h = true
  | [], h, hm => by simp at hm
  | x :: hs, h, hm => by
    rw [List.foldr_cons, Nat.testBit_or]
    rcases List.mem_cons.1 hm with rfl | hm
    · simp
    · rw [foldr_bit hs h hm]; simp
theorem waitB_spec {l : List Oper} {ts hs : List Nat} (hw : waitB md l ts hs = true) {t h : Nat} (ht : t ∈ ts) (hh : h ∈ hs) : Reach md l.toArray h t := by
  have h1 := List.all_eq_true.1 hw t ht
  simp only [Bool.and_eq_true, decide_eq_true_eq, beq_iff_eq] at h1
  refine masks_spec (md := md) (l := l) l [] 0 (by simp) (Nat.zero_le _) rfl (fun i hi => by omega) t h1.1 h ?_
  have := congrArg (fun m => m.testBit h) h1.2
  simp only [Nat.testBit_and, foldr_bit hs h hh, Bool.and_true] at this
  exact this
/-- What has not come up yet is of the head or of the tail. -/
def Cover (ops : Array Oper) (hs ts : List Nat) (listed : Array Bool) : Prop := ∀ j oj, ops[j]? = some oj → listed.getD j true = false → j ∈ hs ∨ j ∈ ts
theorem Cover.set {hs ts : List Nat} {listed : Array Bool} (h : Cover ops hs ts listed) (i : Nat) : Cover ops hs ts (listed.setIfInBounds i true) := fun j oj hj hl => by
  refine h j oj hj ?_
  by_cases hji : i = j
  · subst hji
    rcases Nat.lt_or_ge i listed.size with hlt | hge
    · simp [hlt] at hl
    · simp at hl
  · rwa [getD_set_ne true hji] at hl
theorem head_ready {hs ts : List Nat} {listed : Array Bool} (hw : ∀ (t : Nat), t ∈ ts → ∀ (h : Nat), h ∈ hs → Reach md ops h t) (inv : ClosedL md ops listed) (hc : Cover ops hs ts listed)
    {i j : Nat} (hi : i ∈ hs) (hun : listed.getD i true = false) (hj : j ∈ Region.ready md ops listed) : j ∈ hs := by
  obtain ⟨hjun, oj, hoj, _⟩ := mem_ready.1 hj
  rcases hc j oj hoj hjun with h | h
  · exact h
  · have h2 := (hw j h i hi).ready inv hj
    rw [getD_both hun] at h2
    cases h2
def anyLH (P : Program) (md : Region.Mode) (ops : Array Oper) (C : World → Prop) (hs : List Nat) (L : Array Bool → Act → Prop) : Nat → Array Bool → Act → Prop
  | 0, listed, a => L listed a
  | f + 1, listed, a =>
    Region.ready md ops listed ≠ [] ∧ ∀ i ∈ Region.ready md ops listed, i ∈ hs ∧ qOp P ops C i (anyLH P md ops C hs L f (listed.setIfInBounds i true)) a
theorem wpAny_of_headH {hs : List Nat} {g : Nat} {L : Array Bool → Act → Prop} {Q' : Exit → Act → World → Prop} (hL : ∀ listed a w, C w → L listed a → wpAny P md ops Q' g listed a w) :
    ∀ (f : Nat) (listed : Array Bool) (a : Act) (w : World), C w → anyLH P md ops C hs L f listed a → wpAny P md ops Q' (f + g) listed a w
  | 0, listed, a, w, hw, h => by rw [Nat.zero_add]; exact hL _ _ _ hw h
  | f + 1, listed, a, w, hw, h => by
    rw [show f + 1 + g = (f + g) + 1 by omega]
    exact ⟨fun h0 => absurd h0 h.1, fun i hi => wpOp_of_qOp hw (fun a' w' hw' h' => wpAny_of_headH hL f _ a' w' hw' h') (h.2 i hi).2⟩
theorem anyLH_first {hs ts : List Nat} {i : Nat} {oi : Oper} {v : Value} {L : Array Bool → Act → Prop} (hi : ops[i]? = some oi) (hsel : ∀ (j : Nat) (o : Oper) cs b, ops[j]? = some o → o.op ≠ .select cs b)
    (hw : ∀ (t : Nat), t ∈ ts → ∀ (h : Nat), h ∈ hs → Reach md ops h t) (hin : i ∈ hs)
    (hdone : ∀ listed a, L listed a → ∀ j ∈ Region.ready md ops listed, j ∉ hs) :
    ∀ (f : Nat) (listed : Array Bool) (a : Act), ClosedL md ops listed → Cover ops hs ts listed →
      (∀ j oj, ops[j]? = some oj → j ≠ i → listed.getD j true = false → (∀ e ∈ oj.after, Region.binds md e = true → e.on ≠ i) → oi.apart ops oj = true) →
      i ∈ Region.ready md ops listed → YieldsIn P ops C oi v a →
      anyLH P md ops C hs L f (listed.setIfInBounds i true) (a.put oi.dst v) → anyLH P md ops C hs L (f + 1) listed a := by
  intro f
  induction f with
  | zero =>
    intro listed a inv hcv _ hr hy H
    have hun := (mem_ready.1 hr).1
    refine ⟨fun h => (by rw [h] at hr; cases hr), fun j hj => ?_⟩
    have hjn := head_ready hw inv hcv hin hun hj
    refine ⟨hjn, ?_⟩
    by_cases hji : j = i
    · subst hji; exact hy.qOp hi H
    · exact absurd hjn (hdone _ _ H j (ready_mono hj hji))
  | succ f ih =>
    intro listed a inv hcv hfree hr hy H
    have hun := (mem_ready.1 hr).1
    refine ⟨fun h => (by rw [h] at hr; cases hr), fun j hj => ?_⟩
    have hjn := head_ready hw inv hcv hin hun hj
    refine ⟨hjn, ?_⟩
    by_cases hji : j = i
    · subst hji; exact hy.qOp hi H
    · have h1 := (H.2 j (ready_mono hj hji)).2
      obtain ⟨hjun, oj, hoj, hall⟩ := mem_ready.1 hj
      have hnot : ∀ e ∈ oj.after, Region.binds md e = true → e.on ≠ i := fun e he hb heq => by
        have h1 := hall e he hb
        rw [heq, getD_both hun] at h1
        cases h1
      have h2 := qOp_put hoj (hfree j oj hoj hji hjun hnot) (fun cs b => hsel i oi cs b hi) (fun cs b => hsel j oj cs b hoj) hy h1
      have hfree' : ∀ k ok, ops[k]? = some ok → k ≠ i → (listed.setIfInBounds j true).getD k true = false →
          (∀ e ∈ ok.after, Region.binds md e = true → e.on ≠ i) → oi.apart ops ok = true := fun k ok hk hki hun hno => by
        refine hfree k ok hk hki ?_ hno
        by_cases hjk : j = k
        · subst hjk; exact hjun
        · rw [getD_set_ne true hjk] at hun; exact hun
      refine qOp_mono (fun a' h3 => ih (listed.setIfInBounds j true) a' (inv.set hj) (hcv.set j) hfree' (ready_mono hr (Ne.symm hji)) h3.1 ?_) h2
      rw [Array.setIfInBounds_comm _ _ hji]
      exact h3.2
def seqL (md : Region.Mode) (ops : Array Oper) : List Nat → Array Bool → Bool
  | [], listed => (Region.ready md ops listed).isEmpty
  | t :: ts, listed => decide (Region.ready md ops listed = [t]) && seqL md ops ts (listed.setIfInBounds t true)
theorem wpAny_of_seqL {Q' : Exit → Act → World → Prop} : ∀ (l : List Oper) (ts : List Nat) (listed : Array Bool) (a : Act) (w : World), l.length = ts.length → (∀ (j : Nat) (hj : j < ts.length), l[j]? = ops[ts[j]]?) →
    seqL md ops ts listed = true → wpList P ops Q' l a w → wpAny P md ops Q' l.length listed a w
  | [], [], _, _, _, _, _, hB, h => ⟨by simpa [seqL] using hB, h⟩
  | [], _ :: _, _, _, _, hl, _, _, _ => by simp at hl
  | _ :: _, [], _, _, _, hl, _, _, _ => by simp at hl
  | o :: l, t :: ts, listed, a, w, hlen, hl, hB, h => by
    have h0 : ops[t]? = some o := (hl 0 (by simp)).symm
    simp only [seqL, Bool.and_eq_true, decide_eq_true_eq] at hB
    refine ⟨fun h1 => (by rw [hB.1] at h1; cases h1), fun i hi => ?_⟩
    rw [hB.1] at hi
    have hik : i = t := by simpa using hi
    subst hik
    have hw : wpOp P ops Q' i (wpList P ops Q' l) a w := by unfold wpOp; simp only [h0]; exact h
    exact wpOp_mono (fun a' w' h' => wpAny_of_seqL l ts _ a' w' (by simpa using hlen) (fun j hj => by have := hl (j + 1) (by simpa using hj); simpa using this) hB.2 h') hw
def lexL (md : Region.Mode) (ops : Array Oper) (k : Array Bool → Bool) : List Nat → Array Bool → Bool
  | [], listed => k listed
  | i :: is, listed => (Region.ready md ops listed).contains i && Region.free md ops listed i && lexL md ops k is (listed.setIfInBounds i true)
theorem seqL_ready {ts : List Nat} {listed : Array Bool} (h : seqL md ops ts listed = true) : ∀ j ∈ Region.ready md ops listed, j ∈ ts := by
  cases ts with
  | nil => intro j hj; simp only [seqL, List.isEmpty_iff] at h; rw [h] at hj; cases hj
  | cons t ts =>
    intro j hj
    simp only [seqL, Bool.and_eq_true, decide_eq_true_eq] at h
    rw [h.1] at hj
    have : j = t := by simpa using hj
    simp [this]
theorem anyLH_lex {hs ts : List Nat} {Lq : Act → Prop} (hsel : Region.noSelect ops = true) (hw : ∀ (t : Nat), t ∈ ts → ∀ (h : Nat), h ∈ hs → Reach md ops h t) (hd : (ts.all fun t => !hs.contains t) = true) :
    ∀ (l : List Oper) (is : List Nat) (listed : Array Bool) (a : Act), l.length = is.length → (∀ (j : Nat) (hj : j < is.length), l[j]? = ops[is[j]]?) → (∀ i ∈ is, i ∈ hs) → ClosedL md ops listed → Cover ops hs ts listed →
    lexL md ops (seqL md ops ts) is listed = true → wpQuiet P ops C Lq l a →
    anyLH P md ops C hs (fun listed' a' => seqL md ops ts listed' = true ∧ Lq a') l.length listed a
  | [], [], listed, a, _, _, _, _, _, hB, h => ⟨by simpa [lexL] using hB, h⟩
  | [], _ :: _, _, _, hl, _, _, _, _, _, _ => by simp at hl
  | _ :: _, [], _, _, hl, _, _, _, _, _, _ => by simp at hl
  | o :: l, i :: is, listed, a, hlen, hl, hin, inv, hcv, hB, h => by
    have h0 : ops[i]? = some o := (hl 0 (by simp)).symm
    simp only [lexL, Bool.and_eq_true] at hB
    obtain ⟨⟨hr, hf⟩, hB'⟩ := hB
    have hr' : i ∈ Region.ready md ops listed := by simpa using hr
    have hst : qOp P ops C i (wpQuiet P ops C Lq l) a := by unfold qOp; simp only [h0]; exact h
    obtain ⟨v, hy, hK⟩ := yieldsIn_of_qOp h0 hst
    exact anyLH_first h0 (Region.noSelect_spec hsel) hw (hin i (by simp)) (fun listed' a' hL j hj hjs => by
        have h1 := seqL_ready hL.1 j hj
        have h2 := List.all_eq_true.1 hd j h1
        rw [List.contains_iff_mem.2 hjs] at h2
        cases h2) l.length listed a inv hcv (Region.free_spec h0 hf) hr' hy
      (anyLH_lex hsel hw hd l is _ _ (by simpa using hlen) (fun j hj => by have := hl (j + 1) (by simpa using hj); simpa using this) (fun i hi => hin i (by simp [hi])) (inv.set hr') (hcv.set i) hB' hK)
/-- The free addresses, ahead of all. -/
def wpAddr (P : Program) (ops : Array Oper) (K : Act → Prop) : List Oper → Act → Prop
  | [], a => K a
  | o :: l, a => ∃ v, Yields P ops o v a ∧ wpAddr P ops K l (a.put o.dst v)
theorem wpAny_of_addrC {W : World} {Q' : Exit → Act → World → Prop} (hQ : ∀ d v c a w, Q' (.panic c) (Act.put a d v) w → Q' (.panic c) a w) (hsel : Region.noSelect ops = true) {K : Act → Prop} {kB : Array Bool → Bool} {g : Nat}
    (hK : ∀ listed a, ClosedL md ops listed → kB listed = true → K a → wpAny P md ops Q' g listed a W) :
    ∀ (l : List Oper) (is : List Nat) (listed : Array Bool) (a : Act), l.length = is.length → (∀ (j : Nat) (hj : j < is.length), l[j]? = ops[is[j]]?) → ClosedL md ops listed →
    lexL md ops kB is listed = true → wpAddr P ops K l a → wpAny P md ops Q' (l.length + g) listed a W
  | [], [], listed, a, _, _, inv, hB, h => by simp only [List.length_nil, Nat.zero_add]; exact hK _ _ inv (by simpa [lexL] using hB) h
  | [], _ :: _, _, _, hl, _, _, _, _ => by simp at hl
  | _ :: _, [], _, _, hl, _, _, _, _ => by simp at hl
  | o :: l, i :: is, listed, a, hlen, hl, inv, hB, h => by
    have h0 : ops[i]? = some o := (hl 0 (by simp)).symm
    simp only [lexL, Bool.and_eq_true] at hB
    obtain ⟨⟨hr, hf⟩, hB'⟩ := hB
    have hr' : i ∈ Region.ready md ops listed := by simpa using hr
    obtain ⟨v, hy, hk⟩ := h
    have := wpAny_first (Q := Q') h0 (Region.noSelect_spec hsel) (fun c a w h => hQ _ _ c a w h) (l.length + g) listed a W (Region.free_spec h0 hf) hr' hy
      (wpAny_of_addrC hQ hsel hK l is _ _ (by simpa using hlen) (fun j hj => by have := hl (j + 1) (by simpa using hj); simpa using this) (inv.set hr') hB' hk)
    rw [show (o :: l).length + g = l.length + g + 1 by simp; omega]
    exact this
def pickO (ops : List Oper) (is : List Nat) : List Oper := is.filterMap fun i => ops[i]?
def lexFreeB (md : Region.Mode) (l : List Oper) (F hs ts : List Nat) : Bool :=
  let ops := l.toArray
  Region.noSelect ops && (List.range ops.size).all (fun j => F.contains j || hs.contains j || ts.contains j) && (ts.all fun t => !hs.contains t) && waitB md l ts hs
    && decide (F.length + (hs.length + ts.length) = ops.size) && (F.all fun i => decide (i < ops.size)) && (hs.all fun i => decide (i < ops.size)) && (ts.all fun i => decide (i < ops.size))
    && lexL md ops (fun listed => F.all (fun i => listed.getD i false) && lexL md ops (seqL md ops ts) hs listed) F (Array.replicate ops.size false)
theorem pickO_spec {l : List Oper} : ∀ {is : List Nat}, (is.all fun i => decide (i < l.length)) = true → (pickO l is).length = is.length ∧ ∀ (j : Nat) (hj : j < is.length), (pickO l is)[j]? = l[is[j]]?
  | [], _ => ⟨rfl, fun j hj => by simp at hj⟩
  | i :: is, h => by
    simp only [List.all_cons, Bool.and_eq_true, decide_eq_true_eq] at h
    obtain ⟨h1, h2⟩ := pickO_spec h.2
    have e : pickO l (i :: is) = l[i] :: pickO l is := by unfold pickO; rw [List.filterMap_cons, List.getElem?_eq_getElem h.1]
    rw [e]
    refine ⟨by simp [h1], fun j hj => ?_⟩
    cases j with
    | zero => simp
    | succ j => simpa using h2 j (by simpa using hj)
theorem wp_region_free {id : Nat} {Q : Exit → Act → World → Prop} {a : Act} {w : World} {l : List Oper} (F hs ts : List Nat) (hm : P.follows .mixedOrders = true) (hB : lexFreeB .any l F hs ts = true)
    (hQ : ∀ d v c a w, Q (.panic c) (Act.put a d v) w → Q (.panic c) a w) (hC : C { w with drawn := w.drawn + 1 })
    (h : wpAddr P l.toArray (wpQuiet P l.toArray C (fun a' => ∀ w', C w' → wpList P l.toArray Q (pickO l ts) a' w') (pickO l hs)) (pickO l F) a) : (Code.region id l.toArray true).wp P Q a w := by
  simp only [lexFreeB, Bool.and_eq_true, decide_eq_true_eq] at hB
  obtain ⟨⟨⟨⟨⟨⟨⟨⟨hsel, hcov⟩, hd⟩, hw⟩, hlen⟩, hF⟩, hH⟩, hT⟩, hlex⟩ := hB
  have eF := pickO_spec (l := l) (is := F) (by simpa using hF)
  have eH := pickO_spec (l := l) (is := hs) (by simpa using hH)
  have eT := pickO_spec (l := l) (is := ts) (by simpa using hT)
  refine wp_region_any hm ?_
  have inv0 : ClosedL .any l.toArray (Array.replicate l.toArray.size false) := ⟨by simp, fun j oj _ hl => (by rw [getD_replicate_false] at hl; cases hl)⟩
  have key : ∀ (listed : Array Bool) (a : Act) (w' : World), C w' → ClosedL .any l.toArray listed → (F.all (fun i => listed.getD i false) && lexL .any l.toArray (seqL .any l.toArray ts) hs listed) = true →
      wpQuiet P l.toArray C (fun a' => ∀ w', C w' → wpList P l.toArray Q (pickO l ts) a' w') (pickO l hs) a → wpAny P .any l.toArray Q (hs.length + ts.length) listed a w' := by
    intro listed a w' hw' inv hb hq
    simp only [Bool.and_eq_true] at hb
    have hcv : Cover l.toArray hs ts listed := fun j oj hj hun => by
      have hlt := (Array.getElem?_eq_some_iff.1 hj).1
      have h1 := List.all_eq_true.1 hcov j (List.mem_range.2 hlt)
      simp only [Bool.or_eq_true, List.contains_iff_mem] at h1
      rcases h1 with (h1 | h1) | h1
      · have h2 := List.all_eq_true.1 hb.1 j h1
        rw [getD_both hun] at h2; cases h2
      · exact .inl h1
      · exact .inr h1
    have := anyLH_lex (md := .any) hsel (fun t ht h hh => waitB_spec hw ht hh) hd (pickO l hs) hs listed a eH.1 (fun j hj => by simpa using eH.2 j hj) (fun i hi => hi) inv hcv hb.2 hq
    have := wpAny_of_headH (Q' := Q) (g := ts.length) (fun listed' a' w' hw' hL => by
      have := wpAny_of_seqL (md := .any) (Q' := Q) (pickO l ts) ts listed' a' w' eT.1 (fun j hj => by simpa using eT.2 j hj) hL.1 (hL.2 w' hw')
      rwa [eT.1] at this) _ _ _ w' hw' this
    rwa [eH.1] at this
  have := wpAny_of_addrC (md := .any) (Q' := Q) (W := { w with drawn := w.drawn + 1 }) hQ hsel (fun listed a inv hb hq => key listed a _ hC inv hb hq) (pickO l F) F _ a eF.1 (fun j hj => by simpa using eF.2 j hj) inv0 hlex h
  rwa [eF.1, show F.length + (hs.length + ts.length) = l.toArray.size from hlen] at this
theorem wp_region_up_free {id : Nat} {Q : Exit → Act → World → Prop} {a : Act} {w : World} {l : List Oper} (F hs ts : List Nat) (hm : P.follows .mixedOrders = true) (hB : lexFreeB .any l F hs ts = true)
    (hQ : ∀ d v c a w, Q (.panic c) (Act.put a d v) w → Q (.panic c) a w)
    (h : wpAddr P l.toArray (wpQuiet P l.toArray (fun w' => ∃ u : Up w, w' = u.w) (fun a' => ∀ w', (∃ u : Up w, w' = u.w) → wpList P l.toArray Q (pickO l ts) a' w') (pickO l hs)) (pickO l F) a) : (Code.region id l.toArray true).wp P Q a w :=
  wp_region_free (C := fun w' => ∃ u : Up w, w' = u.w) F hs ts hm hB hQ ⟨⟨_, (Below.refl _ w).drew⟩, rfl⟩ h

/-! ### With a condition S that every operation keeps: reads that hang free of the tail are taken first too. -/
theorem wpAnyH_of_headH {S : World → Prop} (hCS : ∀ w, C w → S w) {hs : List Nat} {g : Nat} {L : Array Bool → Act → Prop} {Q' : Exit → Act → World → Prop} (hL : ∀ listed a w, C w → L listed a → wpAnyH P md ops Q' S g listed a w) :
    ∀ (f : Nat) (listed : Array Bool) (a : Act) (w : World), C w → anyLH P md ops C hs L f listed a → wpAnyH P md ops Q' S (f + g) listed a w
  | 0, listed, a, w, hw, h => by rw [Nat.zero_add]; exact hL _ _ _ hw h
  | f + 1, listed, a, w, hw, h => by
    rw [show f + 1 + g = (f + g) + 1 by omega]
    exact ⟨fun h0 => absurd h0 h.1, fun i hi => wpOp_of_qOp hw (fun a' w' hw' h' => ⟨hCS _ hw', wpAnyH_of_headH hCS hL f _ a' w' hw' h'⟩) (h.2 i hi).2⟩
/-- The tail, and S behind each of its operations. -/
def wpListH (P : Program) (ops : Array Oper) (Q : Exit → Act → World → Prop) (S : World → Prop) : List Oper → Act → World → Prop
  | [], a, w => Q .normal a w
  | o :: l, a, w => Region.wanted o (yielded ops a.tmps) = true ∧ Oper.wp P o a w (fun a' w' => S w' ∧ wpListH P ops Q S l a' w') Q
theorem wpListH_step {Q : Exit → Act → World → Prop} {S : World → Prop} {o : Oper} {l : List Oper} {a : Act} {w : World} (hw : Region.wanted o (yielded ops a.tmps) = true)
    (h : ∀ K : Act → World → Prop, Shut (∀ a w, S w → wpListH P ops Q S l a w → K a w) → Oper.wp P o a w K Q) : wpListH P ops Q S (o :: l) a w :=
  ⟨hw, h _ fun _ _ h1 h2 => ⟨h1, h2⟩⟩
theorem wpAnyH_of_seqL {S : World → Prop} {Q' : Exit → Act → World → Prop} : ∀ (l : List Oper) (ts : List Nat) (listed : Array Bool) (a : Act) (w : World), l.length = ts.length → (∀ (j : Nat) (hj : j < ts.length), l[j]? = ops[ts[j]]?) →
    seqL md ops ts listed = true → wpListH P ops Q' S l a w → wpAnyH P md ops Q' S l.length listed a w
  | [], [], _, _, _, _, _, hB, h => ⟨by simpa [seqL] using hB, h⟩
  | [], _ :: _, _, _, _, hl, _, _, _ => by simp at hl
  | _ :: _, [], _, _, _, hl, _, _, _ => by simp at hl
  | o :: l, t :: ts, listed, a, w, hlen, hl, hB, h => by
    have h0 : ops[t]? = some o := (hl 0 (by simp)).symm
    simp only [seqL, Bool.and_eq_true, decide_eq_true_eq] at hB
    refine ⟨fun h1 => (by rw [hB.1] at h1; cases h1), fun i hi => ?_⟩
    rw [hB.1] at hi
    have hik : i = t := by simpa using hi
    subst hik
    have hw : wpOp P ops Q' i (fun a' w' => S w' ∧ wpListH P ops Q' S l a' w') a w := by unfold wpOp; simp only [h0, h.1, if_true]; exact .inl h.2
    exact wpOp_mono (fun a' w' h' => ⟨h'.1, wpAnyH_of_seqL l ts _ a' w' (by simpa using hlen) (fun j hj => by have := hl (j + 1) (by simpa using hj); simpa using this) hB.2 h'.2⟩) hw
def wpReads (P : Program) (ops : Array Oper) (S : World → Prop) (K : Act → Prop) : List Oper → Act → Prop
  | [], a => K a
  | o :: l, a => ∃ v, YieldsIf P ops S o v a ∧ wpReads P ops S K l (a.put o.dst v)
theorem wpReads_nil {S : World → Prop} {K : Act → Prop} {a : Act} (h : K a) : wpReads P ops S K [] a := h
theorem wpAddr_nil {K : Act → Prop} {a : Act} (h : K a) : wpAddr P ops K [] a := h
theorem yieldsIf_load_at {S : World → Prop} {op : Oper} {a : Act} {x : Operand} {ty : TypeId} {b o : Nat} {v : Value} (hw : Region.wanted op (yielded ops a.tmps) = true) (ho : op.op = .load ty x) (hx : a.eval x = .pointer (some ⟨b, o, none⟩))
    (hrun : ∀ w, S w → Sem.run P (Instr.loadAt ty (.pointer (some ⟨b, o, none⟩))) w = .ok v w) : YieldsIf P ops S op v a :=
  .inl ⟨hw, fun w hS => by
    have hrun := hrun w hS
    unfold execOp
    simp only [ho, hx]
    generalize Instr.loadAt ty (.pointer (some ⟨b, o, none⟩)) = L at hrun ⊢
    simp [go_sem, hrun]⟩
theorem wpAnyH_of_reads {S : World → Prop} {W : World} (hSW : S W) {Q' : Exit → Act → World → Prop} (hQ : ∀ d v c a w, Q' (.panic c) (Act.put a d v) w → Q' (.panic c) a w) (hsel : Region.noSelect ops = true) {K : Act → Prop} {kB : Array Bool → Bool} {g : Nat}
    (hK : ∀ listed a, ClosedL md ops listed → kB listed = true → K a → wpAnyH P md ops Q' S g listed a W) :
    ∀ (l : List Oper) (is : List Nat) (listed : Array Bool) (a : Act), l.length = is.length → (∀ (j : Nat) (hj : j < is.length), l[j]? = ops[is[j]]?) → ClosedL md ops listed →
    lexL md ops kB is listed = true → wpReads P ops S K l a → wpAnyH P md ops Q' S (l.length + g) listed a W
  | [], [], listed, a, _, _, inv, hB, h => by simp only [List.length_nil, Nat.zero_add]; exact hK _ _ inv (by simpa [lexL] using hB) h
  | [], _ :: _, _, _, hl, _, _, _, _ => by simp at hl
  | _ :: _, [], _, _, hl, _, _, _, _ => by simp at hl
  | o :: l, i :: is, listed, a, hlen, hl, inv, hB, h => by
    have h0 : ops[i]? = some o := (hl 0 (by simp)).symm
    simp only [lexL, Bool.and_eq_true] at hB
    obtain ⟨⟨hr, hf⟩, hB'⟩ := hB
    have hr' : i ∈ Region.ready md ops listed := by simpa using hr
    obtain ⟨v, hy, hk⟩ := h
    have := wpAnyH_first (Q := Q') h0 (Region.noSelect_spec hsel) (fun c a w h => hQ _ _ c a w h) (l.length + g) listed a W (Region.free_spec h0 hf) hr' hy hSW
      (wpAnyH_of_reads hSW hQ hsel hK l is _ _ (by simpa using hlen) (fun j hj => by have := hl (j + 1) (by simpa using hj); simpa using this) (inv.set hr') hB' hk)
    rw [show (o :: l).length + g = l.length + g + 1 by simp; omega]
    exact this
theorem wp_region_up_held {id : Nat} {Q : Exit → Act → World → Prop} {a : Act} {w : World} {l : List Oper} (S : World → Prop) (F hs ts : List Nat) (hm : P.follows .mixedOrders = true) (hB : lexFreeB .any l F hs ts = true)
    (hQ : ∀ d v c a w, Q (.panic c) (Act.put a d v) w → Q (.panic c) a w) (hS : ∀ u : Up w, S u.w)
    (h : wpReads P l.toArray S (wpQuiet P l.toArray (fun w' => ∃ u : Up w, w' = u.w) (fun a' => ∀ u : Up w, wpListH P l.toArray Q S (pickO l ts) a' u.w) (pickO l hs)) (pickO l F) a) : (Code.region id l.toArray true).wp P Q a w := by
  simp only [lexFreeB, Bool.and_eq_true, decide_eq_true_eq] at hB
  obtain ⟨⟨⟨⟨⟨⟨⟨⟨hsel, hcov⟩, hd⟩, hw⟩, hlen⟩, hF⟩, hH⟩, hT⟩, hlex⟩ := hB
  have eF := pickO_spec (l := l) (is := F) (by simpa using hF)
  have eH := pickO_spec (l := l) (is := hs) (by simpa using hH)
  have eT := pickO_spec (l := l) (is := ts) (by simpa using hT)
  have hC0 : ∃ u : Up w, { w with drawn := w.drawn + 1 } = u.w := ⟨⟨_, (Below.refl _ w).drew⟩, rfl⟩
  refine wp_region_any hm (wpAny_of_held (S := S) _ _ _ _ ?_)
  have inv0 : ClosedL .any l.toArray (Array.replicate l.toArray.size false) := ⟨by simp, fun j oj _ hl => (by rw [getD_replicate_false] at hl; cases hl)⟩
  have key : ∀ (listed : Array Bool) (a : Act) (w' : World), (∃ u : Up w, w' = u.w) → ClosedL .any l.toArray listed → (F.all (fun i => listed.getD i false) && lexL .any l.toArray (seqL .any l.toArray ts) hs listed) = true →
      wpQuiet P l.toArray (fun w' => ∃ u : Up w, w' = u.w) (fun a' => ∀ u : Up w, wpListH P l.toArray Q S (pickO l ts) a' u.w) (pickO l hs) a → wpAnyH P .any l.toArray Q S (hs.length + ts.length) listed a w' := by
    intro listed a w' hw' inv hb hq
    simp only [Bool.and_eq_true] at hb
    have hcv : Cover l.toArray hs ts listed := fun j oj hj hun => by
      have hlt := (Array.getElem?_eq_some_iff.1 hj).1
      have h1 := List.all_eq_true.1 hcov j (List.mem_range.2 hlt)
      simp only [Bool.or_eq_true, List.contains_iff_mem] at h1
      rcases h1 with (h1 | h1) | h1
      · have h2 := List.all_eq_true.1 hb.1 j h1
        rw [getD_both hun] at h2; cases h2
      · exact .inl h1
      · exact .inr h1
    have := anyLH_lex (md := .any) hsel (fun t ht h hh => waitB_spec hw ht hh) hd (pickO l hs) hs listed a eH.1 (fun j hj => by simpa using eH.2 j hj) (fun i hi => hi) inv hcv hb.2 hq
    have := wpAnyH_of_headH (Q' := Q) (S := S) (g := ts.length) (by rintro _ ⟨u, rfl⟩; exact hS u) (fun listed' a' w' hw' hL => by
      obtain ⟨u, rfl⟩ := hw'
      have := wpAnyH_of_seqL (md := .any) (Q' := Q) (pickO l ts) ts listed' a' u.w eT.1 (fun j hj => by simpa using eT.2 j hj) hL.1 (hL.2 u)
      rwa [eT.1] at this) _ _ _ w' hw' this
    rwa [eH.1] at this
  have := wpAnyH_of_reads (md := .any) (Q' := Q) (S := S) (W := { w with drawn := w.drawn + 1 }) (by obtain ⟨u, hu⟩ := hC0; rw [hu]; exact hS u) hQ hsel (fun listed a inv hb hq => key listed a _ hC0 inv hb hq) (pickO l F) F _ a eF.1 (fun j hj => by simpa using eF.2 j hj) inv0 hlex h
  rwa [eF.1, show F.length + (hs.length + ts.length) = l.toArray.size from hlen] at this

/-! ### The same, with reads behind the calls that hang free of the tail. -/
theorem anyLH_lexK {hs ts : List Nat} {Lq : Act → Prop} {kB : Array Bool → Bool} (hkB : ∀ listed, kB listed = true → ∀ i, i ∈ hs → listed.getD i false = true) (hsel : Region.noSelect ops = true) (hw : ∀ (t : Nat), t ∈ ts → ∀ (h : Nat), h ∈ hs → Reach md ops h t) :
    ∀ (l : List Oper) (is : List Nat) (listed : Array Bool) (a : Act), l.length = is.length → (∀ (j : Nat) (hj : j < is.length), l[j]? = ops[is[j]]?) → (∀ i ∈ is, i ∈ hs) → ClosedL md ops listed → Cover ops hs ts listed →
    lexL md ops kB is listed = true → wpQuiet P ops C Lq l a →
    anyLH P md ops C hs (fun listed' a' => (kB listed' = true ∧ ClosedL md ops listed') ∧ Lq a') l.length listed a
  | [], [], listed, a, _, _, _, inv, _, hB, h => ⟨⟨by simpa [lexL] using hB, inv⟩, h⟩
  | [], _ :: _, _, _, hl, _, _, _, _, _, _ => by simp at hl
  | _ :: _, [], _, _, hl, _, _, _, _, _, _ => by simp at hl
  | o :: l, i :: is, listed, a, hlen, hl, hin, inv, hcv, hB, h => by
    have h0 : ops[i]? = some o := (hl 0 (by simp)).symm
    simp only [lexL, Bool.and_eq_true] at hB
    obtain ⟨⟨hr, hf⟩, hB'⟩ := hB
    have hr' : i ∈ Region.ready md ops listed := by simpa using hr
    have hst : qOp P ops C i (wpQuiet P ops C Lq l) a := by unfold qOp; simp only [h0]; exact h
    obtain ⟨v, hy, hK⟩ := yieldsIn_of_qOp h0 hst
    exact anyLH_first h0 (Region.noSelect_spec hsel) hw (hin i (by simp)) (fun listed' a' hL j hj hjs => by
        have h1 := hkB _ hL.1.1 j hjs
        rw [getD_both (mem_ready.1 hj).1] at h1
        cases h1) l.length listed a inv hcv (Region.free_spec h0 hf) hr' hy
      (anyLH_lexK hkB hsel hw l is _ _ (by simpa using hlen) (fun j hj => by have := hl (j + 1) (by simpa using hj); simpa using this) (fun i hi => hin i (by simp [hi])) (inv.set hr') (hcv.set i) hB' hK)
def lexFree2B (md : Region.Mode) (l : List Oper) (F hs G ts : List Nat) : Bool :=
  let ops := l.toArray
  Region.noSelect ops && (List.range ops.size).all (fun j => F.contains j || hs.contains j || (G ++ ts).contains j) && waitB md l (G ++ ts) hs
    && decide (F.length + (hs.length + (G.length + ts.length)) = ops.size) && (F.all fun i => decide (i < ops.size)) && (hs.all fun i => decide (i < ops.size)) && (G.all fun i => decide (i < ops.size)) && (ts.all fun i => decide (i < ops.size))
    && lexL md ops (fun listed => F.all (fun i => listed.getD i false) && lexL md ops (fun listed => hs.all (fun i => listed.getD i false) && lexL md ops (seqL md ops ts) G listed) hs listed) F (Array.replicate ops.size false)
theorem wp_region_up_held2 {id : Nat} {Q : Exit → Act → World → Prop} {a : Act} {w : World} {l : List Oper} (S : World → Prop) (F hs G ts : List Nat) (hm : P.follows .mixedOrders = true) (hB : lexFree2B .any l F hs G ts = true)
    (hQ : ∀ d v c a w, Q (.panic c) (Act.put a d v) w → Q (.panic c) a w) (hS : ∀ u : Up w, S u.w)
    (h : wpReads P l.toArray S (wpQuiet P l.toArray (fun w' => ∃ u : Up w, w' = u.w) (wpReads P l.toArray S (fun a' => ∀ u : Up w, wpListH P l.toArray Q S (pickO l ts) a' u.w) (pickO l G)) (pickO l hs)) (pickO l F) a) : (Code.region id l.toArray true).wp P Q a w := by
  simp only [lexFree2B, Bool.and_eq_true, decide_eq_true_eq] at hB
  obtain ⟨⟨⟨⟨⟨⟨⟨⟨hsel, hcov⟩, hw⟩, hlen⟩, hF⟩, hH⟩, hG⟩, hT⟩, hlex⟩ := hB
  have eF := pickO_spec (l := l) (is := F) (by simpa using hF)
  have eH := pickO_spec (l := l) (is := hs) (by simpa using hH)
  have eG := pickO_spec (l := l) (is := G) (by simpa using hG)
  have eT := pickO_spec (l := l) (is := ts) (by simpa using hT)
  have hC0 : ∃ u : Up w, { w with drawn := w.drawn + 1 } = u.w := ⟨⟨_, (Below.refl _ w).drew⟩, rfl⟩
  refine wp_region_any hm (wpAny_of_held (S := S) _ _ _ _ ?_)
  have inv0 : ClosedL .any l.toArray (Array.replicate l.toArray.size false) := ⟨by simp, fun j oj _ hl => (by rw [getD_replicate_false] at hl; cases hl)⟩
  have key : ∀ (listed : Array Bool) (a : Act) (w' : World), (∃ u : Up w, w' = u.w) → ClosedL .any l.toArray listed → (F.all (fun i => listed.getD i false) && lexL .any l.toArray (fun listed => hs.all (fun i => listed.getD i false) && lexL .any l.toArray (seqL .any l.toArray ts) G listed) hs listed) = true →
      wpQuiet P l.toArray (fun w' => ∃ u : Up w, w' = u.w) (wpReads P l.toArray S (fun a' => ∀ u : Up w, wpListH P l.toArray Q S (pickO l ts) a' u.w) (pickO l G)) (pickO l hs) a → wpAnyH P .any l.toArray Q S (hs.length + (G.length + ts.length)) listed a w' := by
    intro listed a w' hw' inv hb hq
    simp only [Bool.and_eq_true] at hb
    have hcv : Cover l.toArray hs (G ++ ts) listed := fun j oj hj hun => by
      have hlt := (Array.getElem?_eq_some_iff.1 hj).1
      have h1 := List.all_eq_true.1 hcov j (List.mem_range.2 hlt)
      simp only [Bool.or_eq_true, List.contains_iff_mem] at h1
      rcases h1 with (h1 | h1) | h1
      · have h2 := List.all_eq_true.1 hb.1 j h1
        rw [getD_both hun] at h2; cases h2
      · exact .inl h1
      · exact .inr h1
    have := anyLH_lexK (md := .any) (hs := hs) (ts := G ++ ts) (kB := fun listed => hs.all (fun i => listed.getD i false) && lexL .any l.toArray (seqL .any l.toArray ts) G listed) (fun listed hk i hi => by
      have hk2 := Bool.and_eq_true_iff.1 hk
      exact List.all_eq_true.1 hk2.1 i hi) hsel (fun t ht h hh => waitB_spec hw ht hh) (pickO l hs) hs listed a eH.1 (fun j hj => by simpa using eH.2 j hj) (fun i hi => hi) inv hcv (by simpa using hb.2) hq
    have := wpAnyH_of_headH (Q' := Q) (S := S) (g := G.length + ts.length) (by rintro _ ⟨u, rfl⟩; exact hS u) (fun listed' a' w' hw' hL => by
      obtain ⟨u, rfl⟩ := hw'
      obtain ⟨⟨hk0, inv'⟩, hq'⟩ := hL
      have hk := Bool.and_eq_true_iff.1 hk0
      have := wpAnyH_of_reads (md := .any) (Q' := Q) (S := S) (W := u.w) (hS u) hQ hsel (K := fun a' => ∀ u : Up w, wpListH P l.toArray Q S (pickO l ts) a' u.w) (kB := seqL .any l.toArray ts) (g := ts.length) (fun listed a _ hb hq => by
        have := wpAnyH_of_seqL (md := .any) (Q' := Q) (S := S) (pickO l ts) ts listed a u.w eT.1 (fun j hj => by simpa using eT.2 j hj) hb (hq u)
        rwa [eT.1] at this) (pickO l G) G _ a' eG.1 (fun j hj => by simpa using eG.2 j hj) inv' hk.2 hq'
      rwa [eG.1] at this) _ _ _ w' hw' this
    rwa [eH.1] at this
  have := wpAnyH_of_reads (md := .any) (Q' := Q) (S := S) (W := { w with drawn := w.drawn + 1 }) (by obtain ⟨u, hu⟩ := hC0; rw [hu]; exact hS u) hQ hsel (fun listed a inv hb hq => key listed a _ hC0 inv hb hq) (pickO l F) F _ a eF.1 (fun j hj => by simpa using eF.2 j hj) inv0 hlex h
  rwa [eF.1, show F.length + (hs.length + (G.length + ts.length)) = l.toArray.size from hlen] at this
end
end Go.Proofs.Ytbnbakienajhmaa
