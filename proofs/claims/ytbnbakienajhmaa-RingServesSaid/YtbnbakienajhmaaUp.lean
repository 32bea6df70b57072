/- A region that draws its order, whose operations read and whose calls make memory at most, walked once: also where a store ends it. -/
import Derived.Test.YtbnbakienajhmaaRows
import Derived.WalkKit
import Derived.ProofKit
import Derived.Deep.QuietTactic
import Derived.BigQuiet
import Derived.StillTail
namespace Go.Proofs.Ytbnbakienajhmaa
open Go.RowKit
set_option linter.unusedVariables false

/-- The worlds that differ from W by new memory alone: a region that draws its order, whose calls make memory at most, is walked once in all of them. -/
def Up (W : World) : Type := { w : World // Below W.heap.size W w }
instance (W : World) : Nonempty (Up W) := ⟨⟨W, Below.refl _ _⟩⟩
def Up.w {W : World} (u : Up W) : World := u.1
theorem Up.bel {W : World} (u : Up W) : Below W.heap.size W u.w := u.2
/-- A block's number lies within a world: found by instances, however many worlds lie between. -/
class LeSize (b : Nat) (w : World) : Prop where
  out : b ≤ w.heap.size
instance (w : World) : LeSize w.heap.size w := ⟨Nat.le_refl _⟩
instance (b : Nat) (w : World) (o : Obj) [h : LeSize b w] : LeSize b (w.alloc o) := ⟨by have := h.out; simp; omega⟩
instance (b : Nat) (w : World) (o : Obj) [h : LeSize b w] : LeSize (b + 1) (w.alloc o) := ⟨by have := h.out; simp; omega⟩
instance (b : Nat) (w : World) (a : Addr) (v : Value) [h : LeSize b w] : LeSize b (w.setCell a v) := ⟨by have := h.out; simp [World.setCell]; omega⟩
instance (b : Nat) (w : World) [h : LeSize b w] : LeSize b w.drew := ⟨h.out⟩
instance (b : Nat) (W : World) (u : Up W) [h : LeSize b W] : LeSize b u.w := ⟨Nat.le_trans h.out u.bel.size⟩
theorem Up.cell {W : World} (u : Up W) (b o : Nat) [h : LeSize (b + 1) W] : u.w.cell? ⟨b, o, none⟩ = W.cell? ⟨b, o, none⟩ := u.bel.cell (p := ⟨b, o, none⟩) h.out
theorem Up.frozen {W : World} (u : Up W) (b o : Nat) [h : LeSize (b + 1) W] : u.w.frozen? ⟨b, o, none⟩ = W.frozen? ⟨b, o, none⟩ := u.bel.frozen (p := ⟨b, o, none⟩) h.out
theorem cell_past {w : World} (o : Obj) (b i : Nat) [h : LeSize (b + 1) w] : (w.alloc o).cell? ⟨b, i, none⟩ = w.cell? ⟨b, i, none⟩ := World.cell?_alloc_past o b i h.out
theorem frozen_past {w : World} (o : Obj) (b i : Nat) [h : LeSize (b + 1) w] : (w.alloc o).frozen? ⟨b, i, none⟩ = w.frozen? ⟨b, i, none⟩ := World.frozen?_alloc_past o b i h.out
theorem setCell_past {w : World} (o : Obj) (b i : Nat) (v : Value) [h : LeSize (b + 1) w] : (w.alloc o).setCell ⟨b, i, none⟩ v = (w.setCell ⟨b, i, none⟩ v).alloc o := World.setCell_alloc_past o b i v h.out
theorem block_ne {w : World} (b : Nat) [h : LeSize (b + 1) w] : (b = w.heap.size) = False := by have := h.out; simp; omega
theorem block_ne' {w : World} (b : Nat) [h : LeSize (b + 1) w] : (w.heap.size = b) = False := by have := h.out; simp; omega
theorem block_ne1 {w : World} (b : Nat) [h : LeSize b w] : (b = w.heap.size + 1) = False := by have := h.out; simp; omega
theorem block_ne1' {w : World} (b : Nat) [h : LeSize b w] : (w.heap.size + 1 = b) = False := by have := h.out; simp; omega
theorem block_ne2 {w : World} (b : Nat) [h : LeSize b w] : (b = w.heap.size + 1 + 1) = False := by have := h.out; simp; omega
theorem block_ne2' {w : World} (b : Nat) [h : LeSize b w] : (w.heap.size + 1 + 1 = b) = False := by have := h.out; simp; omega
attribute [go_sem] Up.cell Up.frozen cell_past frozen_past setCell_past block_ne block_ne' block_ne1 block_ne1' block_ne2 block_ne2'
/-- A cell that is there, found by instances. -/
class SizeIs (b : Nat) (w : World) : Prop where
  out : b = w.heap.size
instance (w : World) : SizeIs w.heap.size w := ⟨rfl⟩
instance (b : Nat) (w : World) (o : Obj) [h : SizeIs b w] : SizeIs (b + 1) (w.alloc o) := ⟨by rw [h.out]; simp⟩
instance (b : Nat) (w : World) (a : Addr) (v : Value) [h : SizeIs b w] : SizeIs b (w.setCell a v) := ⟨by rw [h.out]; simp [World.setCell]⟩
instance (b : Nat) (w : World) [h : SizeIs b w] : SizeIs b w.drew := ⟨h.out⟩
class HasIdx (l : List Value) (i : Nat) : Prop where
  out : i < l.length
instance (x : Value) (l : List Value) : HasIdx (x :: l) 0 := ⟨by simp⟩
instance (x : Value) (l : List Value) (i : Nat) [h : HasIdx l i] : HasIdx (x :: l) (i + 1) := ⟨by have := h.out; simp; omega⟩
class HasCell (w : World) (b i : Nat) : Prop where
  out : (w.cell? ⟨b, i, none⟩).isSome = true
theorem HasCell.of {w : World} {b i : Nat} {v : Value} (h : w.cell? ⟨b, i, none⟩ = some v) : HasCell w b i := ⟨by rw [h]; rfl⟩
theorem HasCell.lt {w : World} {b i : Nat} (h : HasCell w b i) : b < w.heap.size := by
  obtain ⟨v, hv⟩ := Option.isSome_iff_exists.1 h.out
  exact World.block_lt_of_cell? _ _ hv
instance (b i : Nat) (w : World) (l : List Value) (t : TypeId) [h : SizeIs b w] [k : HasIdx l i] : HasCell (w.alloc (.cells l.toArray t)) b i := ⟨by
  rw [World.cell?_alloc_at _ _ _ _ h.out]; have := k.out; simp [this]⟩
instance (b i : Nat) (w : World) (o : Obj) [h : HasCell w b i] : HasCell (w.alloc o) b i := ⟨by rw [World.cell?_alloc_past _ _ _ h.lt]; exact h.out⟩
instance (b i : Nat) (w : World) (a : Addr) (v : Value) [h : HasCell w b i] : HasCell (w.setCell a v) b i := ⟨by
  by_cases e : a = ⟨b, i, none⟩
  · subst e
    obtain ⟨u, hu⟩ := Option.isSome_iff_exists.1 h.out
    rw [World.cell?_setCell_same _ _ _ hu]; rfl
  · rw [World.cell?_setCell_other _ _ _ _ e]; exact h.out⟩
instance (b i : Nat) (w : World) [h : HasCell w b i] : HasCell w.drew b i := ⟨h.out⟩
instance (b i : Nat) (W : World) (u : Up W) [h : HasCell W b i] : HasCell u.w b i := ⟨by rw [u.bel.cell (p := ⟨b, i, none⟩) h.lt]; exact h.out⟩
theorem set_same {w : World} (b i : Nat) (v : Value) [h : HasCell w b i] : (w.setCell ⟨b, i, none⟩ v).cell? ⟨b, i, none⟩ = some v := by
  obtain ⟨u, hu⟩ := Option.isSome_iff_exists.1 h.out
  exact World.cell?_setCell_same _ _ _ hu
attribute [go_sem] set_same
theorem run_store_float (P : Program) (w : World) (a : Addr) (m : Mode) (k : FloatKind) (n : Nat) : (store a (.float k n) m).run P w = stored P w a (.float k n) m := run_store P w a _ m rfl
attribute [go_sem] run_store_float
theorem Up.run {P : Program} {f : FuncId} {args : Array Value} {W : World} {v : Value}
    (h : Calls P f args W fun e w' => e = .returned v ∧ Below W.heap.size W w') : Calls P f args W fun e w' => e = .returned v ∧ ∃ u : Up W, w' = u.w :=
  h.mono fun _ w' ⟨he, hb⟩ => ⟨he, ⟨w', hb⟩, rfl⟩
theorem Up.base {W w : World} {B : Nat} (u : Up W) (h : Below B w W) (hB : B ≤ W.heap.size) : Below B w u.w := h.trans (u.bel.mono hB)
theorem Up.calls {P : Program} {f : FuncId} {args : Array Value} {W : World} {u : Up W} {v : Value}
    (h : Calls P f args u.w fun e w' => e = .returned v ∧ Below u.w.heap.size u.w w') : Calls P f args u.w fun e w' => e = .returned v ∧ ∃ u' : Up W, w' = u'.w :=
  h.mono fun _ w' ⟨he, hb⟩ => ⟨he, ⟨w', u.bel.trans (hb.mono u.bel.size)⟩, rfl⟩
theorem Up.pure {P : Program} {f : FuncId} {args : Array Value} {W : World} {u : Up W} {v : Value}
    (h : Calls P f args u.w fun e w' => e = .returned v ∧ u.w = w') : Calls P f args u.w fun e w' => e = .returned v ∧ ∃ u' : Up W, w' = u'.w :=
  h.mono fun _ _ ⟨he, hw⟩ => ⟨he, u, hw.symm⟩
theorem wp_region_up {P : Program} {id : Nat} {Q : Exit → Act → World → Prop} {a : Act} {w : World} {l : List Oper} (hm : P.follows .mixedOrders = true) (hB : Region.lexB .any l.toArray = true)
    (h : wpQuiet P l.toArray (fun w' => ∃ u : Up w, w' = u.w) (fun a' => ∀ w', (∃ u : Up w, w' = u.w) → Q .normal a' w') l a) : (Code.region id l.toArray true).wp P Q a w :=
  wp_region_quiet (C := fun w' => ∃ u : Up w, w' = u.w) hm hB ⟨⟨_, (Below.refl _ w).drew⟩, rfl⟩ (by simpa using h)

section
variable {P : Program} {ops : Array Oper} {md : Region.Mode} {C : World → Prop}
/-- The first n operations in whatever order, in the worlds of the class. -/
def anyLQ (P : Program) (md : Region.Mode) (ops : Array Oper) (C : World → Prop) (n : Nat) (L : Array Bool → Act → Prop) : Nat → Array Bool → Act → Prop
  | 0, listed, a => L listed a
  | f + 1, listed, a =>
    Region.ready md ops listed ≠ [] ∧ ∀ i ∈ Region.ready md ops listed, i < n ∧ qOp P ops C i (anyLQ P md ops C n L f (listed.setIfInBounds i true)) a
theorem wpAny_of_headQ {n g : Nat} {L : Array Bool → Act → Prop} {Q' : Exit → Act → World → Prop} (hL : ∀ listed a w, C w → L listed a → wpAny P md ops Q' g listed a w) :
    ∀ (f : Nat) (listed : Array Bool) (a : Act) (w : World), C w → anyLQ P md ops C n L f listed a → wpAny P md ops Q' (f + g) listed a w
  | 0, listed, a, w, hw, h => by rw [Nat.zero_add]; exact hL _ _ _ hw h
  | f + 1, listed, a, w, hw, h => by
    rw [show f + 1 + g = (f + g) + 1 by omega]
    exact ⟨fun h0 => absurd h0 h.1, fun i hi => wpOp_of_qOp hw (fun a' w' hw' h' => wpAny_of_headQ hL f _ a' w' hw' h') (h.2 i hi).2⟩
theorem anyLQ_first {n i : Nat} {oi : Oper} {v : Value} {L : Array Bool → Act → Prop} (hi : ops[i]? = some oi) (hsel : ∀ (j : Nat) (o : Oper) cs b, ops[j]? = some o → o.op ≠ .select cs b)
    (hs : Region.sinkB md ops n = true) (hc : Region.chainB md ops n = true) (hn : n < ops.size) (hin : i < n)
    (hdone : ∀ listed a, L listed a → ∀ j ∈ Region.ready md ops listed, n ≤ j) :
    ∀ (f : Nat) (listed : Array Bool) (a : Act), HeadInv md ops n listed →
      (∀ j oj, ops[j]? = some oj → j ≠ i → listed.getD j true = false → (∀ e ∈ oj.after, Region.binds md e = true → e.on ≠ i) → oi.apart ops oj = true) →
      i ∈ Region.ready md ops listed → YieldsIn P ops C oi v a →
      anyLQ P md ops C n L f (listed.setIfInBounds i true) (a.put oi.dst v) → anyLQ P md ops C n L (f + 1) listed a := by
  intro f
  induction f with
  | zero =>
    intro listed a inv _ hr hy H
    have hun := (mem_ready.1 hr).1
    refine ⟨fun h => (by rw [h] at hr; cases hr), fun j hj => ?_⟩
    have hjn : j < n := by
      rcases Nat.lt_or_ge j n with h | h
      · exact h
      · exact absurd hj (tail_waits hs hc hn inv _ i rfl hin hun j h)
    refine ⟨hjn, ?_⟩
    by_cases hji : j = i
    · subst hji; exact hy.qOp hi H
    · have := hdone _ _ H j (ready_mono hj hji)
      omega
  | succ f ih =>
    intro listed a inv hfree hr hy H
    have hun := (mem_ready.1 hr).1
    refine ⟨fun h => (by rw [h] at hr; cases hr), fun j hj => ?_⟩
    have hjn : j < n := by
      rcases Nat.lt_or_ge j n with h | h
      · exact h
      · exact absurd hj (tail_waits hs hc hn inv _ i rfl hin hun j h)
    refine ⟨hjn, ?_⟩
    by_cases hji : j = i
    · subst hji; exact hy.qOp hi H
    · have h1 := (H.2 j (ready_mono hj hji)).2
      obtain ⟨hjun, oj, hoj, hall⟩ := mem_ready.1 hj
      have hnot : ∀ e ∈ oj.after, Region.binds md e = true → e.on ≠ i := fun e he hb heq => by
        have h1 := hall e he hb
        rw [heq, getD_both hun] at h1
        cases h1
      have h2 := qOp_put hoj (hfree j oj hoj hji hjun hnot) (fun cs b => hsel i oi cs b hi) (fun cs b => hsel j oj cs b hoj) hy h1
      have hfree' : ∀ k ok, ops[k]? = some ok → k ≠ i → (listed.setIfInBounds j true).getD k true = false →
          (∀ e ∈ ok.after, Region.binds md e = true → e.on ≠ i) → oi.apart ops ok = true := fun k ok hk hki hun hno => by
        refine hfree k ok hk hki ?_ hno
        by_cases hjk : j = k
        · subst hjk; exact hjun
        · rw [getD_set_ne true hjk] at hun; exact hun
      refine qOp_mono (fun a' h3 => ih (listed.setIfInBounds j true) a' (inv.set hj hjn) hfree' (ready_mono hr (Ne.symm hji)) h3.1 ?_) h2
      rw [Array.setIfInBounds_comm _ _ hji]
      exact h3.2
theorem anyLQ_lex {n g : Nat} {Lq : Act → Prop} (hsel : Region.noSelect ops = true) (hs : Region.sinkB md ops n = true) (hc : Region.chainB md ops n = true) (hn : n < ops.size) :
    ∀ (l : List Oper) (k : Nat) (listed : Array Bool) (a : Act), (∀ j, j < l.length → l[j]? = ops[k + j]?) → k + l.length = n → HeadInv md ops n listed →
    Region.lexHead md ops g l.length k listed = true → wpQuiet P ops C Lq l a →
    anyLQ P md ops C n (fun listed' a' => Region.seqB md ops g n listed' = true ∧ Lq a') l.length listed a
  | [], k, listed, a, _, hk, _, hB, h => by
    have : k = n := by simpa using hk
    subst this
    exact ⟨by simpa [Region.lexHead] using hB, h⟩
  | o :: l, k, listed, a, hl, hk, inv, hB, h => by
    have h0 : ops[k]? = some o := by simpa using (hl 0 (by simp)).symm
    simp only [List.length_cons, Region.lexHead, Bool.and_eq_true] at hB
    obtain ⟨⟨hr, hf⟩, hB'⟩ := hB
    have hkn : k < n := by simp only [List.length_cons] at hk; omega
    have hr' : k ∈ Region.ready md ops listed := by simpa using hr
    have hst : qOp P ops C k (wpQuiet P ops C Lq l) a := by unfold qOp; simp only [h0]; exact h
    obtain ⟨v, hy, hK⟩ := yieldsIn_of_qOp h0 hst
    exact anyLQ_first h0 (Region.noSelect_spec hsel) hs hc hn hkn (fun listed' a' hL => seqB_ready hL.1) l.length listed a inv (Region.free_spec h0 hf) hr' hy
      (anyLQ_lex hsel hs hc hn l (k + 1) _ _ (fun j hj => by have := hl (j + 1) (by simp; omega); simpa [Nat.add_assoc, Nat.add_comm 1 j] using this) (by simp only [List.length_cons] at hk; omega) (inv.set hr' hkn) hB' hK)
/-- The first n operations read or call in whatever order, in the worlds of the class; the others follow one another. -/
theorem wp_region_quiet_tail {id : Nat} {Q : Exit → Act → World → Prop} {a : Act} {w : World} {l : List Oper} (n : Nat) (hm : P.follows .mixedOrders = true) (hB : Region.lexTailB .any l.toArray n = true) (hC : C { w with drawn := w.drawn + 1 })
    (h : wpQuiet P l.toArray C (fun a' => ∀ w', C w' → wpList P l.toArray Q (l.drop n) a' w') (l.take n) a) : (Code.region id l.toArray true).wp P Q a w := by
  simp only [Region.lexTailB, Bool.and_eq_true, decide_eq_true_eq] at hB
  obtain ⟨⟨⟨⟨hsel, hn⟩, hs⟩, hc⟩, hlex⟩ := hB
  have hn' : n < l.length := by simpa using hn
  have htl : (l.take n).length = n := by simp; omega
  have hdl : (l.drop n).length = l.toArray.size - n := by simp
  have inv0 : HeadInv .any l.toArray n (Array.replicate l.toArray.size false) :=
    ⟨by simp, fun j oj _ hl => (by rw [getD_replicate_false] at hl; cases hl), fun t _ ht => getD_in (by simpa using ht) (getD_replicate_false _ _)⟩
  have H := anyLQ_lex (md := .any) (g := l.toArray.size - n) hsel hs hc hn (l.take n) 0 _ a (fun j hj => by
    have hj' : j < n := by rw [htl] at hj; exact hj
    simp [hj']) (by simpa using htl) inv0 (by rw [htl]; exact hlex) h
  refine wp_region_any hm ?_
  have := wpAny_of_headQ (Q' := Q) (g := l.toArray.size - n) (fun listed a' w' hw' hL => by
    have := wpAny_of_seq (md := .any) (Q' := Q) (l.drop n) n listed a' w' (fun j => by simp [List.getElem?_drop]) (by rw [hdl]; exact hL.1) (hL.2 w' hw')
    rwa [hdl] at this) _ _ _ { w with drawn := w.drawn + 1 } hC H
  rw [htl, show n + (l.toArray.size - n) = l.toArray.size by omega] at this
  exact this
end
/-- The same in the worlds that differ by new memory. -/
theorem wp_region_up_tail {P : Program} {id : Nat} {Q : Exit → Act → World → Prop} {a : Act} {w : World} {l : List Oper} (n : Nat) (hm : P.follows .mixedOrders = true) (hB : Region.lexTailB .any l.toArray n = true)
    (h : wpQuiet P l.toArray (fun w' => ∃ u : Up w, w' = u.w) (fun a' => ∀ w', (∃ u : Up w, w' = u.w) → wpList P l.toArray Q (l.drop n) a' w') (l.take n) a) : (Code.region id l.toArray true).wp P Q a w :=
  wp_region_quiet_tail (C := fun w' => ∃ u : Up w, w' = u.w) n hm hB ⟨⟨_, (Below.refl _ w).drew⟩, rfl⟩ h
end Go.Proofs.Ytbnbakienajhmaa
