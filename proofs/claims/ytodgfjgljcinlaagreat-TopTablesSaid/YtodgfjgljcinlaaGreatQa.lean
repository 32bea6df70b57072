/- Part Qa of the proof: Up, Abs, Open, Tel, Odd, Env, Blk, Qld, Rk, TabA, Free, Bits, SetM, App, SetR, SetO, SetW, TabB, TabM, Place, Cnt, ZeroT, SetN, SetT, QrIn, QrTl, Rdt, Rds. -/
import Derived.Test.YtodgfjgljcinlaaGreatRows
import Derived.WalkKit
import Derived.ProofKit
import Derived.Deep.QuietTactic
import Derived.BigQuiet
import Derived.StillTail
import Derived.OpenShut
import Derived.ChangeOld
import Derived.Below
import Derived.Deep.Slices
import Derived.WalkSpells
import Derived.WalkLawsBesides
import Derived.Lib.Hide
import Derived.Handy
import Derived.OwnWalk
import Derived.Deep.MidRow
import Derived.ChangeArms
import Derived.Deep.RegionHeld3
import Derived.RangeFuncBox
import Derived.RangeFuncNested
import Derived.RangeFuncBound
import Derived.RangeFuncCalls
import Derived.RangeFuncLeaves
import Derived.Shelf.Abstract
import Derived.Shelf.RegionOpen
import Derived.OwnWalkIn
import Derived.TacticsInMore
import Derived.LoopNIn
import Derived.LoopIn
import Derived.Maps.AppendAt
import Derived.Sort.BigQuietIn
import Derived.RangeFuncWrites
import Derived.Defers
namespace Go.Proofs.YtodgfjgljcinlaaGreat
set_option maxHeartbeats 8000000
set_option maxRecDepth 100000
set_option linter.unusedVariables false
section
open Go.RowKit
def Up (W : World) : Type := { w : World // Below W.heap.size W w }
instance (W : World) : Nonempty (Up W) := ⟨⟨W, Below.refl _ _⟩⟩
def Up.w {W : World} (u : Up W) : World := u.1
theorem Up.bel {W : World} (u : Up W) : Below W.heap.size W u.w := u.2
class LeSize (b : Nat) (w : World) : Prop where
 out : b ≤ w.heap.size
instance (w : World) : LeSize w.heap.size w := ⟨Nat.le_refl _⟩
instance (b : Nat) (w : World) (o : Obj) [h : LeSize b w] : LeSize b (w.alloc o) := ⟨by have := h.out; simp; omega⟩
instance (b : Nat) (w : World) (o : Obj) [h : LeSize b w] : LeSize (b + 1) (w.alloc o) := ⟨by have := h.out; simp; omega⟩
instance (b : Nat) (w : World) (a : Addr) (v : Value) [h : LeSize b w] : LeSize b (w.setCell a v) := ⟨by have := h.out; simp [World.setCell]; omega⟩
instance (b : Nat) (w : World) [h : LeSize b w] : LeSize b w.drew := ⟨h.out⟩
instance (b : Nat) (W : World) (u : Up W) [h : LeSize b W] : LeSize b u.w := ⟨Nat.le_trans h.out u.bel.size⟩
theorem Up.cell {W : World} (u : Up W) (b o : Nat) [h : LeSize (b + 1) W] : u.w.cell? ⟨b, o, none⟩ = W.cell? ⟨b, o, none⟩ := u.bel.cell (p := ⟨b, o, none⟩) h.out
theorem Up.frozen {W : World} (u : Up W) (b o : Nat) [h : LeSize (b + 1) W] : u.w.frozen? ⟨b, o, none⟩ = W.frozen? ⟨b, o, none⟩ := u.bel.frozen (p := ⟨b, o, none⟩) h.out
theorem qK {w : World} (o : Obj) (b i : Nat) [h : LeSize (b + 1) w] : (w.alloc o).cell? ⟨b, i, none⟩ = w.cell? ⟨b, i, none⟩ := World.cell?_alloc_past o b i h.out
theorem nS {w : World} (o : Obj) (b i : Nat) [h : LeSize (b + 1) w] : (w.alloc o).frozen? ⟨b, i, none⟩ = w.frozen? ⟨b, i, none⟩ := World.frozen?_alloc_past o b i h.out
theorem abK {w : World} (o : Obj) (b i : Nat) (v : Value) [h : LeSize (b + 1) w] : (w.alloc o).setCell ⟨b, i, none⟩ v = (w.setCell ⟨b, i, none⟩ v).alloc o := World.setCell_alloc_past o b i v h.out
theorem rX {w : World} (b : Nat) [h : LeSize (b + 1) w] : (b = w.heap.size) = False := by have := h.out; simp; omega
theorem qG {w : World} (b : Nat) [h : LeSize (b + 1) w] : (w.heap.size = b) = False := by have := h.out; simp; omega
theorem qH {w : World} (b : Nat) [h : LeSize b w] : (b = w.heap.size + 1) = False := by have := h.out; simp; omega
theorem acg {w : World} (b : Nat) [h : LeSize b w] : (w.heap.size + 1 = b) = False := by have := h.out; simp; omega
theorem qz {w : World} (b : Nat) [h : LeSize b w] : (b = w.heap.size + 1 + 1) = False := by have := h.out; simp; omega
theorem oc {w : World} (b : Nat) [h : LeSize b w] : (w.heap.size + 1 + 1 = b) = False := by have := h.out; simp; omega
attribute [go_sem] Up.cell Up.frozen qK nS abK rX qG qH acg qz oc
class SizeIs (b : Nat) (w : World) : Prop where
 out : b = w.heap.size
instance (w : World) : SizeIs w.heap.size w := ⟨rfl⟩
instance (b : Nat) (w : World) (o : Obj) [h : SizeIs b w] : SizeIs (b + 1) (w.alloc o) := ⟨by rw [h.out]; simp⟩
instance (b : Nat) (w : World) (a : Addr) (v : Value) [h : SizeIs b w] : SizeIs b (w.setCell a v) := ⟨by rw [h.out]; simp [World.setCell]⟩
instance (b : Nat) (w : World) [h : SizeIs b w] : SizeIs b w.drew := ⟨h.out⟩
class HasIdx (l : List Value) (i : Nat) : Prop where
 out : i < l.length
instance (x : Value) (l : List Value) : HasIdx (x :: l) 0 := ⟨by simp⟩
instance (x : Value) (l : List Value) (i : Nat) [h : HasIdx l i] : HasIdx (x :: l) (i + 1) := ⟨by have := h.out; simp; omega⟩
class HasCell (w : World) (b i : Nat) : Prop where
 out : (w.cell? ⟨b, i, none⟩).isSome = true
theorem HasCell.of {w : World} {b i : Nat} {v : Value} (h : w.cell? ⟨b, i, none⟩ = some v) : HasCell w b i := ⟨by rw [h]; rfl⟩
theorem HasCell.lt {w : World} {b i : Nat} (h : HasCell w b i) : b < w.heap.size := by
 obtain ⟨v, hv⟩ := Option.isSome_iff_exists.1 h.out
 exact World.block_lt_of_cell? _ _ hv
instance (b i : Nat) (w : World) (l : List Value) (t : TypeId) [h : SizeIs b w] [k : HasIdx l i] : HasCell (w.alloc (.cells l.toArray t)) b i := ⟨by
 rw [World.cell?_alloc_at _ _ _ _ h.out]; have := k.out; simp [this]⟩
instance (b i : Nat) (w : World) (o : Obj) [h : HasCell w b i] : HasCell (w.alloc o) b i := ⟨by rw [World.cell?_alloc_past _ _ _ h.lt]; exact h.out⟩
instance (b i : Nat) (w : World) (a : Addr) (v : Value) [h : HasCell w b i] : HasCell (w.setCell a v) b i := ⟨by
 by_cases e : a = ⟨b, i, none⟩
 ·subst e
  obtain ⟨u, hu⟩ := Option.isSome_iff_exists.1 h.out
  rw [World.cell?_setCell_same _ _ _ hu]; rfl
 ·rw [World.cell?_setCell_other _ _ _ _ e]; exact h.out⟩
instance (b i : Nat) (w : World) [h : HasCell w b i] : HasCell w.drew b i := ⟨h.out⟩
instance (b i : Nat) (W : World) (u : Up W) [h : HasCell W b i] : HasCell u.w b i := ⟨by rw [u.bel.cell (p := ⟨b, i, none⟩) h.lt]; exact h.out⟩
theorem fQ {w : World} (b i : Nat) (v : Value) [h : HasCell w b i] : (w.setCell ⟨b, i, none⟩ v).cell? ⟨b, i, none⟩ = some v := by
 obtain ⟨u, hu⟩ := Option.isSome_iff_exists.1 h.out
 exact World.cell?_setCell_same _ _ _ hu
attribute [go_sem] fQ
theorem iY (P : Program) (w : World) (a : Addr) (m : Mode) (k : FloatKind) (n : Nat) : (store a (.float k n) m).run P w = stored P w a (.float k n) m := run_store P w a _ m rfl
attribute [go_sem] iY
theorem Up.run {P : Program} {f : FuncId} {args : Array Value} {W : World} {v : Value}
  (h : Calls P f args W fun e w' => e = .returned v ∧ Below W.heap.size W w') : Calls P f args W fun e w' => e = .returned v ∧ ∃ u : Up W, w' = u.w :=
 h.mono fun _ w' ⟨he, hb⟩ => ⟨he, ⟨w', hb⟩, rfl⟩
theorem Up.base {W w : World} {B : Nat} (u : Up W) (h : Below B w W) (hB : B ≤ W.heap.size) : Below B w u.w := h.trans (u.bel.mono hB)
theorem Up.calls {P : Program} {f : FuncId} {args : Array Value} {W : World} {u : Up W} {v : Value}
  (h : Calls P f args u.w fun e w' => e = .returned v ∧ Below u.w.heap.size u.w w') : Calls P f args u.w fun e w' => e = .returned v ∧ ∃ u' : Up W, w' = u'.w :=
 h.mono fun _ w' ⟨he, hb⟩ => ⟨he, ⟨w', u.bel.trans (hb.mono u.bel.size)⟩, rfl⟩
theorem Up.pure {P : Program} {f : FuncId} {args : Array Value} {W : World} {u : Up W} {v : Value}
  (h : Calls P f args u.w fun e w' => e = .returned v ∧ u.w = w') : Calls P f args u.w fun e w' => e = .returned v ∧ ∃ u' : Up W, w' = u'.w :=
 h.mono fun _ _ ⟨he, hw⟩ => ⟨he, u, hw.symm⟩
theorem ai {P : Program} {id : Nat} {Q : Exit → Act → World → Prop} {a : Act} {w : World} {l : List Oper} (hm : P.follows .mixedOrders = true) (hB : Region.lexB .any l.toArray = true)
  (h : wpQuiet P l.toArray (fun w' => ∃ u : Up w, w' = u.w) (fun a' => ∀ w', (∃ u : Up w, w' = u.w) → Q .normal a' w') l a) : (Code.region id l.toArray true).wp P Q a w :=
 wp_region_quiet (C := fun w' => ∃ u : Up w, w' = u.w) hm hB ⟨⟨_, (Below.refl _ w).drew⟩, rfl⟩ (by simpa using h)
section
variable {P : Program} {ops : Array Oper} {md : Region.Mode} {C : World → Prop}
def nE (P : Program) (md : Region.Mode) (ops : Array Oper) (C : World → Prop) (n : Nat) (L : Array Bool → Act → Prop) : Nat → Array Bool → Act → Prop
 | 0, listed, a => L listed a
 | f + 1, listed, a =>
  Region.ready md ops listed ≠ [] ∧ ∀ i ∈ Region.ready md ops listed, i < n ∧ qOp P ops C i (nE P md ops C n L f (listed.setIfInBounds i true)) a
theorem fL {n g : Nat} {L : Array Bool → Act → Prop} {Q' : Exit → Act → World → Prop} (hL : ∀ listed a w, C w → L listed a → wpAny P md ops Q' g listed a w) :
  ∀ (f : Nat) (listed : Array Bool) (a : Act) (w : World), C w → nE P md ops C n L f listed a → wpAny P md ops Q' (f + g) listed a w
 | 0, listed, a, w, hw, h => by rw [Nat.zero_add]; exact hL _ _ _ hw h
 | f + 1, listed, a, w, hw, h => by
  rw [show f + 1 + g = (f + g) + 1 by omega]
  exact ⟨fun h0 => absurd h0 h.1, fun i hi => wpOp_of_qOp hw (fun a' w' hw' h' => fL hL f _ a' w' hw' h') (h.2 i hi).2⟩
theorem mS {n i : Nat} {oi : Oper} {v : Value} {L : Array Bool → Act → Prop} (hi : ops[i]? = some oi) (hsel : ∀ (j : Nat) (o : Oper) cs b, ops[j]? = some o → o.op ≠ .select cs b)
  (hs : Region.sinkB md ops n = true) (hc : Region.chainB md ops n = true) (hn : n < ops.size) (hin : i < n)
  (hdone : ∀ listed a, L listed a → ∀ j ∈ Region.ready md ops listed, n ≤ j) :
  ∀ (f : Nat) (listed : Array Bool) (a : Act), HeadInv md ops n listed →
   (∀ j oj, ops[j]? = some oj → j ≠ i → listed.getD j true = false → (∀ e ∈ oj.after, Region.binds md e = true → e.on ≠ i) → oi.apart ops oj = true) →
   i ∈ Region.ready md ops listed → YieldsIn P ops C oi v a →
   nE P md ops C n L f (listed.setIfInBounds i true) (a.put oi.dst v) → nE P md ops C n L (f + 1) listed a := by
 intro f
 induction f with
 | zero =>
  intro listed a inv _ hr hy H
  have hun := (mem_ready.1 hr).1
  refine ⟨fun h => (by rw [h] at hr; cases hr), fun j hj => ?_⟩
  have hjn : j < n := by
   rcases Nat.lt_or_ge j n with h | h
   ·exact h
   ·exact absurd hj (tail_waits hs hc hn inv _ i rfl hin hun j h)
  refine ⟨hjn, ?_⟩
  by_cases hji : j = i
  ·subst hji; exact hy.qOp hi H
  ·have := hdone _ _ H j (ready_mono hj hji)
   omega
 | succ f ih =>
  intro listed a inv hfree hr hy H
  have hun := (mem_ready.1 hr).1
  refine ⟨fun h => (by rw [h] at hr; cases hr), fun j hj => ?_⟩
  have hjn : j < n := by
   rcases Nat.lt_or_ge j n with h | h
   ·exact h
   ·exact absurd hj (tail_waits hs hc hn inv _ i rfl hin hun j h)
  refine ⟨hjn, ?_⟩
  by_cases hji : j = i
  ·subst hji; exact hy.qOp hi H
  ·have h1 := (H.2 j (ready_mono hj hji)).2
   obtain ⟨hjun, oj, hoj, hall⟩ := mem_ready.1 hj
   have hnot : ∀ e ∈ oj.after, Region.binds md e = true → e.on ≠ i := fun e he hb heq => by
    have h1 := hall e he hb
    rw [heq, getD_both hun] at h1
    cases h1
   have h2 := qOp_put hoj (hfree j oj hoj hji hjun hnot) (fun cs b => hsel i oi cs b hi) (fun cs b => hsel j oj cs b hoj) hy h1
   have hfree' : ∀ k ok, ops[k]? = some ok → k ≠ i → (listed.setIfInBounds j true).getD k true = false →
     (∀ e ∈ ok.after, Region.binds md e = true → e.on ≠ i) → oi.apart ops ok = true := fun k ok hk hki hun hno => by
    refine hfree k ok hk hki ?_ hno
    by_cases hjk : j = k
    ·subst hjk; exact hjun
    ·rw [getD_set_ne true hjk] at hun; exact hun
   refine qOp_mono (fun a' h3 => ih (listed.setIfInBounds j true) a' (inv.set hj hjn) hfree' (ready_mono hr (Ne.symm hji)) h3.1 ?_) h2
   rw [Array.setIfInBounds_comm _ _ hji]
   exact h3.2
theorem kE {n g : Nat} {Lq : Act → Prop} (hsel : Region.noSelect ops = true) (hs : Region.sinkB md ops n = true) (hc : Region.chainB md ops n = true) (hn : n < ops.size) :
  ∀ (l : List Oper) (k : Nat) (listed : Array Bool) (a : Act), (∀ j, j < l.length → l[j]? = ops[k + j]?) → k + l.length = n → HeadInv md ops n listed →
  Region.lexHead md ops g l.length k listed = true → wpQuiet P ops C Lq l a →
  nE P md ops C n (fun listed' a' => Region.seqB md ops g n listed' = true ∧ Lq a') l.length listed a
 | [], k, listed, a, _, hk, _, hB, h => by
  have : k = n := by simpa using hk
  subst this
  exact ⟨by simpa [Region.lexHead] using hB, h⟩
 | o :: l, k, listed, a, hl, hk, inv, hB, h => by
  have h0 : ops[k]? = some o := by simpa using (hl 0 (by simp)).symm
  simp only [List.length_cons, Region.lexHead, Bool.and_eq_true] at hB
  obtain ⟨⟨hr, hf⟩, hB'⟩ := hB
  have hkn : k < n := by simp only [List.length_cons] at hk; omega
  have hr' : k ∈ Region.ready md ops listed := by simpa using hr
  have hst : qOp P ops C k (wpQuiet P ops C Lq l) a := by unfold qOp; simp only [h0]; exact h
  obtain ⟨v, hy, hK⟩ := yieldsIn_of_qOp h0 hst
  exact mS h0 (Region.noSelect_spec hsel) hs hc hn hkn (fun listed' a' hL => seqB_ready hL.1) l.length listed a inv (Region.free_spec h0 hf) hr' hy
   (kE hsel hs hc hn l (k + 1) _ _ (fun j hj => by have := hl (j + 1) (by simp; omega); simpa [Nat.add_assoc, Nat.add_comm 1 j] using this) (by simp only [List.length_cons] at hk; omega) (inv.set hr' hkn) hB' hK)
theorem fV {id : Nat} {Q : Exit → Act → World → Prop} {a : Act} {w : World} {l : List Oper} (n : Nat) (hm : P.follows .mixedOrders = true) (hB : Region.lexTailB .any l.toArray n = true) (hC : C { w with drawn := w.drawn + 1 })
  (h : wpQuiet P l.toArray C (fun a' => ∀ w', C w' → wpList P l.toArray Q (l.drop n) a' w') (l.take n) a) : (Code.region id l.toArray true).wp P Q a w := by
 simp only [Region.lexTailB, Bool.and_eq_true, decide_eq_true_eq] at hB
 obtain ⟨⟨⟨⟨hsel, hn⟩, hs⟩, hc⟩, hlex⟩ := hB
 have hn' : n < l.length := by simpa using hn
 have htl : (l.take n).length = n := by simp; omega
 have hdl : (l.drop n).length = l.toArray.size - n := by simp
 have inv0 : HeadInv .any l.toArray n (Array.replicate l.toArray.size false) :=
  ⟨by simp, fun j oj _ hl => (by rw [getD_replicate_false] at hl; cases hl), fun t _ ht => getD_in (by simpa using ht) (getD_replicate_false _ _)⟩
 have H := kE (md := .any) (g := l.toArray.size - n) hsel hs hc hn (l.take n) 0 _ a (fun j hj => by
  have hj' : j < n := by rw [htl] at hj; exact hj
  simp [hj']) (by simpa using htl) inv0 (by rw [htl]; exact hlex) h
 refine wp_region_any hm ?_
 have := fL (Q' := Q) (g := l.toArray.size - n) (fun listed a' w' hw' hL => by
  have := wpAny_of_seq (md := .any) (Q' := Q) (l.drop n) n listed a' w' (fun j => by simp [List.getElem?_drop]) (by rw [hdl]; exact hL.1) (hL.2 w' hw')
  rwa [hdl] at this) _ _ _ { w with drawn := w.drawn + 1 } hC H
 rw [htl, show n + (l.toArray.size - n) = l.toArray.size by omega] at this
 exact this
end
theorem aO {P : Program} {id : Nat} {Q : Exit → Act → World → Prop} {a : Act} {w : World} {l : List Oper} (n : Nat) (hm : P.follows .mixedOrders = true) (hB : Region.lexTailB .any l.toArray n = true)
  (h : wpQuiet P l.toArray (fun w' => ∃ u : Up w, w' = u.w) (fun a' => ∀ w', (∃ u : Up w, w' = u.w) → wpList P l.toArray Q (l.drop n) a' w') (l.take n) a) : (Code.region id l.toArray true).wp P Q a w :=
 fV (C := fun w' => ∃ u : Up w, w' = u.w) n hm hB ⟨⟨_, (Below.refl _ w).drew⟩, rfl⟩ h
end
theorem yd {p : Prop} (h : p := by (repeat' (first | (with_reducible exact Below.refl _ _) | (with_reducible assumption) | (with_reducible refine Below.setCell ?_ ?_ _) | (with_reducible refine Below.alloc ?_ ?_ _) | (with_reducible refine Below.drew ?_) | (with_reducible refine Up.base _ ?_ ?_) | (with_reducible exact LeSize.out) | exact LeSize.out | exact Nat.le_add_right_of_le LeSize.out | exact Nat.le_add_right_of_le (Nat.le_add_right_of_le LeSize.out) | (with_reducible exact Nat.le_refl _) | (simp; done) | (simp; omega)))) : p := h
section
theorem eQ {P : Program} {c : Code} {Q : Exit → Act → World → Prop} {a : Act} {W : World} (F : World → Prop) (hF : F W) (h : ∀ W', F W' → Code.wp P c Q a W') : Code.wp P c Q a W := h W hF
theorem qO {P : Program} {f : FuncId} {args : Array Value} {W : World} {R : Ending → World → Prop} (F : World → Prop) (hF : F W) (h : ∀ W', F W' → Calls P f args W' R) : Calls P f args W R := h W hF
end
section
open Go.ChangeShapes Go.WideShapes Go.ChangeAt Go.RowKit
theorem own : ownKnob Tryz.prog.godebug = none := by kernel_rfl
theorem pf : laidOutB Tryz.prog = true := by kernel_rfl
theorem bU {k : IntKind} {a b : Int} (h : a = b) : Ending.returned (.int k a) = .returned (.int k b) := by rw [h]
theorem aK {a b : Bool} (h : a = b) : Ending.returned (.bool a) = .returned (.bool b) := by rw [h]
def db : IntKind → Int → Prop
 | .i64, n => -9223372036854775808 ≤ n ∧ n ≤ 9223372036854775807
 | .u8, n => 0 ≤ n ∧ n ≤ 255
 | .u16, n => 0 ≤ n ∧ n ≤ 65535
 | _, _ => True
theorem mj {k : IntKind} {n : Int} (h : (Lit.int k n).wf = true) : db k n := by
 cases k <;> first | trivial | exact bounds_i64 h | exact bounds_u8 h | exact bounds_u16 h
theorem ku {k : IntKind} {n : Int} (h : k.has n) : db k n := by
 cases k <;> first | trivial | (simp [IntKind.has, IntKind.min, IntKind.max, IntKind.signed, IntKind.bits] at h; simp [db]; omega)
def mu (P : Program) (t : TypeId) (v : Value) : Prop :=
 match P.underlying t with
 | some .bool => ∃ b, v = .bool b
 | some (.int k) => ∃ n, v = .int k n ∧ db k n
 | some (.float .f64) => ∃ b, v = .float .f64 b ∧ b < 18446744073709551616
 | some (.slice _) => ∃ a len cap, v = .slice a len cap ∧ len ≤ cap ∧ cap ≤ 9223372036854775807
 | _ => True
theorem mu.int {P : Program} {t : TypeId} {v : Value} {k : IntKind} (h : mu P t v) (ht : P.underlying t = some (.int k)) : ∃ n, v = .int k n ∧ db k n := by
 unfold mu at h; rw [ht] at h; exact h
theorem mu.bool {P : Program} {t : TypeId} {v : Value} (h : mu P t v) (ht : P.underlying t = some .bool) : ∃ b, v = .bool b := by
 unfold mu at h; rw [ht] at h; exact h
theorem mu.float {P : Program} {t : TypeId} {v : Value} (h : mu P t v) (ht : P.underlying t = some (.float .f64)) : ∃ b, v = .float .f64 b ∧ b < 18446744073709551616 := by
 unfold mu at h; rw [ht] at h; exact h
theorem mu.slice {P : Program} {t : TypeId} {v : Value} {e : TypeId} (h : mu P t v) (ht : P.underlying t = some (.slice e)) : ∃ a len cap, v = .slice a len cap ∧ len ≤ cap ∧ cap ≤ 9223372036854775807 := by
 unfold mu at h; rw [ht] at h; exact h
theorem nv {P : Program} {w : World} {r : Reach} {base : Nat} {t : TypeId} {v : Value} (h : Cell.okWide P w r base t v) : mu P t v := by
 unfold mu
 split
 ·rename_i ht
  unfold Cell.okWide Cell.ok at h; rw [ht] at h
  cases v <;> simp at h ⊢
 ·rename_i ht
  unfold Cell.okWide Cell.ok at h; rw [ht] at h
  cases v <;> simp at h ⊢
  obtain ⟨rfl, hb⟩ := h
  exact ⟨_, ⟨rfl, rfl⟩, ku hb⟩
 ·rename_i ht
  unfold Cell.okWide Cell.ok at h; rw [ht] at h
  cases v <;> simp at h ⊢
  obtain ⟨rfl, hb⟩ := h
  exact ⟨_, ⟨rfl, rfl⟩, hb⟩
 ·rename_i ht
  unfold Cell.okWide Cell.ok at h; rw [ht] at h
  cases v with
  | slice a len cap =>
   refine ⟨a, len, cap, rfl, ?_⟩
   cases a with
   | none =>
    simp only [] at h
    split at h <;> simp_all
   | some a =>
    simp [IntKind.max, IntKind.signed, IntKind.bits] at h
    omega
  | _ => simp at h
 ·trivial
theorem gw {P : Program} {w : World} {r : Reach} {base : Nat} {t : TypeId} {v : Value} (h : Value.okWide P w r base t v)
  (hs : ∀ fs, P.underlying t ≠ some (.struct fs)) (ha : ∀ n e, P.underlying t ≠ some (.array n e)) : mu P t v := by
 refine nv (w := w) (r := r) (base := base) ?_
 unfold Value.okWide at h
 split at h
 ·rename_i ht; exact absurd ht (hs _)
 ·rename_i ht; exact absurd ht (ha _ _)
 ·exact h
theorem abc {P : Program} {w : World} {r : Reach} {base : Nat} {t : TypeId} {v : Value} {k : IntKind} (ht : P.underlying t = some (.int k)) (h : Value.okWide P w r base t v) : ∃ n, v = .int k n ∧ db k n :=
 (gw h (by rw [ht]; simp) (by rw [ht]; simp)).int ht
theorem oE {P : Program} {w : World} {r : Reach} {base : Nat} {t : TypeId} {v : Value} (ht : P.underlying t = some .bool) (h : Value.okWide P w r base t v) : ∃ b, v = .bool b :=
 (gw h (by rw [ht]; simp) (by rw [ht]; simp)).bool ht
def bk (w : World) (a : Option Addr) (len : Nat) (V : Nat → Value) : Prop :=
 len = 0 ∨ ∃ b off, a = some ⟨b, off, none⟩ ∧ b < w.heap.size ∧ ∀ i, i < len → w.cell? ⟨b, off + i, none⟩ = some (V i)
theorem l9 {H : Type} {enc : TypeId × Value → H} {P : Program} {w : World} {base : Nat} {spare : Nat → Bool} {held : Bool} {n : Nat} {t : TypeId} {v : Value} {x : DataW H × List MemPlace}
  (hp : (match P.underlying t with | some .bool | some (.int _) | some (.float .f64) => true | _ => false) = true)
  (h : DataW.trod enc P w base spare held n t [v] = some x) : mu P t v := by
 cases n with
 | zero => simp [DataW.trod] at h
 | succ m =>
  unfold DataW.trod at h
  unfold mu
  split
  ·rename_i ht; rw [ht] at h; cases v <;> simp at h ⊢
  ·rename_i ht; rw [ht] at h; cases v <;> simp at h ⊢
   obtain ⟨⟨rfl, hw⟩, _⟩ := h
   exact ⟨_, ⟨rfl, rfl⟩, mj hw⟩
  ·rename_i ht; rw [ht] at h; cases v <;> simp at h ⊢
   obtain ⟨⟨rfl, hw⟩, _⟩ := h
   refine ⟨_, ⟨rfl, rfl⟩, ?_⟩
   simpa [Lit.wf] using hw
  ·rename_i ht; rw [ht] at hp; simp at hp
  ·trivial
def wN (w : World) (a : Option Addr) (cap : Nat) : Prop := (a = none ∧ cap = 0) ∨ ∃ b off, a = some ⟨b, off, none⟩ ∧ b < w.heap.size
theorem nq {P : Program} {w : World} {r : Reach} {base : Nat} {t e : TypeId} {a : Option Addr} {len cap : Nat} (ht : P.underlying t = some (.slice e)) (h : Cell.okWide P w r base t (.slice a len cap)) : wN w a cap := by
 unfold Cell.okWide Cell.ok at h; rw [ht] at h
 cases a with
 | none =>
  simp only [] at h
  split at h <;> simp_all [wN]
 | some a =>
  simp only [] at h
  obtain ⟨_, _, _, hs, row, cells, hsh, _⟩ := h
  obtain ⟨b, off, spot⟩ := a
  simp only at hs hsh
  subst hs
  refine .inr ⟨b, off, rfl, ?_⟩
  by_cases hb : b < w.heap.size
  ·exact hb
  ·exfalso
   unfold World.shape? at hsh
   simp [show w.heap[b]? = none by simp; omega] at hsh
theorem kn {P : Program} {w : World} {r : Reach} {base : Nat} {t e : TypeId} {a : Option Addr} {len cap : Nat} (ht : P.underlying t = some (.slice e)) (h : Value.okWide P w r base t (.slice a len cap)) : wN w a cap := by
 refine nq (r := r) (base := base) (len := len) ht ?_
 unfold Value.okWide at h
 rw [ht] at h
 exact h
theorem pZ {H : Type} {enc : TypeId × Value → H} {P : Program} {w : World} {spare : Nat → Bool} {held : Bool} {r : Reach} {base' : Nat} {t e : TypeId} {v : Value} {d : DataW H} {ps : List MemPlace}
  (ht : P.underlying t = some (.slice e)) (hc : P.cellsOf e = 1)
  (hp : (match P.underlying e with | some .bool | some (.int _) | some (.float .f64) => true | _ => false) = true)
  (hval : Value.okWide P w r base' t v) (hd : DataW.Trod enc P w 0 spare held t v d ps) :
  ∃ a len cap V, v = .slice a len cap ∧ len ≤ cap ∧ cap ≤ 9223372036854775807 ∧ wN w a cap ∧ bk w a len V ∧ ∀ i, i < len → mu P e (V i) := by
 obtain ⟨a, len, cap, rfl, hl, hm⟩ := (gw hval (by rw [ht]; simp) (by rw [ht]; simp)).slice ht
 have hh := kn ht hval
 obtain ⟨n, hn⟩ := hd
 rcases Go.Deep.open_slice1 ht hc hn with ⟨hcs, _⟩ | ⟨x, len', cap', m, n', V, D, Pl, hcs, _, hl', hm', hmm, hx, hV⟩
 ·simp [Value.cells] at hcs
  obtain ⟨rfl, rfl, rfl⟩ := hcs
  exact ⟨none, 0, 0, fun _ => undef, rfl, hl, hm, hh, .inl rfl, fun i hi => absurd hi (by omega)⟩
 ·simp [Value.cells] at hcs
  obtain ⟨rfl, rfl, rfl⟩ := hcs
  have hlm : len ≤ m := by rw [hmm]; split <;> omega
  refine ⟨some x, len, cap, V, rfl, hl, hm, hh, ?_, fun i hi => ?_⟩
  ·right
   rcases hh with ⟨hn, _⟩ | ⟨b, off, hx', hb⟩
   ·cases hn
   ·cases hx'
    refine ⟨b, off, rfl, hb, fun i hi => ?_⟩
    have := (hV i (by omega)).1
    by_cases hi0 : i = 0
    ·subst hi0; simpa [Addr.add] using this
    ·simpa [Addr.add, hi0] using this
  ·exact l9 hp (hV i (by omega)).2
theorem bk.cell {w : World} {a : Option Addr} {len : Nat} {V : Nat → Value} (h : bk w a len V) (h0 : len ≠ 0) :
  ∃ b off, a = some ⟨b, off, none⟩ ∧ b < w.heap.size ∧ ∀ i, i < len → w.cell? ⟨b, off + i, none⟩ = some (V i) := h.resolve_left h0
theorem bk.below {B : Nat} {w w' : World} {a : Option Addr} {len : Nat} {V : Nat → Value} (h : bk w a len V) (hb : Below B w w') (hB : w.heap.size ≤ B) : bk w' a len V := by
 rcases h with h | ⟨b, off, ha, hlt, hc⟩
 ·exact .inl h
 ·exact .inr ⟨b, off, ha, Nat.lt_of_lt_of_le hlt hb.size, fun i hi => by rw [hb.cell (p := ⟨b, off + i, none⟩) (by simp; omega)]; exact hc i hi⟩
theorem bk.drew {w : World} {a : Option Addr} {len : Nat} {V : Nat → Value} (h : bk w a len V) : bk w.drew a len V := h.below (B := w.heap.size) (Below.refl _ _).drew (Nat.le_refl _)
theorem bk.up {w : World} {a : Option Addr} {len : Nat} {V : Nat → Value} (u : Up w) (h : bk w a len V) : bk u.w a len V := h.below u.bel (Nat.le_refl _)
theorem aec {P : Program} {e : TypeId} {k : IntKind} {V : Nat → Value} {len : Nat} (ht : P.underlying e = some (.int k)) (h : ∀ i, i < len → mu P e (V i)) :
  ∃ zs : List Int, zs.length = len ∧ ∀ i, i < len → V i = .int k (zs.getD i 0) ∧ db k (zs.getD i 0) := by
 refine ⟨(List.range len).map fun i => match V i with | .int _ n => n | _ => 0, by simp, fun i hi => ?_⟩
 obtain ⟨n, hv, hn⟩ := (h i hi).int ht
 simp [List.getD, hi, hv, hn]
def bQ (w : World) (a : Option Addr) (zs : List Int) : Prop := bk w a zs.length fun i => .int .i64 (zs.getD i 0)
def bj (w : World) (a : Option Addr) (zs : List Int) : Prop := bk w a zs.length fun i => .int .u8 (zs.getD i 0)
def abS (w : World) (a : Option Addr) (zs : List Bool) : Prop := bk w a zs.length fun i => .bool (zs.getD i false)
def jJ (w : World) (a : Option Addr) (zs : List Nat) : Prop := bk w a zs.length fun i => .float .f64 (zs.getD i 0)
theorem bQ.drew {w : World} {a : Option Addr} {zs : List Int} (h : bQ w a zs) : bQ w.drew a zs := bk.drew h
theorem bj.drew {w : World} {a : Option Addr} {zs : List Int} (h : bj w a zs) : bj w.drew a zs := bk.drew h
theorem abS.drew {w : World} {a : Option Addr} {zs : List Bool} (h : abS w a zs) : abS w.drew a zs := bk.drew h
theorem jJ.drew {w : World} {a : Option Addr} {zs : List Nat} (h : jJ w a zs) : jJ w.drew a zs := bk.drew h
theorem bk.congr {w : World} {a : Option Addr} {len : Nat} {V V' : Nat → Value} (h : bk w a len V) (he : ∀ i, i < len → V i = V' i) : bk w a len V' := by
 rcases h with h | ⟨b, off, ha, hlt, hc⟩
 ·exact .inl h
 ·exact .inr ⟨b, off, ha, hlt, fun i hi => by rw [hc i hi, he i hi]⟩
theorem aaq {H : Type} {enc : TypeId × Value → H} {P : Program} {w : World} {spare : Nat → Bool} {held : Bool} {r : Reach} {base' : Nat} {t e : TypeId} {k : IntKind} {v : Value} {d : DataW H} {ps : List MemPlace}
  (ht : P.underlying t = some (.slice e)) (he : P.underlying e = some (.int k)) (hc : P.cellsOf e = 1)
  (hval : Value.okWide P w r base' t v) (hd : DataW.Trod enc P w 0 spare held t v d ps) :
  ∃ a cap, ∃ zs : List Int, v = .slice a zs.length cap ∧ zs.length ≤ cap ∧ cap ≤ 9223372036854775807 ∧ wN w a cap ∧ bk w a zs.length (fun i => .int k (zs.getD i 0)) ∧ ∀ i, i < zs.length → db k (zs.getD i 0) := by
 obtain ⟨a, len, cap, V, rfl, hl, hm, hh, hr, hf⟩ := pZ ht hc (by rw [he]) hval hd
 obtain ⟨zs, rfl, hz⟩ := aec he hf
 exact ⟨a, cap, zs, rfl, hl, hm, hh, hr.congr fun i hi => (hz i hi).1, fun i hi => (hz i hi).2⟩
theorem mN {w : World} {base : Nat} {e : TypeId} {v : Value} {zs : List Int} {n : Nat} (h : w.ownsRow base e 1 v n (zs.map (Value.int .i64))) : ∃ a cap, v = .slice a n cap ∧ zs.length = n ∧ bQ w a zs := by
 obtain ⟨hl, h⟩ := h
 have hn : zs.length = n := by simpa using hl
 rcases h with ⟨rfl, rfl⟩ | ⟨g, cap, cur, rfl, _, hg, hc, _, hs, ht⟩
 ·exact ⟨none, 0, rfl, hn, .inl hn⟩
 ·refine ⟨_, cap, rfl, hn, .inr ⟨g, 0, rfl, ?_, fun i hi => ?_⟩⟩
  ·rcases Nat.lt_or_ge g w.heap.size with h | h
   ·exact h
   ·rw [Array.getElem?_eq_none h] at hg; cases hg
  ·have hx : cur[0 + i]? = some (.int .i64 (zs.getD i 0)) := by
    have this : (cur.toList.take (n * 1))[i]? = (zs.map (Value.int .i64))[i]? := by rw [ht]
    rw [List.getElem?_take, if_pos (by omega)] at this
    rw [Nat.zero_add, ← Array.getElem?_toList, this]
    simp [List.getD, hi]
   simp only [World.cell?, hg]
   exact hx
end
section
open Go.RowKit
structure Rn where
 c : Int
 t : Int
 fs : Int
 ft : Int
 l : Int
 p : Int
 e : Int
 d : Bool
 m : Bool
 tl : Int
 tu : Int
 td : Int
structure Phs where
 on : Bool
 min : Int
 gap : Int
 max : Int
 top : Int
 step : Int
 yel : Int
 red : Int
 walk : Int
 blinks : Int
 recl : Int
 lock : Bool
 rest : Bool
structure Cu where
 st : Bool
 en : Bool
 he : Bool
 pu : Bool
 pr : Bool
 ho : Bool
 ea : Bool
 cu : Bool
structure Det where
 ph : Int
 on : Nat
 off : Nat
 dl : Nat
 ex : Nat
 mon : Int
 mof : Int
structure Rl where
 bars : Int
 clr : Int
 dwl : Int
 ext : Int
 dly : Int
 grn : Int
 foot : Int
 hold : Int
 stay : Int
 most : Int
 lim : Int
structure Bus where
 set : Int
 lock : Int
structure Tab where
 ph : Nat → Phs
 gr : List (List Int × List Int)
 cf : Nat → Int
 de : List Det
 ra : List Rl
 bu : List Bus
 ext : Int
 bud : Int
 start : Int
 rev : Int
 least : Int
 fl : Nat → Int
 win : Int
 share : Int
def cy (p : Phs) : List Value := [.bool p.on, .int .i64 p.min, .int .i64 p.gap, .int .i64 p.max, .int .i64 p.top, .int .i64 p.step, .int .i64 p.yel, .int .i64 p.red, .int .i64 p.walk, .int .i64 p.blinks, .int .i64 p.recl, .bool p.lock, .bool p.rest]
def aQ (d : Det) : List Value := [.int .i64 d.ph, .float .f64 d.on, .float .f64 d.off, .float .f64 d.dl, .float .f64 d.ex, .int .i64 d.mon, .int .i64 d.mof]
def dq (r : Rl) : List Value := [.int .i64 r.bars, .int .i64 r.clr, .int .i64 r.dwl, .int .i64 r.ext, .int .i64 r.dly, .int .i64 r.grn, .int .i64 r.foot, .int .i64 r.hold, .int .i64 r.stay, .int .i64 r.most, .int .i64 r.lim]
def dm (b : Bus) : List Value := [.int .i64 b.set, .int .i64 b.lock]
def ah (t : Tab) (g d r b : Value) (i : Nat) : Value :=
 if i < 104 then (cy (t.ph (i / 13))).getD (i % 13) undef
 else if i = 104 then g
 else if i < 113 then .int .i64 (t.cf (i - 105))
 else if i = 113 then d
 else if i = 114 then r
 else if i = 115 then b
 else if i = 116 then .int .i64 t.ext
 else if i = 117 then .int .i64 t.bud
 else if i = 118 then .int .i64 t.start
 else if i = 119 then .int .i64 t.rev
 else if i = 120 then .int .i64 t.least
 else if i < 129 then .int .i64 (t.fl (i - 121))
 else if i = 129 then .int .i64 t.win
 else .int .i64 t.share
def aS (n : Nat) (f : Nat → Value) : Array Value := Array.ofFn (n := n) fun i => f i.val
theorem aE (n : Nat) (f : Nat → Value) : (aS n f).size = n := by simp [aS]
theorem ab (n : Nat) (f : Nat → Value) (i : Nat) (h : i < n) : (aS n f)[i]? = some (f i) := by simp [aS, h]
theorem gY {C : Array Value} {n : Nat} {f : Nat → Value} (hs : C.size = n) (h : ∀ i, i < n → C[i]? = some (f i)) : C = aS n f := by
 refine Array.ext (by rw [aE, hs]) fun i h1 h2 => ?_
 have := h i (by omega)
 rw [Array.getElem?_eq_getElem h1] at this
 rw [Option.some.inj this]
 simp [aS]
theorem tx (t : Tab) (g d r b : Value) (p j : Nat) (hp : p < 8) (hj : j < 13) : ah t g d r b (13 * p + j) = (cy (t.ph p)).getD j undef := by
 unfold ah
 rw [if_pos (by omega), show (13 * p + j) / 13 = p by omega, show (13 * p + j) % 13 = j by omega]
theorem tz (t : Tab) (g d r b : Value) (p : Nat) (hp : p < 8) : ah t g d r b (105 + p) = .int .i64 (t.cf p) := by
 unfold ah
 rw [if_neg (by omega), if_neg (by omega), if_pos (by omega), show 105 + p - 105 = p by omega]
theorem rM (t : Tab) (g d r b : Value) (p : Nat) (hp : p < 8) : ah t g d r b (121 + p) = .int .i64 (t.fl p) := by
 unfold ah
 rw [if_neg (by omega), if_neg (by omega), if_neg (by omega), if_neg (by omega), if_neg (by omega), if_neg (by omega), if_neg (by omega), if_neg (by omega), if_neg (by omega), if_neg (by omega), if_neg (by omega), if_pos (by omega), show 121 + p - 121 = p by omega]
end
section
open Go.RowKit
section
variable {P : Program}
theorem oI {m m1 m2 : Machine} (h1 : Steps P m m1) (h2 : Steps P m m2) (e1 : ∀ m', step P m1 ≠ .next m') (e2 : ∀ m', step P m2 ≠ .next m') : m1 = m2 := by
 obtain ⟨n1, h1⟩ := h1
 obtain ⟨n2, h2⟩ := h2
 have key : ∀ (a b : Nat) (x y : Machine), runN P a m = .next x → runN P b m = .next y → (∀ m', step P x ≠ .next m') → a ≤ b → x = y := by
  intro a b x y hx hy ex hab
  obtain ⟨d, rfl⟩ := Nat.exists_eq_add_of_le hab
  rw [runN_add, hx] at hy
  cases d with
  | zero => simpa [runN] using hy
  | succ d =>
   simp only [runN] at hy
   cases hs : step P x with
   | next m' => exact absurd hs (ex m')
   | ended o w => rw [hs] at hy; cases hy
 rcases Nat.le_total n1 n2 with h | h
 ·exact key _ _ _ _ h1 h2 e1 h
 ·exact (key _ _ _ _ h2 h1 e2 h).symm
def lS : Oper := { op := .move (.const undef), dst := some 0, type := 0, pos := "", guard := none, after := #[] }
def bM (P : Program) (v : Value) (l : List Nat) : Frame := { fn := P.funcs.size, kind := .report, mode := .returning, defers := [], tmps := #[v], todo := [.inRegion #[lS] l] }
theorem kM (v : Value) (w : World) (m' : Machine) : step P (lone (bM P v []) [] w) ≠ .next m' := by
 have : step P (lone (bM P v []) [] w) = .ended (.stuck "report: Error or String returned no string" "") w := step_lone_ended (by simp [stepG, unwind, doReturn, bM])
 rw [this]; simp
theorem pM {f : FuncId} {args : Array Value} {w : World} {v1 v2 : Value} {R1 R2 : World → Prop}
  (h1 : Calls P f args w fun e w' => e = .returned v1 ∧ R1 w') (h2 : Calls P f args w fun e w' => e = .returned v2 ∧ R2 w') : v1 = v2 := by
 obtain ⟨e1, w1, fr1, ⟨rfl, _⟩, c1, f1, l1⟩ := h1 [bM P undef [0]]
 obtain ⟨e2, w2, fr2, ⟨rfl, _⟩, c2, f2, l2⟩ := h2 [bM P undef [0]]
 have s1 := step_leave_returned (c := bM P undef [0]) (cs := []) l1
 have s2 := step_leave_returned (c := bM P undef [0]) (cs := []) l2
 have q1 : (bM P undef [0]).finish v1 = bM P v1 [] := by simp [bM, Frame.finish, lS]
 have q2 : (bM P undef [0]).finish v2 = bM P v2 [] := by simp [bM, Frame.finish, lS]
 rw [q1] at s1
 rw [q2] at s2
 have := oI (Steps.trans c1 (.one s1)) (Steps.trans c2 (.one s2)) (kM _ _) (kM _ _)
 simp [lone, bM] at this
 exact this.2
variable {ops : Array Oper} {md : Region.Mode} {W : World}
def vH (P : Program) (W : World) (o : Oper) (a : Act) (next : Act → Prop) : Prop := ∃ v, (∀ w, Below W.heap.size W w → o.quietAt P a (fun w' => Below w.heap.size w w') w v) ∧ next (a.put o.dst v)
def yV (P : Program) (ops : Array Oper) (W : World) (Q : Act → Prop) : List Oper → Act → Prop
 | [], a => Q a
 | o :: rest, a => if Region.wanted o (yielded ops a.tmps) then vH P W o a (yV P ops W Q rest) else yV P ops W Q rest (a.put o.dst undef)
def zA (P : Program) (ops : Array Oper) (W : World) (i : Nat) (K : Act → Prop) (a : Act) : Prop :=
 match ops[i]? with
 | none => K a
 | some o => if Region.wanted o (yielded ops a.tmps) then vH P W o a K else K (a.put o.dst undef)
theorem zH {o : Oper} {a : Act} {C C' : World → Prop} {w : World} {v : Value} (h : ∀ w', C w' → C' w') (hh : o.quietAt P a C w v) : o.quietAt P a C' w v := by
 unfold Oper.quietAt at *
 generalize (execOp a.eval o).run P w = r at *
 cases r with
 | ok n w' =>
  cases n <;> simp only [Oper.quietUpon] at hh ⊢ <;> try exact hh
  exact ⟨hh.1, hh.2.mono fun _ _ ⟨he, hw⟩ => ⟨he, h _ hw⟩⟩
 | halt x w' => exact hh
theorem iM {o : Oper} {a : Act} {C C' : World → Prop} {w : World} {v v' : Value} (h : o.quietAt P a C w v) (h' : o.quietAt P a C' w v') : v = v' := by
 unfold Oper.quietAt at *
 generalize (execOp a.eval o).run P w = r at *
 cases r with
 | ok n w' =>
  cases n <;> simp only [Oper.quietUpon] at h h'
  case value u => exact h.2.symm.trans h'.2
  case skip => exact h.2.trans h'.2.symm
  case enter f args => exact pM h.2 h'.2
 | halt x w' => simp only [Oper.quietUpon] at h
theorem zi {Q : Up W → Act → Prop} : ∀ (l : List Oper) (a : Act),
  (∀ X : Up W, wpQuiet P ops (fun w' => ∃ u : Up X.w, w' = u.w) (Q X) l a) → yV P ops W (fun a' => ∀ X : Up W, Q X a') l a
 | [], a, h => h
 | o :: l, a, h => by
  unfold yV
  by_cases hw : Region.wanted o (yielded ops a.tmps) = true
  ·simp only [hw, if_true]
   have h' : ∀ X : Up W, o.quiet P a (fun w' => ∃ u : Up X.w, w' = u.w) (wpQuiet P ops (fun w' => ∃ u : Up X.w, w' = u.w) (Q X) l) := fun X => by
    have := h X
    unfold wpQuiet at this
    simpa only [hw, if_true] using this
   obtain ⟨v, hv, _⟩ := h' ⟨W, Below.refl _ _⟩
   have hv' : ∀ X : Up W, (∀ w, (∃ u : Up X.w, w = u.w) → o.quietAt P a (fun w' => ∃ u : Up X.w, w' = u.w) w v) ∧ wpQuiet P ops (fun w' => ∃ u : Up X.w, w' = u.w) (Q X) l (a.put o.dst v) := fun X => by
    obtain ⟨v', h1, h2⟩ := h' X
    have : v' = v := iM (h1 X.w ⟨⟨X.w, Below.refl _ _⟩, rfl⟩) (hv X.w ⟨X, rfl⟩)
    subst this
    exact ⟨h1, h2⟩
   refine ⟨v, fun w hB => ?_, zi l _ fun X => (hv' X).2⟩
   refine zH ?_ ((hv' ⟨w, hB⟩).1 w ⟨⟨w, Below.refl _ _⟩, rfl⟩)
   rintro _ ⟨u, rfl⟩
   exact u.bel
  ·simp only [hw]
   refine zi l _ fun X => ?_
   have := h X
   unfold wpQuiet at this
   rw [if_neg hw] at this
   exact this
theorem yY {C : World → Prop} {Q Q' : Act → Prop} (h : ∀ a, Q a → Q' a) : ∀ (l : List Oper) (a : Act), wpQuiet P ops C Q l a → wpQuiet P ops C Q' l a
 | [], _, hh => h _ hh
 | o :: l, a, hh => by
  unfold wpQuiet at *
  split
  ·rename_i hw; rw [if_pos hw] at hh; exact Oper.quiet_mono (fun a' => yY h l a') hh
  ·rename_i hw; rw [if_neg hw] at hh; exact yY h l _ hh
def gg (P : Program) (ops : Array Oper) (W : World) (o : Oper) (v : Value) (a : Act) : Prop :=
 (Region.wanted o (yielded ops a.tmps) = true ∧ ∀ w, Below W.heap.size W w → o.quietAt P a (fun w' => Below w.heap.size w w') w v) ∨
 (Region.wanted o (yielded ops a.tmps) = false ∧ v = undef)
theorem gg.qOp {i : Nat} {o : Oper} {v : Value} {a : Act} (hi : ops[i]? = some o) (hy : gg P ops W o v a) {K : Act → Prop} (h : K (a.put o.dst v)) : zA P ops W i K a := by
 unfold zA
 simp only [hi]
 rcases hy with ⟨hw, hv⟩ | ⟨hw, rfl⟩
 ·simp only [hw, if_true]; exact ⟨v, hv, h⟩
 ·simp only [hw, Bool.false_eq_true, if_false]; exact h
theorem gg.of_same {o : Oper} {v : Value} {a a' : Act} (hy : gg P ops W o v a) (he : execOp a'.eval o = execOp a.eval o)
  (hw : Region.wanted o (yielded ops a'.tmps) = Region.wanted o (yielded ops a.tmps)) : gg P ops W o v a' := by
 unfold gg Oper.quietAt at *
 rw [he, hw]
 exact hy
theorem aaD {i : Nat} {o : Oper} {a : Act} {K : Act → Prop} (hi : ops[i]? = some o) (h : zA P ops W i K a) : ∃ v, gg P ops W o v a ∧ K (a.put o.dst v) := by
 unfold zA at h
 simp only [hi] at h
 by_cases hw : Region.wanted o (yielded ops a.tmps) = true
 ·simp only [hw, if_true] at h
  obtain ⟨v, h1, h2⟩ := h
  exact ⟨v, .inl ⟨hw, h1⟩, h2⟩
 ·simp only [hw] at h
  exact ⟨undef, .inr ⟨by simpa using hw, rfl⟩, h⟩
theorem acY {i : Nat} {a : Act} {K K' : Act → Prop} (h : ∀ a, K a → K' a) (hh : zA P ops W i K a) : zA P ops W i K' a := by
 unfold zA at *
 split
 ·exact h _ (by simpa [*] using hh)
 ·rename_i o ho
  simp only [ho] at hh
  split
  ·rename_i hw; simp only [hw, if_true] at hh; exact let ⟨v, h1, h2⟩ := hh; ⟨v, h1, h _ h2⟩
  ·rename_i hw; simp only [hw] at hh; exact h _ hh
theorem adN {j : Nat} {oi oj : Oper} {v : Value} (hj : ops[j]? = some oj) (hap : oi.apart ops oj = true)
  (hsi : ∀ cs b, oi.op ≠ .select cs b) (hsj : ∀ cs b, oj.op ≠ .select cs b) {K : Act → Prop} {a : Act}
  (hy : gg P ops W oi v a) (h : zA P ops W j K (a.put oi.dst v)) :
  zA P ops W j (fun a' => gg P ops W oi v a' ∧ K (a'.put oi.dst v)) a := by
 obtain ⟨h1, h2, h3⟩ := Oper.apart_spec hap
 have keep : ∀ (a : Act), gg P ops W oi v a → ∀ u, gg P ops W oi v (a.put oj.dst u) := fun a hy u =>
  hy.of_same (execOp_put oi hsi a oj.dst u h3) (wanted_put oi a oj.dst u h3)
 unfold zA at *
 simp only [hj] at *
 rw [wanted_put oj a oi.dst v h1] at h
 split
 ·rename_i hw
  simp only [hw, if_true] at h
  obtain ⟨u, hu, hn⟩ := h
  refine ⟨u, fun w hw' => ?_, keep a hy u, by rw [← Act.put_comm a v u h2]; exact hn⟩
  have := hu w hw'
  unfold Oper.quietAt at *
  rwa [execOp_put oj hsj a oi.dst v h1] at this
 ·rename_i hw
  simp only [hw] at h
  exact ⟨keep a hy _, by rw [← Act.put_comm a v undef h2]; exact h⟩
def uu (P : Program) (R : Value → World → Prop) (w : World) : Result Next → Prop
 | .ok (.value u) w' => R u w' ∧ Below w.heap.size w w'
 | .ok (.enter f args) w' => Calls P f args w' fun e w'' => ∃ v, e = .returned v ∧ R v w'' ∧ Below w.heap.size w w''
 | _ => False
def xI (P : Program) (ops : Array Oper) (W : World) (R : Value → World → Prop) (o : Oper) (a : Act) : Prop :=
 Region.wanted o (yielded ops a.tmps) = true ∧ ∀ u : Up W, uu P R u.w ((execOp a.eval o).run P u.w)
theorem xI.of_same {R : Value → World → Prop} {o : Oper} {a a' : Act} (hy : xI P ops W R o a) (he : execOp a'.eval o = execOp a.eval o)
  (hw : Region.wanted o (yielded ops a'.tmps) = Region.wanted o (yielded ops a.tmps)) : xI P ops W R o a' := by
 unfold xI at *
 rw [he, hw]
 exact hy
def aah (P : Program) (md : Region.Mode) (ops : Array Oper) (W : World) (R : Value → World → Prop) (n h : Nat) (oh : Oper) (L : Value → Array Bool → Act → Prop) : Nat → Option Value → Array Bool → Act → Prop
 | 0, none, _, _ => False
 | 0, some v, listed, a => L v listed a
 | f + 1, ov, listed, a => Region.ready md ops listed ≠ [] ∧ ∀ i ∈ Region.ready md ops listed, i < n ∧
   (i = h → xI P ops W R oh a ∧ ∀ v, aah P md ops W R n h oh L f (some v) (listed.setIfInBounds i true) (a.put oh.dst v)) ∧
   (i ≠ h → zA P ops W i (aah P md ops W R n h oh L f ov (listed.setIfInBounds i true)) a)
theorem yz {R : Value → World → Prop} (hR : ∀ v w w', R v w → Below w.heap.size w w' → R v w') {n h g : Nat} {oh : Oper} (hoh : ops[h]? = some oh) {L : Value → Array Bool → Act → Prop} {Q' : Exit → Act → World → Prop}
  (hL : ∀ v listed a w, Below W.heap.size W w → R v w → L v listed a → wpAny P md ops Q' g listed a w) :
  ∀ (f : Nat) (ov : Option Value) (listed : Array Bool) (a : Act) (w : World), Below W.heap.size W w → (∀ v, ov = some v → R v w) → aah P md ops W R n h oh L f ov listed a → wpAny P md ops Q' (f + g) listed a w
 | 0, none, _, _, _, _, _, hh => hh.elim
 | 0, some v, listed, a, w, hw, hv, hh => by rw [Nat.zero_add]; exact hL v _ _ _ hw (hv v rfl) hh
 | f + 1, ov, listed, a, w, hw, hv, hh => by
  rw [show f + 1 + g = (f + g) + 1 by omega]
  refine ⟨fun h0 => absurd h0 hh.1, fun i hi => ?_⟩
  obtain ⟨_, h1, h2⟩ := hh.2 i hi
  by_cases hih : i = h
  ·obtain ⟨⟨hwant, hodd⟩, hnext⟩ := h1 hih
   subst hih
   have ho := hodd ⟨w, hw⟩
   unfold wpOp
   simp only [hoh, hwant, if_true]
   refine .inl ?_
   unfold Oper.wp
   have ho' : uu P R w ((execOp a.eval oh).run P w) := ho
   generalize (execOp a.eval oh).run P w = r at *
   cases r with
   | ok nx w' =>
    cases nx <;> simp only [uu] at ho' <;> simp only [Oper.upon]
    case value u =>
     obtain ⟨hr, hb⟩ := ho'
     exact yz hR hoh hL f (some u) _ _ _ (hw.trans (hb.mono hw.size)) (by rintro _ ⟨⟩; exact hr) (hnext u)
    case enter f' args =>
     exact ho'.mono fun e w'' ⟨v, he, hr, hb⟩ => by
      subst he
      exact yz hR hoh hL f (some v) _ _ _ (hw.trans (hb.mono hw.size)) (by rintro _ ⟨⟩; exact hr) (hnext v)
   | halt x w' => simp only [uu] at ho'
  ·have h3 := h2 hih
   unfold zA at h3
   unfold wpOp
   split
   ·rename_i ho; simp only [ho] at h3
    exact yz hR hoh hL f ov _ _ _ hw hv h3
   ·rename_i o ho
    simp only [ho] at h3
    split
    ·rename_i hwt
     simp only [hwt, if_true] at h3
     refine .inl ?_
     obtain ⟨v, hq, hn⟩ := h3
     refine Oper.wp_of_quiet (C := fun w' => Below w.heap.size w w') (K := aah P md ops W R n h oh L f ov (listed.setIfInBounds i true)) (Below.refl _ _) (fun a' w' hw' hk => ?_) ⟨v, fun w2 hw2 => ?_, hn⟩
     ·exact yz hR hoh hL f ov _ _ _ (hw.trans (hw'.mono hw.size)) (fun v hv' => hR _ _ _ (hv v hv') hw') hk
     ·exact zH (fun w3 hw3 => hw2.trans (hw3.mono hw2.size)) (hq w2 (hw.trans (hw2.mono hw.size)))
    ·rename_i hwt; simp only [hwt] at h3
     exact yz hR hoh hL f ov _ _ _ hw hv h3
theorem abV {R : Value → World → Prop} {n h i : Nat} {oh oi : Oper} {v : Value} {L : Value → Array Bool → Act → Prop} (hoh : ops[h]? = some oh) (hi : ops[i]? = some oi) (hih : i ≠ h) (hsel : ∀ (j : Nat) (o : Oper) cs b, ops[j]? = some o → o.op ≠ .select cs b)
  (hs : Region.sinkB md ops n = true) (hc : Region.chainB md ops n = true) (hn : n < ops.size) (hin : i < n)
  (hdone : ∀ v listed a, L v listed a → ∀ j ∈ Region.ready md ops listed, n ≤ j) :
  ∀ (f : Nat) (ov : Option Value) (listed : Array Bool) (a : Act), HeadInv md ops n listed →
   (∀ j oj, ops[j]? = some oj → j ≠ i → listed.getD j true = false → (∀ e ∈ oj.after, Region.binds md e = true → e.on ≠ i) → oi.apart ops oj = true) →
   i ∈ Region.ready md ops listed → gg P ops W oi v a →
   aah P md ops W R n h oh L f ov (listed.setIfInBounds i true) (a.put oi.dst v) → aah P md ops W R n h oh L (f + 1) ov listed a := by
 intro f
 induction f with
 | zero =>
  intro ov listed a inv _ hr hy H
  have hun := (mem_ready.1 hr).1
  refine ⟨fun h => (by rw [h] at hr; cases hr), fun j hj => ?_⟩
  have hjn : j < n := by
   rcases Nat.lt_or_ge j n with h | h
   ·exact h
   ·exact absurd hj (tail_waits hs hc hn inv _ i rfl hin hun j h)
  cases ov with
  | none => exact H.elim
  | some u =>
   refine ⟨hjn, fun hjh => ?_, fun hjh => ?_⟩
   ·have hji : j ≠ i := fun h => hih (h ▸ hjh)
    have := hdone _ _ _ H j (ready_mono hj hji)
    omega
   ·by_cases hji : j = i
    ·subst hji; exact hy.qOp hi H
    ·have := hdone _ _ _ H j (ready_mono hj hji)
     omega
 | succ f ih =>
  intro ov listed a inv hfree hr hy H
  have hun := (mem_ready.1 hr).1
  refine ⟨fun h => (by rw [h] at hr; cases hr), fun j hj => ?_⟩
  have hjn : j < n := by
   rcases Nat.lt_or_ge j n with h | h
   ·exact h
   ·exact absurd hj (tail_waits hs hc hn inv _ i rfl hin hun j h)
  have hnot : ∀ oj, ops[j]? = some oj → ∀ e ∈ oj.after, Region.binds md e = true → e.on ≠ i := fun oj hoj e he hb heq => by
   obtain ⟨hjun, oj', hoj', hall⟩ := mem_ready.1 hj
   rw [hoj] at hoj'
   obtain rfl := Option.some.inj hoj'
   have h1 := hall e he hb
   rw [heq, getD_both hun] at h1
   cases h1
  have hjun := (mem_ready.1 hj).1
  have hfree' : ∀ k ok, ops[k]? = some ok → k ≠ i → (listed.setIfInBounds j true).getD k true = false →
    (∀ e ∈ ok.after, Region.binds md e = true → e.on ≠ i) → oi.apart ops ok = true := fun k ok hk hki hun hno => by
   refine hfree k ok hk hki ?_ hno
   by_cases hjk : j = k
   ·subst hjk; exact hjun
   ·rw [getD_set_ne true hjk] at hun; exact hun
  refine ⟨hjn, fun hjh => ?_, fun hjh => ?_⟩
  ·subst hjh
   have hji : j ≠ i := fun h => hih h.symm
   obtain ⟨h1, h2⟩ := (H.2 j (ready_mono hj hji)).2.1 rfl
   obtain ⟨p1, p2, p3⟩ := Oper.apart_spec (hfree j oh hoh hji hjun (hnot oh hoh))
   refine ⟨h1.of_same (execOp_put oh (fun cs b => hsel j oh cs b hoh) a oi.dst v p1).symm (wanted_put oh a oi.dst v p1).symm, fun u => ?_⟩
   refine ih (some u) (listed.setIfInBounds j true) _ (inv.set hj hjn) hfree' (ready_mono hr (Ne.symm hji)) (hy.of_same (execOp_put oi (fun cs b => hsel i oi cs b hi) a oh.dst u p3) (wanted_put oi a oh.dst u p3)) ?_
   rw [Array.setIfInBounds_comm _ _ hji, ← Act.put_comm a v u p2]
   exact h2 u
  ·by_cases hji : j = i
   ·subst hji; exact hy.qOp hi H
   ·have h1 := (H.2 j (ready_mono hj hji)).2.2 hjh
    obtain ⟨_, oj, hoj, hall⟩ := mem_ready.1 hj
    have h2 := adN hoj (hfree j oj hoj hji hjun (hnot oj hoj)) (fun cs b => hsel i oi cs b hi) (fun cs b => hsel j oj cs b hoj) hy h1
    refine acY (fun a' h3 => ih ov (listed.setIfInBounds j true) a' (inv.set hj hjn) hfree' (ready_mono hr (Ne.symm hji)) h3.1 ?_) h2
    rw [Array.setIfInBounds_comm _ _ hji]
    exact h3.2
def adA (md : Region.Mode) (ops : Array Oper) (g n h : Nat) : Nat → Nat → Array Bool → Bool
 | 0, _, listed => decide (Region.ready md ops listed = [h]) && Region.seqB md ops g n (listed.setIfInBounds h true)
 | f + 1, k, listed => let i := if k < h then k else k + 1
  (Region.ready md ops listed).contains i && Region.free md ops listed i && adA md ops g n h f (k + 1) (listed.setIfInBounds i true)
theorem aa8 {R : Value → World → Prop} {n h g : Nat} {oh : Oper} {Lq : Act → Prop} {Lt : Value → Act → Prop} (hoh : ops[h]? = some oh) (hhn : h < n) (hsel : Region.noSelect ops = true) (hs : Region.sinkB md ops n = true) (hc : Region.chainB md ops n = true) (hn : n < ops.size)
  (hLq : ∀ a, Lq a → xI P ops W R oh a ∧ ∀ v, Lt v (a.put oh.dst v)) :
  ∀ (l : List Oper) (k : Nat) (listed : Array Bool) (a : Act), (∀ j, j < l.length → l[j]? = ops[if k + j < h then k + j else k + j + 1]?) → k + l.length + 1 = n → HeadInv md ops n listed →
  adA md ops g n h l.length k listed = true → yV P ops W Lq l a →
  aah P md ops W R n h oh (fun v listed' a' => Region.seqB md ops g n listed' = true ∧ Lt v a') (l.length + 1) none listed a
 | [], k, listed, a, _, hk, inv, hB, hh => by
  simp only [List.length_nil, adA, Bool.and_eq_true, decide_eq_true_eq] at hB
  obtain ⟨hB1, hB2⟩ := hB
  obtain ⟨h1, h2⟩ := hLq a hh
  refine ⟨by rw [hB1]; simp, fun i hi => ?_⟩
  rw [hB1] at hi
  have : i = h := by simpa using hi
  subst this
  exact ⟨hhn, fun _ => ⟨h1, fun v => ⟨hB2, h2 v⟩⟩, fun hne => absurd rfl hne⟩
 | o :: l, k, listed, a, hl, hk, inv, hB, hh => by
  have h0 : ops[if k < h then k else k + 1]? = some o := by simpa using (hl 0 (by simp)).symm
  simp only [List.length_cons, adA, Bool.and_eq_true] at hB
  obtain ⟨⟨hr, hf⟩, hB'⟩ := hB
  have hkn : (if k < h then k else k + 1) < n := by simp only [List.length_cons] at hk; split <;> omega
  have hkh : (if k < h then k else k + 1) ≠ h := by split <;> omega
  generalize hi : (if k < h then k else k + 1) = i at *
  have hr' : i ∈ Region.ready md ops listed := by simpa using hr
  have hst : zA P ops W i (yV P ops W Lq l) a := by unfold zA; simp only [h0]; exact hh
  obtain ⟨v, hy, hK⟩ := aaD h0 hst
  exact abV hoh h0 hkh (Region.noSelect_spec hsel) hs hc hn hkn (fun v listed' a' hL => seqB_ready hL.1) (l.length + 1) none listed a inv (Region.free_spec h0 hf) hr' hy
   (aa8 hoh hhn hsel hs hc hn hLq l (k + 1) _ _ (fun j hj => by have := hl (j + 1) (by simp; omega); simpa [Nat.add_assoc, Nat.add_comm 1 j] using this) (by simp only [List.length_cons] at hk; omega) (inv.set hr' hkn) hB' hK)
def abF (md : Region.Mode) (ops : Array Oper) (n h : Nat) : Bool :=
 Region.noSelect ops && decide (n < ops.size) && decide (h < n) && Region.sinkB md ops n && Region.chainB md ops n && adA md ops (ops.size - n) n h (n - 1) 0 (Array.replicate ops.size false)
theorem ab2 {α : Type} (l : List α) (n h j : Nat) (hh : h < n) (hn : n ≤ l.length) (hj : j < ((l.take n).eraseIdx h).length) : ((l.take n).eraseIdx h)[j]? = l[if j < h then j else j + 1]? := by
 have hlen : ((l.take n).eraseIdx h).length = n - 1 := by rw [List.length_eraseIdx]; simp; split <;> omega
 rw [List.getElem?_eraseIdx]
 split
 ·rename_i hjh; rw [List.getElem?_take, if_pos (by omega)]
 ·rename_i hjh; rw [List.getElem?_take, if_pos (by omega)]
theorem zV {id : Nat} {Q : Exit → Act → World → Prop} {a : Act} {w : World} {l : List Oper} (n h : Nat) (oh : Oper) (R : Value → World → Prop) (hm : P.follows .mixedOrders = true) (hB : abF .any l.toArray n h = true)
  (hoh : l[h]? = some oh) (hR : ∀ v w w', R v w → Below w.heap.size w w' → R v w')
  (H : ∀ X : Up w, wpQuiet P l.toArray (fun w' => ∃ u : Up X.w, w' = u.w) (fun a' => xI P l.toArray w R oh a' ∧ ∀ v (u : Up w), R v u.w → wpList P l.toArray Q (l.drop n) (a'.put oh.dst v) u.w) ((l.take n).eraseIdx h) a) : (Code.region id l.toArray true).wp P Q a w := by
 simp only [abF, Bool.and_eq_true, decide_eq_true_eq] at hB
 obtain ⟨⟨⟨⟨⟨hsel, hn⟩, hhn⟩, hs⟩, hc⟩, hlex⟩ := hB
 have hn' : n < l.length := by simpa using hn
 have htl : ((l.take n).eraseIdx h).length = n - 1 := by rw [List.length_eraseIdx]; simp; split <;> omega
 have hdl : (l.drop n).length = l.toArray.size - n := by simp
 have inv0 : HeadInv .any l.toArray n (Array.replicate l.toArray.size false) :=
  ⟨by simp, fun j oj _ hl => (by rw [getD_replicate_false] at hl; cases hl), fun t _ ht => getD_in (by simpa using ht) (getD_replicate_false _ _)⟩
 have H' := zi _ _ H
 have H2 := aa8 (md := .any) (g := l.toArray.size - n) (R := R) (oh := oh) (h := h) (Lt := fun v a' => ∀ u : Up w, R v u.w → wpList P l.toArray Q (l.drop n) a' u.w) (by simpa using hoh) hhn hsel hs hc hn
  (fun a' hq => ⟨(hq ⟨w, Below.refl _ _⟩).1, fun v u hr => (hq ⟨w, Below.refl _ _⟩).2 v u hr⟩) ((l.take n).eraseIdx h) 0 _ a (fun j hj => by
   have := ab2 l n h j hhn (by omega) hj
   rw [this]; simp) (by rw [htl]; omega) inv0 (by rw [htl]; exact hlex) H'
 refine wp_region_any hm ?_
 have := yz (md := .any) (W := w) (n := n) (Q' := Q) (g := l.toArray.size - n) hR (by simpa using hoh) (fun v listed a' w' hw' hr hL => by
  have := wpAny_of_seq (md := .any) (Q' := Q) (l.drop n) n listed a' w' (fun j => by simp [List.getElem?_drop]) (by rw [hdl]; exact hL.1) (hL.2 ⟨w', hw'⟩ hr)
  rwa [hdl] at this) _ none _ _ { w with drawn := w.drawn + 1 } ((Below.refl _ w).drew) (by simp) H2
 rw [htl, show n - 1 + 1 + (l.toArray.size - n) = l.toArray.size by simp; omega] at this
 exact this
def tN (W : World) (o : Obj) (v : Value) (w : World) : Prop := ∃ q, v = .pointer (some ⟨q, 0, none⟩) ∧ W.heap.size ≤ q ∧ w.heap[q]? = some o
theorem tN.keeps {W : World} {o : Obj} (v : Value) (w w' : World) (h : tN W o v w) (hb : Below w.heap.size w w') : tN W o v w' := by
 obtain ⟨q, hv, hq, hc⟩ := h
 exact ⟨q, hv, hq, by rw [hb.block _ (Array.getElem?_eq_some_iff.1 hc).1]; exact hc⟩
theorem aq (w : World) (o : Obj) : (w.alloc o).heap[w.heap.size]? = some o := by
 have e : (w.alloc o).heap = w.heap.push o := rfl
 rw [e]; simp
theorem tN.mk {W : World} (u : Up W) (o : Obj) : tN W o (.pointer (some ⟨u.w.heap.size, 0, none⟩)) (u.w.alloc o) :=
 ⟨_, rfl, u.bel.size, aq u.w o⟩
theorem zv {id : Nat} {Q : Exit → Act → World → Prop} {a : Act} {w : World} {l : List Oper} (n h : Nat) {oh : Oper} {o : Obj} (hm : P.follows .mixedOrders = true) (hB : abF .any l.toArray n h = true)
  (hoh : l[h]? = some oh) (hg : oh.guard = none) (hal : ∀ (a : Act) (w : World), (execOp a.eval oh).run P w = .ok (.value (.pointer (some ⟨w.heap.size, 0, none⟩))) (w.alloc o))
  (H : ∀ X : Up w, wpQuiet P l.toArray (fun w' => ∃ u : Up X.w, w' = u.w) (fun a' => ∀ (q : Nat) (u : Up w), w.heap.size ≤ q → u.w.heap[q]? = some o → wpList P l.toArray Q (l.drop n) (a'.put oh.dst (.pointer (some ⟨q, 0, none⟩))) u.w) ((l.take n).eraseIdx h) a) : (Code.region id l.toArray true).wp P Q a w :=
 zV n h oh (tN w o) hm hB hoh tN.keeps fun X => yY (fun a' h' => ⟨⟨by simp [Region.wanted, hg], fun u => by rw [hal]; exact ⟨tN.mk u _, (Below.refl _ _).alloc (Nat.le_refl _) _⟩⟩, by
  rintro _ u ⟨q, rfl, hq, hc⟩; exact h' q u hq hc⟩) _ _ (H X)
theorem aV {w : World} {q : Nat} {cs : Array Value} {t : TypeId} {f : Nat × Nat} (h : w.heap[q]? = some (.cells cs t f)) (i : Nat) {v : Value} (hv : cs[i]? = some v) : w.cell? ⟨q, i, none⟩ = some v := by
 simp [World.cell?, h, hv]
theorem kJ {w : World} {q : Nat} {cs : Array Value} {t : TypeId} (h : w.heap[q]? = some (.cells cs t (0, 0))) (i : Nat) : w.frozen? ⟨q, i, none⟩ = false := by
 simp [World.frozen?, h]
theorem yR {w : World} {q : Nat} {o : Obj} (h : w.heap[q]? = some o) : LeSize (q + 1) w := ⟨(Array.getElem?_eq_some_iff.1 h).1⟩
end
theorem Up.heap {W : World} (u : Up W) (b : Nat) [h : LeSize (b + 1) W] : u.w.heap[b]? = W.heap[b]? := u.bel.block _ h.out
end
section
open Go.RowKit
def cw (p : World → Prop) : Prop := ∀ w w', p w → Below w.heap.size w w' → p w'
abbrev yu := Nat → Option (World → Prop)
def yu.inv (e : yu) (w : World) : Prop := ∀ h p, e h = some p → p w
def yu.upd (e : yu) (h : Nat) (p : World → Prop) : yu := fun i => if i = h then some p else e i
def yu.on (e : yu) (d : Nat → Bool) : yu := fun i => if d i then e i else none
def yu.stable (e : yu) : Prop := ∀ h p, e h = some p → cw p
theorem yu.inv_on {e : yu} {d : Nat → Bool} {w : World} (h : e.inv w) : (e.on d).inv w := fun i p hp => by
 unfold yu.on at hp; split at hp
 ·exact h i p hp
 ·cases hp
theorem yu.inv_stable {e : yu} (h : e.stable) : cw e.inv := fun w w' hw hb i p hp => h i p hp w w' (hw i p hp) hb
theorem yu.stable_on {e : yu} {d : Nat → Bool} (h : e.stable) : (e.on d).stable := fun i p hp => by
 unfold yu.on at hp; split at hp
 ·exact h i p hp
 ·cases hp
theorem yu.stable_upd {e : yu} {i : Nat} {p : World → Prop} (h : e.stable) (hp : cw p) : (e.upd i p).stable := fun j q hq => by
 unfold yu.upd at hq; split at hq
 ·cases hq; exact hp
 ·exact h j q hq
theorem yu.upd_on {e : yu} {i : Nat} {p : World → Prop} {d : Nat → Bool} (h : d i = false) : (e.upd i p).on d = e.on d := by
 funext j; unfold yu.on yu.upd
 by_cases hj : j = i
 ·subst hj; simp [h]
 ·simp [hj]
theorem yu.upd_comm {e : yu} {i j : Nat} {p q : World → Prop} (h : i ≠ j) : (e.upd i p).upd j q = (e.upd j q).upd i p := by
 funext k; unfold yu.upd
 by_cases h1 : k = j
 ·subst h1; simp [Ne.symm h]
 ·simp [h1]
theorem yu.inv_of_upd {e : yu} {i : Nat} {p : World → Prop} {w : World} (h0 : e i = none) (h : (e.upd i p).inv w) : e.inv w := fun j q hq => by
 refine h j q ?_
 unfold yu.upd
 rw [if_neg (fun hj => by subst hj; rw [h0] at hq; cases hq)]
 exact hq
theorem yu.inv_upd {e : yu} {i : Nat} {p : World → Prop} {w : World} (h : e.inv w) (hp : p w) : (e.upd i p).inv w := fun j q hq => by
 unfold yu.upd at hq; split at hq
 ·cases hq; exact hp
 ·exact h j q hq
theorem yu.upd_inv {e : yu} {i : Nat} {p : World → Prop} {w : World} (h : (e.upd i p).inv w) : p w := h i p (by simp [yu.upd])
def eZ (W : World) (Z : World → Prop) : Type := { u : Up W // Z u.w }
def eZ.up {W : World} {Z : World → Prop} (u : eZ W Z) : Up W := u.1
theorem eZ.z {W : World} {Z : World → Prop} (u : eZ W Z) : Z u.up.w := u.2
def eZ.step {W : World} {Z : World → Prop} (hZ : cw Z) (u : eZ W Z) (w' : World) (hb : Below u.up.w.heap.size u.up.w w') : eZ W Z := ⟨⟨w', u.up.bel.trans (hb.mono u.up.bel.size)⟩, hZ _ _ u.z hb⟩
section
variable {P : Program} {ops : Array Oper} {md : Region.Mode} {W : World}
theorem eZ.calls {f : FuncId} {args : Array Value} {Z : World → Prop} (hZ : cw Z) {u : eZ W Z} {v : Value}
  (h : Calls P f args u.up.w fun e w' => e = .returned v ∧ Below u.up.w.heap.size u.up.w w') : Calls P f args u.up.w fun e w' => e = .returned v ∧ ∃ u' : eZ W Z, w' = u'.up.w :=
 h.mono fun _ w' ⟨he, hb⟩ => ⟨he, u.step hZ w' hb, rfl⟩
theorem eZ.pure {f : FuncId} {args : Array Value} {Z : World → Prop} {u : eZ W Z} {v : Value}
  (h : Calls P f args u.up.w fun e w' => e = .returned v ∧ u.up.w = w') : Calls P f args u.up.w fun e w' => e = .returned v ∧ ∃ u' : eZ W Z, w' = u'.up.w :=
 h.mono fun _ _ ⟨he, hw⟩ => ⟨he, u, hw.symm⟩
def fE (md : Region.Mode) (ops : Array Oper) : Nat → Nat → Nat → Bool
 | 0, _, _ => false
 | f + 1, j, h => match ops[j]? with
  | none => false
  | some oj => oj.after.any fun e => Region.binds md e && (e.on == h || fE md ops f e.on h)
def adt (md : Region.Mode) (ops : Array Oper) (deps : List (Nat × Nat)) : Bool := deps.all fun x => fE md ops ops.size x.1 x.2
def mA (deps : List (Nat × Nat)) (j h : Nat) : Bool := deps.contains (j, h)
abbrev RcT := FuncId → Array Value → Value → World → Prop
def RS (P : Program) (W : World) (Rc : RcT) (s : Sem Next) (v : Value) (w : World) : Prop :=
 ∃ u : Up W, match s.run P u.w with
  | .ok (.value x) w1 => x = v ∧ Below w1.heap.size w1 w
  | .ok (.enter f args) _ => Rc f args v w
  | _ => False
theorem RS.stable {Rc : RcT} (hRc : ∀ f args v, cw (Rc f args v)) (s : Sem Next) (v : Value) : cw (RS P W Rc s v) := by
 rintro w w' ⟨u, h⟩ hb
 refine ⟨u, ?_⟩
 generalize s.run P u.w = r at *
 split at h
 ·rename_i w1; exact ⟨h.1, h.2.trans (hb.mono h.2.size)⟩
 ·exact hRc _ _ _ _ _ h hb
 ·exact h
def aao (P : Program) (Rc : RcT) (w : World) : Result Next → Prop
 | .ok (.value u) w' => Below w.heap.size w w'
 | .ok (.enter f args) w' => w' = w ∧ Calls P f args w fun e w'' => ∃ v, e = .returned v ∧ Rc f args v w'' ∧ Below w.heap.size w w''
 | _ => False
def kx (P : Program) (ops : Array Oper) (W : World) (Rc : RcT) (I : World → Prop) (o : Oper) (a : Act) : Prop :=
 Region.wanted o (yielded ops a.tmps) = true ∧ ∀ u : Up W, I u.w → aao P Rc u.w ((execOp a.eval o).run P u.w)
theorem kx.of_same {Rc : RcT} {I : World → Prop} {o : Oper} {a a' : Act} (hy : kx P ops W Rc I o a) (he : execOp a'.eval o = execOp a.eval o)
  (hw : Region.wanted o (yielded ops a'.tmps) = Region.wanted o (yielded ops a.tmps)) : kx P ops W Rc I o a' := by
 unfold kx at *
 rw [he, hw]
 exact hy
theorem kx.some {Rc : RcT} {I : World → Prop} {o : Oper} {a : Act} (h : kx P ops W Rc I o a) (u : Up W) (hu : I u.w) : ∃ v, ∃ u' : Up W, Below u.w.heap.size u.w u'.w ∧ RS P W Rc (execOp a.eval o) v u'.w := by
 have ho := h.2 u hu
 generalize hr : (execOp a.eval o).run P u.w = r at ho
 cases r with
 | ok nx w' =>
  cases nx <;> simp only [aao] at ho
  case value x => exact ⟨x, ⟨w', u.bel.trans (ho.mono u.bel.size)⟩, ho, u, by rw [hr]; exact ⟨rfl, Below.refl _ _⟩⟩
  case enter f args =>
   obtain ⟨rfl, hc⟩ := ho
   obtain ⟨_, w2, _, ⟨v, rfl, hv, hb⟩, _⟩ := hc []
   exact ⟨v, ⟨w2, u.bel.trans (hb.mono u.bel.size)⟩, hb, u, by rw [hr]; exact hv⟩
 | halt x w' => simp only [aao] at ho
def sQ (P : Program) (W : World) (I : World → Prop) (o : Oper) (a : Act) (next : Act → Prop) : Prop :=
 ∀ Z : World → Prop, cw Z → (∀ w, Z w → I w) → Nonempty (eZ W Z) → o.quiet P a (fun w' => ∃ u : eZ W Z, w' = u.up.w) next
def gP (P : Program) (ops : Array Oper) (W : World) (deps : List (Nat × Nat)) (e : yu) (i : Nat) (K : Act → Prop) (a : Act) : Prop :=
 match ops[i]? with
 | none => K a
 | some o => if Region.wanted o (yielded ops a.tmps) then sQ P W (e.on (mA deps i)).inv o a K else K (a.put o.dst undef)
def bC (P : Program) (ops : Array Oper) (W : World) (I : World → Prop) (o : Oper) (v : Value) (a : Act) : Prop :=
 (Region.wanted o (yielded ops a.tmps) = true ∧ ∀ Z : World → Prop, cw Z → (∀ w, Z w → I w) → ∀ u : eZ W Z, o.quietAt P a (fun w' => ∃ u : eZ W Z, w' = u.up.w) u.up.w v) ∨
 (Region.wanted o (yielded ops a.tmps) = false ∧ v = undef)
theorem bC.qOp {deps : List (Nat × Nat)} {e : yu} {i : Nat} {o : Oper} {v : Value} {a : Act} (hi : ops[i]? = some o) (hy : bC P ops W (e.on (mA deps i)).inv o v a) {K : Act → Prop} (h : K (a.put o.dst v)) : gP P ops W deps e i K a := by
 unfold gP
 simp only [hi]
 rcases hy with ⟨hw, hv⟩ | ⟨hw, rfl⟩
 ·simp only [hw, if_true]
  exact fun Z h1 h2 _ => ⟨v, fun w => by rintro ⟨u, rfl⟩; exact hv Z h1 h2 u, h⟩
 ·simp only [hw, Bool.false_eq_true, if_false]; exact h
theorem bC.of_same {I : World → Prop} {o : Oper} {v : Value} {a a' : Act} (hy : bC P ops W I o v a) (he : execOp a'.eval o = execOp a.eval o)
  (hw : Region.wanted o (yielded ops a'.tmps) = Region.wanted o (yielded ops a.tmps)) : bC P ops W I o v a' := by
 unfold bC Oper.quietAt at *
 rw [he, hw]
 exact hy
theorem bC.less {I I' : World → Prop} {o : Oper} {v : Value} {a : Act} (hy : bC P ops W I o v a) (h : ∀ w, I' w → I w) : bC P ops W I' o v a := by
 rcases hy with ⟨hw, hv⟩ | ⟨hw, rfl⟩
 ·exact .inl ⟨hw, fun Z h1 h2 => hv Z h1 fun w hz => h w (h2 w hz)⟩
 ·exact .inr ⟨hw, rfl⟩
theorem bC.one {I : World → Prop} (hI : cw I) {o : Oper} {v v' : Value} {a : Act} (u : Up W) (hu : I u.w) (h : bC P ops W I o v a) (h' : bC P ops W I o v' a) : v = v' := by
 rcases h with ⟨hw, hv⟩ | ⟨hw, rfl⟩
 ·rcases h' with ⟨_, hv'⟩ | ⟨hw', _⟩
  ·exact iM (hv I hI (fun _ h => h) ⟨u, hu⟩) (hv' I hI (fun _ h => h) ⟨u, hu⟩)
  ·rw [hw] at hw'; cases hw'
 ·rcases h' with ⟨hw', _⟩ | ⟨_, h⟩
  ·rw [hw] at hw'; cases hw'
  ·exact h.symm
theorem dP {deps : List (Nat × Nat)} {e : yu} (he : e.stable) (hne : ∃ u : Up W, e.inv u.w) {i : Nat} {o : Oper} {a : Act} {K : Act → Prop} (hi : ops[i]? = some o) (h : gP P ops W deps e i K a) : ∃ v, bC P ops W (e.on (mA deps i)).inv o v a ∧ K (a.put o.dst v) := by
 unfold gP at h
 simp only [hi] at h
 by_cases hw : Region.wanted o (yielded ops a.tmps) = true
 ·simp only [hw, if_true] at h
  obtain ⟨u0, hu0⟩ := hne
  obtain ⟨v, h1, h2⟩ := h _ (yu.inv_stable (yu.stable_on he)) (fun _ h => h) ⟨⟨u0, yu.inv_on hu0⟩⟩
  refine ⟨v, .inl ⟨hw, fun Z hZ hI u => ?_⟩, h2⟩
  obtain ⟨v', h3, _⟩ := h Z hZ hI ⟨u⟩
  have e1 := h3 _ ⟨u, rfl⟩
  have e2 := h1 u.up.w ⟨⟨u.up, hI _ u.z⟩, rfl⟩
  have : v' = v := iM e1 e2
  subst this
  exact e1
 ·simp only [hw] at h
  exact ⟨undef, .inr ⟨by simpa using hw, rfl⟩, h⟩
theorem qf {deps : List (Nat × Nat)} {e : yu} {i : Nat} {a : Act} {K K' : Act → Prop} (h : ∀ a, K a → K' a) (hh : gP P ops W deps e i K a) : gP P ops W deps e i K' a := by
 unfold gP at *
 split
 ·exact h _ (by simpa [*] using hh)
 ·rename_i o ho
  simp only [ho] at hh
  split
  ·rename_i hw; simp only [hw, if_true] at hh; exact fun Z h1 h2 h3 => Oper.quiet_mono h (hh Z h1 h2 h3)
  ·rename_i hw; simp only [hw] at hh; exact h _ hh
def gZ (e : yu) (listed : Array Bool) : Prop := ∀ h, listed.getD h false = false → e h = none
theorem gZ.upd {e : yu} {listed : Array Bool} (h : gZ e listed) {i : Nat} (hi : i < listed.size) (p : World → Prop) : gZ (e.upd i p) (listed.setIfInBounds i true) := fun j hj => by
 unfold yu.upd
 by_cases hji : j = i
 ·subst hji; simp [hi] at hj
 ·rw [if_neg hji]; exact h j (by rw [getD_set_ne false (Ne.symm hji)] at hj; exact hj)
theorem gZ.set {e : yu} {listed : Array Bool} (h : gZ e listed) (i : Nat) : gZ e (listed.setIfInBounds i true) := fun j hj => by
 refine h j ?_
 by_cases hji : j = i
 ·subst hji
  rcases Nat.lt_or_ge j listed.size with hlt | hge
  ·simp [hlt] at hj
  ·simp [Array.getElem?_eq_none hge]
 ·rwa [getD_set_ne false (Ne.symm hji)] at hj
structure First (md : Region.Mode) (ops : Array Oper) (listed : Array Bool) (n i : Nat) (oi : Oper) : Prop where
 here : ops[i]? = some oi
 low : i < n
 free : ∀ j oj, ops[j]? = some oj → j ≠ i → listed.getD j true = false → (∀ e ∈ oj.after, Region.binds md e = true → e.on ≠ i) → oi.apart ops oj = true
 ready : i ∈ Region.ready md ops listed
theorem First.set {listed : Array Bool} {n i j : Nat} {oi : Oper} (h : First md ops listed n i oi) (hj : j ∈ Region.ready md ops listed) (hji : j ≠ i) : First md ops (listed.setIfInBounds j true) n i oi :=
 ⟨h.here, h.low, fun k ok hk hki hun hno => by
  refine h.free k ok hk hki ?_ hno
  by_cases hjk : j = k
  ·subst hjk; exact (mem_ready.1 hj).1
  ·rw [getD_set_ne true hjk] at hun; exact hun, ready_mono h.ready (Ne.symm hji)⟩
theorem First.apart {listed : Array Bool} {n i j : Nat} {oi oj : Oper} (h : First md ops listed n i oi) (hj : j ∈ Region.ready md ops listed) (hji : j ≠ i) (hoj : ops[j]? = some oj) : oi.apart ops oj = true := by
 refine h.free j oj hoj hji (mem_ready.1 hj).1 fun e he hb heq => ?_
 obtain ⟨_, oj', hoj', hall⟩ := mem_ready.1 hj
 rw [hoj] at hoj'
 obtain rfl := Option.some.inj hoj'
 have h1 := hall e he hb
 rw [heq, getD_both (mem_ready.1 h.ready).1] at h1
 cases h1
theorem mX {e : yu} {j : Nat} {p : World → Prop} {d : Nat → Bool} (h0 : e j = none) {w : World} (h : ((e.upd j p).on d).inv w) : (e.on d).inv w := fun i q hq => by
 refine h i q ?_
 unfold yu.on at *
 split
 ·rename_i hd
  rw [if_pos hd] at hq
  unfold yu.upd
  rw [if_neg (fun hj => by subst hj; rw [h0] at hq; cases hq)]
  exact hq
 ·rename_i hd; rw [if_neg hd] at hq; cases hq
theorem ti {deps : List (Nat × Nat)} {e : yu} {j : Nat} {oi oj : Oper} {v : Value} {I : World → Prop} (hj : ops[j]? = some oj) (hap : oi.apart ops oj = true)
  (hsi : ∀ cs b, oi.op ≠ .select cs b) (hsj : ∀ cs b, oj.op ≠ .select cs b) {K : Act → Prop} {a : Act}
  (hy : bC P ops W I oi v a) (h : gP P ops W deps e j K (a.put oi.dst v)) :
  gP P ops W deps e j (fun a' => bC P ops W I oi v a' ∧ K (a'.put oi.dst v)) a := by
 obtain ⟨h1, h2, h3⟩ := Oper.apart_spec hap
 have keep : ∀ (a : Act), bC P ops W I oi v a → ∀ u, bC P ops W I oi v (a.put oj.dst u) := fun a hy u =>
  hy.of_same (execOp_put oi hsi a oj.dst u h3) (wanted_put oi a oj.dst u h3)
 unfold gP at *
 simp only [hj] at *
 rw [wanted_put oj a oi.dst v h1] at h
 split
 ·rename_i hw
  simp only [hw, if_true] at h
  intro Z hZ hI hz
  obtain ⟨u, hu, hn⟩ := h Z hZ hI hz
  refine ⟨u, fun w hw' => ?_, keep a hy u, by rw [← Act.put_comm a v u h2]; exact hn⟩
  have := hu w hw'
  unfold Oper.quietAt at *
  rwa [execOp_put oj hsj a oi.dst v h1] at this
 ·rename_i hw
  simp only [hw] at h
  exact ⟨keep a hy _, by rw [← Act.put_comm a v undef h2]; exact h⟩
end
end
section
open Go.RowKit
class IsBlk (w : World) (b : Nat) (C : outParam (Array Value)) (t : outParam TypeId) : Prop where
 out : w.heap[b]? = some (.cells C t)
class Apart (a b : Nat) : Prop where
 out : a ≠ b
def kk (C : Array Value) : Nat → List Value → Array Value
 | _, [] => C
 | o, v :: r => kk (C.setIfInBounds o v) (o + 1) r
theorem jH : ∀ (vs : List Value) (C : Array Value) (o : Nat), (kk C o vs).size = C.size
 | [], _, _ => rfl
 | v :: r, C, o => by rw [kk, jH r]; simp
theorem ji : ∀ (vs : List Value) (C : Array Value) (o i : Nat), (kk C o vs)[i]? = if o ≤ i ∧ i < o + vs.length ∧ i < C.size then vs[i - o]? else C[i]?
 | [], C, o, i => by rw [kk, if_neg (by simp; omega)]
 | v :: r, C, o, i => by
  rw [kk, ji r, Array.getElem?_setIfInBounds]
  simp only [Array.size_setIfInBounds, List.length_cons]
  by_cases h1 : o + 1 ≤ i ∧ i < o + 1 + r.length ∧ i < C.size
  ·rw [if_pos h1, if_pos ⟨by omega, by omega, h1.2.2⟩]
   rw [show i - o = (i - (o + 1)) + 1 by omega]; simp
  ·rw [if_neg h1]
   by_cases h2 : o = i
   ·subst h2
    by_cases h3 : o < C.size
    ·rw [if_pos rfl, if_pos h3, if_pos ⟨by omega, by omega, h3⟩]; simp
    ·rw [if_pos rfl, if_neg h3, if_neg (by omega)]; simp; omega
   ·rw [if_neg h2, if_neg (by omega)]
theorem ao {w : World} {b : Nat} {C : Array Value} {t : TypeId} (h : w.heap[b]? = some (.cells C t)) (o : Nat) (v : Value) : (w.setCell ⟨b, o, none⟩ v).heap[b]? = some (.cells (C.setIfInBounds o v) t) := by
 simp only [World.setCell, Array.getElem?_modify, if_true]
 rw [h]; rfl
theorem ap : ∀ (vs : List Value) {w : World} {b : Nat} {C : Array Value} {t : TypeId} (h : w.heap[b]? = some (.cells C t)) (o : Nat), (w.setCells b o vs).heap[b]? = some (.cells (kk C o vs) t)
 | [], _, _, _, _, h, _ => h
 | v :: r, w, b, C, t, h, o => by rw [World.setCells, kk]; exact ap r (ao h o v) (o + 1)
theorem ar : ∀ (vs : List Value) {w : World} {b k : Nat} (o : Nat), k ≠ b → (w.setCells b o vs).heap[k]? = w.heap[k]?
 | [], _, _, _, _, _ => rfl
 | v :: r, w, b, k, o, h => by rw [World.setCells, ar r (o + 1) h]; exact Below.heap_setCell _ _ _ _ h
theorem aY : ∀ (vs : List Value) (w : World) (b o : Nat), (w.setCells b o vs).heap.size = w.heap.size
 | [], _, _, _ => rfl
 | v :: r, w, b, o => by rw [World.setCells, aY r]; simp [World.setCell]
theorem al {B : Nat} {a : World} : ∀ (vs : List Value) {w : World} {b : Nat} (o : Nat), Below B a w → B ≤ b → Below B a (w.setCells b o vs)
 | [], _, _, _, h, _ => h
 | v :: r, w, b, o, h, hb => by rw [World.setCells]; exact al r (o + 1) (h.setCell (p := ⟨b, o, none⟩) hb v) hb
instance (w : World) (b : Nat) (C : Array Value) (t : TypeId) [h : SizeIs b w] : IsBlk (w.alloc (.cells C t)) b C t := ⟨by rw [h.out]; exact aq _ _⟩
instance (w : World) (b : Nat) (o : Obj) (C : Array Value) (t : TypeId) [h : IsBlk w b C t] : IsBlk (w.alloc o) b C t := ⟨by rw [Below.heap_alloc _ _ _ (Array.getElem?_eq_some_iff.1 h.out).1]; exact h.out⟩
instance (w : World) (b i : Nat) (v : Value) (C : Array Value) (t : TypeId) [h : IsBlk w b C t] : IsBlk (w.setCell ⟨b, i, none⟩ v) b (C.setIfInBounds i v) t := ⟨ao h.out i v⟩
instance (w : World) (b k i : Nat) (v : Value) (C : Array Value) (t : TypeId) [h : IsBlk w b C t] [n : Apart b k] : IsBlk (w.setCell ⟨k, i, none⟩ v) b C t := ⟨by rw [Below.heap_setCell _ _ _ _ n.out]; exact h.out⟩
instance (w : World) (b i : Nat) (vs : List Value) (C : Array Value) (t : TypeId) [h : IsBlk w b C t] : IsBlk (w.setCells b i vs) b (kk C i vs) t := ⟨ap vs h.out i⟩
instance (w : World) (b k i : Nat) (vs : List Value) (C : Array Value) (t : TypeId) [h : IsBlk w b C t] [n : Apart b k] : IsBlk (w.setCells k i vs) b C t := ⟨by rw [ar vs i n.out]; exact h.out⟩
instance (w : World) (b : Nat) (C : Array Value) (t : TypeId) [h : IsBlk w b C t] : IsBlk w.drew b C t := ⟨h.out⟩
instance (W : World) (b : Nat) (u : Up W) (C : Array Value) (t : TypeId) [h : IsBlk W b C t] : IsBlk u.w b C t := ⟨by rw [u.bel.block _ (Array.getElem?_eq_some_iff.1 h.out).1]; exact h.out⟩
instance (b : Nat) (w : World) (k o : Nat) (vs : List Value) [h : LeSize b w] : LeSize b (w.setCells k o vs) := ⟨by have := h.out; rw [aY]; exact this⟩
instance (b : Nat) (w : World) (k o : Nat) (vs : List Value) [h : SizeIs b w] : SizeIs b (w.setCells k o vs) := ⟨by have := h.out; rw [aY]; exact this⟩
theorem IsBlk.le {w : World} {b : Nat} {C : Array Value} {t : TypeId} (h : IsBlk w b C t) : LeSize (b + 1) w := ⟨(Array.getElem?_eq_some_iff.1 h.out).1⟩
theorem IsBlk.cell {w : World} {b : Nat} {C : Array Value} {t : TypeId} [h : IsBlk w b C t] (i : Nat) : w.cell? ⟨b, i, none⟩ = C[i]? := by
 cases hc : C[i]? with
 | none => simp [World.cell?, h.out, hc]
 | some v => exact aV h.out i hc
theorem IsBlk.frozen {w : World} {b : Nat} {C : Array Value} {t : TypeId} [h : IsBlk w b C t] (i : Nat) : w.frozen? ⟨b, i, none⟩ = false := kJ h.out i
theorem gi {w : World} {b : Nat} {C : Array Value} {t : TypeId} (h : w.heap[b]? = some (.cells C t)) (o : Nat) (cs : List Value) (hc : ∀ j, j < cs.length → C[o + j]? = cs[j]?) : w.rangeAt b o cs := fun j v hv => by
 have hj := (List.getElem?_eq_some_iff.1 hv).1
 exact aV h _ (by rw [hc j hj]; exact hv)
theorem qP {w : World} {b : Nat} {C : Array Value} {t : TypeId} (h : w.heap[b]? = some (.cells C t)) (o n : Nat) (hn : o + n ≤ C.size) : w.there b o n := fun j hj =>
 ⟨by rw [aV h (o + j) (Array.getElem?_eq_getElem (by omega))]; rfl, kJ h _⟩
section
variable {P : Program} {ops : Array Oper} {op : Oper} {rest : List Oper} {a : Act} {w : World} {Q : Exit → Act → World → Prop}
theorem ax (ty : TypeId) (d : TypeDesc) {x : Operand} {b : Nat} {C : Array Value} {t : TypeId} (hgd : op.guard = none) (ho : op.op = .load ty x) (hx : a.eval x = .pointer (some ⟨b, 0, none⟩)) [hb : IsBlk w b C t]
  (hu : P.underlying ty = some d) (hd : d.isRow = true) (hi : (P.info? ty).map (·.size) = some C.size) (h : wpList P ops Q rest (a.put op.dst (.agg C)) w) : wpList P ops Q (op :: rest) a w := by
 refine wpList_load_mid hgd ty x ho b 0 hx C.toList d (gi hb.out 0 _ fun j hj => by simp) hu hd (by rw [hi]; simp) ?_
 simpa using h
theorem ac (ty : TypeId) {x y : Operand} {b o : Nat} {C : Array Value} {t : TypeId} {cs : Array Value} (hgd : op.guard = none) (ho : op.op = .store ty x y) (hx : a.eval x = .pointer (some ⟨b, o, none⟩)) (hy : a.eval y = .agg cs) [hb : IsBlk w b C t]
  (hn : o + cs.size ≤ C.size) (hi : (P.info? ty).map (·.size) = some cs.size) (h1 : cs.all (·.oneCell') = true) (h : wpList P ops Q rest (a.put op.dst undef) (w.setCells b o cs.toList)) : wpList P ops Q (op :: rest) a w :=
 wpList_store_mid hgd ty x y ho b o cs hx hy (qP hb.out o _ hn) hi h1 h
end
theorem px {P : Program} {t : TypeId} {v : Value} (h : (P.info? t).map (·.zero) = some (some v)) (w : World) : (zeroValue t).run P w = .ok v w := by
 cases hq : P.info? t with
 | none => simp [hq] at h
 | some i =>
  have hz : i.zero = some v := by simpa [hq] using h
  simp [zeroValue, typeInfo, hq, hz, go_sem]
end
section
open Go.RowKit
theorem gu {W : World} {K : Act → Prop} {o : Oper} {a : Act} {x : Operand} {ty : TypeId} {ptr v : Value} (ho : o.op = .load ty x) (hx : a.eval x = ptr)
  (hrun : ∀ u : Up W, Sem.run Tryz.prog (Instr.loadAt ty ptr) u.w = .ok v u.w) (hk : K (a.put o.dst v)) : o.quiet Tryz.prog a (fun w' => ∃ u : Up W, w' = u.w) K := by
 refine ⟨v, ?_, hk⟩
 rintro w ⟨u, rfl⟩
 have e := hrun u
 simp only [Oper.quietAt, execOp, ho, hx]
 generalize Instr.loadAt ty ptr = L at e ⊢
 simp [go_sem, e, Oper.quietUpon]
theorem lx {W : World} {Z : World → Prop} {K : Act → Prop} {op : Oper} {a : Act} {x : Operand} {ty : TypeId} {b o : Nat} {v : Value} (ho : op.op = .load ty x) (hx : a.eval x = .pointer (some ⟨b, o, none⟩))
  (hrun : ∀ u : Up W, Sem.run Tryz.prog (Instr.loadAt ty (.pointer (some ⟨b, o, none⟩))) u.w = .ok v u.w) (hk : K (a.put op.dst v)) : op.quiet Tryz.prog a (fun w' => ∃ u : eZ W Z, w' = u.up.w) K := by
 refine ⟨v, ?_, hk⟩
 rintro w ⟨u, rfl⟩
 have e := hrun u.up
 simp only [Oper.quietAt, execOp, ho, hx]
 generalize Instr.loadAt ty (Value.pointer (some ⟨b, o, none⟩)) = L at e ⊢
 simp [go_sem, e, Oper.quietUpon]
theorem au {ops : Array Oper} {rest : List Oper} {op : Oper} {a : Act} {w : World} {Q : Exit → Act → World → Prop} {x : Operand} {ty : TypeId} {ptr v : Value} (hgd : op.guard = none) (ho : op.op = .load ty x) (hx : a.eval x = ptr)
  (hrun : Sem.run Tryz.prog (Instr.loadAt ty ptr) w = .ok v w) (h : wpList Tryz.prog ops Q rest (a.put op.dst v) w) : wpList Tryz.prog ops Q (op :: rest) a w := by
 refine wpList_plain hgd fun _ hK => ?_
 unfold Oper.wp execOp
 simp only [ho, hx]
 generalize Instr.loadAt ty ptr = L at hrun ⊢
 simp [go_sem, hrun]
 exact hK _ _ h
theorem ky {W : World} {K : Act → Prop} {op : Oper} {a : Act} {x : Operand} {ty : TypeId} {b o : Nat} {v : Value} (ho : op.op = .load ty x) (hx : a.eval x = .pointer (some ⟨b, o, none⟩))
  (hrun : ∀ u : Up W, Sem.run Tryz.prog (Instr.loadAt ty (.pointer (some ⟨b, o, none⟩))) u.w = .ok v u.w) (hk : K (a.put op.dst v)) : op.quiet Tryz.prog a (fun w' => ∃ u : Up W, w' = u.w) K :=
 gu ho hx hrun hk
theorem cR {ops : Array Oper} {rest : List Oper} {op : Oper} {a : Act} {w : World} {Q : Exit → Act → World → Prop} {x : Operand} {ty : TypeId} {b o : Nat} {v : Value} (hgd : op.guard = none) (ho : op.op = .load ty x) (hx : a.eval x = .pointer (some ⟨b, o, none⟩))
  (hrun : Sem.run Tryz.prog (Instr.loadAt ty (.pointer (some ⟨b, o, none⟩))) w = .ok v w) (h : wpList Tryz.prog ops Q rest (a.put op.dst v) w) : wpList Tryz.prog ops Q (op :: rest) a w :=
 au hgd ho hx hrun h
end
section
open Go.ChangeShapes Go.WideShapes Go.ChangeAt Go.RowKit
def bB (w : World) (a : Option Addr) (k len : Nat) (V : Nat → Nat → Value) : Prop :=
 len = 0 ∨ ∃ b off, a = some ⟨b, off, none⟩ ∧ b < w.heap.size ∧ ∀ i, i < len → ∀ j, j < k → w.cell? ⟨b, off + i * k + j, none⟩ = some (V i j)
theorem bB.below {B : Nat} {w w' : World} {a : Option Addr} {k len : Nat} {V : Nat → Nat → Value} (h : bB w a k len V) (hb : Below B w w') (hB : w.heap.size ≤ B) : bB w' a k len V := by
 rcases h with h | ⟨b, off, ha, hlt, hc⟩
 ·exact .inl h
 ·exact .inr ⟨b, off, ha, Nat.lt_of_lt_of_le hlt hb.size, fun i hi j hj => by rw [hb.cell (p := ⟨b, off + i * k + j, none⟩) (by simp; omega)]; exact hc i hi j hj⟩
theorem bB.up {w : World} {a : Option Addr} {k len : Nat} {V : Nat → Nat → Value} (u : Up w) (h : bB w a k len V) : bB u.w a k len V := h.below u.bel (Nat.le_refl _)
theorem bB.congr {w : World} {a : Option Addr} {k len : Nat} {V V' : Nat → Nat → Value} (h : bB w a k len V) (he : ∀ i, i < len → ∀ j, j < k → V i j = V' i j) : bB w a k len V' := by
 rcases h with h | ⟨b, off, ha, hlt, hc⟩
 ·exact .inl h
 ·exact .inr ⟨b, off, ha, hlt, fun i hi j hj => by rw [hc i hi j hj, he i hi j hj]⟩
theorem bB.part {w : World} {a : Option Addr} {k len : Nat} {V : Nat → Nat → Value} (h : bB w a k len V) {b off : Nat} (ha : a = some ⟨b, off, none⟩) (lo n : Nat) (hn : lo + n ≤ len) :
  bB w (some ⟨b, off + lo * k, none⟩) k n fun i j => V (lo + i) j := by
 rcases h with h | ⟨b', off', ha', hlt, hc⟩
 ·exact .inl (by omega)
 ·rw [ha] at ha'; cases ha'
  exact .inr ⟨b, _, rfl, hlt, fun i hi j hj => by
   have := hc (lo + i) (by omega) j hj
   rw [show off + lo * k + i * k + j = off + (lo + i) * k + j by rw [Nat.add_mul]; omega]; exact this⟩
theorem bB.range {w : World} {b off k len : Nat} {V : Nat → Nat → Value} (h : bB w (some ⟨b, off, none⟩) k len V) {i : Nat} (hi : i < len) (cs : List Value) (hl : cs.length = k) (hc : ∀ j, j < k → cs[j]? = some (V i j)) :
  w.rangeAt b (off + i * k) cs := by
 rcases h with h | ⟨b', off', ha', hlt, hc'⟩
 ·omega
 ·cases ha'
  intro j v hv
  have hj : j < k := by rw [← hl]; exact (List.getElem?_eq_some_iff.1 hv).1
  rw [hc' i hi j hj, ← hc j hj, hv]
section
variable {α : Type} {C : α → List Value} {e : TypeId} {k : Nat}
def aD (e : TypeId) (k : Nat) (C : α → List Value) (w : World) (base : Nat) (v : Value) (xs : List α) : Prop := w.ownsRow base e k v xs.length (xs.flatMap C)
theorem aD.nil (w : World) (base : Nat) : aD e k C w base (.slice none 0 0) [] := ⟨by simp, .inl ⟨rfl, rfl⟩⟩
theorem aD.below {w w' : World} {base : Nat} {v : Value} {xs : List α} (h : aD e k C w base v xs) (hb : Below w.heap.size w w') : aD e k C w' base v xs := by
 obtain ⟨h1, h⟩ := h
 refine ⟨h1, ?_⟩
 rcases h with h | ⟨g, cap, cur, e, hg, hc, h3, h4, h5, h6⟩
 ·exact .inl h
 ·exact .inr ⟨g, cap, cur, e, hg, by rw [hb.block _ (Array.getElem?_eq_some_iff.1 hc).1]; exact hc, h3, h4, h5, h6⟩
theorem aD.up {W : World} {base : Nat} {v : Value} {xs : List α} (h : aD e k C W base v xs) (u : Up W) : aD e k C u.w base v xs := h.below u.bel
theorem aD.alloc {w : World} {base : Nat} {v : Value} {xs : List α} (h : aD e k C w base v xs) (o : Obj) : aD e k C (w.alloc o) base v xs := h.below ((Below.refl _ _).alloc (Nat.le_refl _) o)
theorem aD.slice {w : World} {base : Nat} {v : Value} {xs : List α} (h : aD e k C w base v xs) : ∃ a n cap, v = .slice a n cap := by
 rcases h.2 with ⟨rfl, _⟩ | ⟨g, cap, cur, rfl, _⟩
 ·exact ⟨_, _, _, rfl⟩
 ·exact ⟨_, _, _, rfl⟩
theorem aD.ne {w : World} {base b : Nat} {v : Value} {xs : List α} (h : aD e k C w base v xs) (hb : b < base) : v.ownBlock ≠ some b := by
 rcases h.2 with ⟨rfl, _⟩ | ⟨g, cap, cur, rfl, hg, _⟩
 ·simp [Value.ownBlock]
 ·simp [Value.ownBlock]; omega
theorem aD.kept {w w' : World} {base : Nat} {v : Value} {xs : List α} {row : Option Nat} (h : aD e k C w base v xs) (hg : w.grownBy w' row) (hne : v.ownBlock = none ∨ v.ownBlock ≠ row) : aD e k C w' base v xs := World.ownsRow.kept h hg hne
theorem aD.less {w : World} {base base' : Nat} {v : Value} {xs : List α} (h : aD e k C w base v xs) (hb : base' ≤ base) : aD e k C w base' v xs := by
 obtain ⟨h1, h⟩ := h
 refine ⟨h1, ?_⟩
 rcases h with h | ⟨g, cap, cur, e, hg, hr⟩
 ·exact .inl h
 ·exact .inr ⟨g, cap, cur, e, by omega, hr⟩
theorem aD.grown {B : Nat} {w0 wr w1 : World} {o : Obj} {v : Value} {xs : List α} {base : Nat} (hown : aD e k C wr base v xs) (hb : Below B w0 wr) (hB : B ≤ wr.heap.size) (hbase : B ≤ base) (hg : (wr.alloc o).grownBy w1 v.ownBlock) : Below B w0 w1 := by
 refine (hb.alloc hB o).grown hg (by simp; omega) (fun j hj => ?_)
 rcases hown.2 with ⟨rfl, _⟩ | ⟨g, cap, cur, rfl, hg, _⟩
 ·simp [Value.ownBlock] at hj
 ·simp [Value.ownBlock] at hj; omega
theorem aD.grown0 {B : Nat} {w0 wr w1 : World} {v : Value} {xs : List α} {base : Nat} (hown : aD e k C wr base v xs) (hb : Below B w0 wr) (hB : B ≤ wr.heap.size) (hbase : B ≤ base) (hg : wr.grownBy w1 v.ownBlock) : Below B w0 w1 := by
 refine hb.grown hg (by omega) (fun j hj => ?_)
 rcases hown.2 with ⟨rfl, _⟩ | ⟨g, cap, cur, rfl, hg, _⟩
 ·simp [Value.ownBlock] at hj
 ·simp [Value.ownBlock] at hj; omega
theorem mM {k : Nat} (hC : ∀ x, (C x).length = k) : ∀ (xs : List α) (i j : Nat) (x : α), xs[i]? = some x → j < k → (xs.flatMap C)[i * k + j]? = (C x)[j]?
 | [], i, j, x, h, _ => by simp at h
 | y :: ys, 0, j, x, h, hj => by
  simp at h; subst h
  simp only [List.flatMap_cons, Nat.zero_mul, Nat.zero_add]
  rw [List.getElem?_append_left (by rw [hC]; exact hj)]
 | y :: ys, i + 1, j, x, h, hj => by
  simp only [List.flatMap_cons]
  rw [List.getElem?_append_right (by rw [hC, Nat.add_mul]; omega), hC, show (i + 1) * k + j - k = i * k + j by rw [Nat.add_mul]; omega]
  exact mM hC ys i j x (by simpa using h) hj
theorem aD.opened (hC : ∀ x, (C x).length = k) {w : World} {base : Nat} {v : Value} {xs : List α} (h : aD e k C w base v xs) :
  ∃ a cap, v = .slice a xs.length cap ∧ xs.length ≤ cap ∧ cap ≤ maxLen ∧ wN w a cap ∧ bB w a k xs.length fun i j => ((xs[i]?.bind fun x => (C x)[j]?).getD undef) := by
 obtain ⟨hl, h⟩ := h
 rcases h with ⟨rfl, h0⟩ | ⟨g, cap, cur, rfl, hg, hc, h3, h4, h5, h6⟩
 ·exact ⟨none, 0, by rw [h0], by omega, by simp [maxLen], .inl ⟨rfl, rfl⟩, .inl h0⟩
 ·have hlt : g < w.heap.size := (Array.getElem?_eq_some_iff.1 hc).1
  refine ⟨_, cap, rfl, h3, h4, .inr ⟨g, 0, rfl, hlt⟩, .inr ⟨g, 0, rfl, hlt, fun i hi j hj => ?_⟩⟩
  have hx : xs[i]? = some xs[i] := List.getElem?_eq_getElem hi
  have hij : i * k + j < xs.length * k := by
   have : (i + 1) * k ≤ xs.length * k := Nat.mul_le_mul_right k (by omega)
   rw [Nat.add_mul] at this; omega
  have h7 : (cur.toList.take (xs.length * k))[i * k + j]? = (C xs[i])[j]? := by rw [h6]; exact mM hC xs i j _ hx hj
  rw [List.getElem?_take, if_pos hij] at h7
  have h8 : cur[i * k + j]? = (C xs[i])[j]? := by rw [← Array.getElem?_toList]; exact h7
  have h9 : (C xs[i])[j]? = some ((C xs[i])[j]'(by rw [hC]; exact hj)) := List.getElem?_eq_getElem (by rw [hC]; exact hj)
  rw [Nat.zero_add, aV hc _ (by rw [h8, h9])]
  simp [hx, h9]
theorem acK (w : World) (l : List Value) {t : TypeId} : ∀ j u, l[j]? = some u → (w.alloc (.cells l.toArray t)).cell? ⟨w.heap.size, j, none⟩ = some u := fun j u h => by
 rw [World.cell?_alloc_at _ _ _ _ rfl]; simpa using h
theorem bo {P : Program} (hC : ∀ x, (C x).length = k) (bytes : Nat) (z : Value) (t : TypeId) (hu : P.underlying t = some (.slice e)) (hinfo : (P.info? e).map (fun i => (i.zero, i.size, i.bytes)) = some (some z, k, bytes)) (hz : z.cells.size = k) (hk : 0 < k) (hby : bytes ≤ 1000)
  {ops : Array Oper} {rest : List Oper} {o : Oper} {a : Act} {w : World} {Q : Exit → Act → World → Prop} (hgd : o.guard = none) (s x : Operand)
  (ho : o.op = .call { callee := .builtin .append, args := #[s, x], argTypes := #[t, t] })
  (base : Nat) {v : Value} {xs : List α} (hs : a.eval s = v) (hown : aD e k C w base v xs)
  {b : Nat} (y : α) (h1 : ∀ u ∈ C y, u.oneCell' = true) (hx : a.eval x = .slice (some ⟨b, 0, none⟩) 1 1) (hc : ∀ j u, (C y)[j]? = some u → w.cell? ⟨b, j, none⟩ = some u) (hn : xs.length ≤ 1000000) (hbase : base ≤ w.heap.size)
  (h : ∀ v' w', aD e k C w' base v' (xs ++ [y]) → w.grownBy w' v.ownBlock → wpList P ops Q rest (a.put o.dst v') w') : wpList P ops Q (o :: rest) a w := by
 obtain ⟨i0, hinfo, hz0, hz1, hz2⟩ := info_parts hinfo
 refine wpList_append_own w hgd s x t ho base e i0 z k bytes hu hinfo hz0 hz1 hz2 hz hk v xs.length _ hs hown ⟨b, 0, none⟩ 1 1 (C y) hx (by rw [hC, Nat.one_mul]) ?_ h1 ?_ ?_ hbase (fun v' w' h1 h2 _ => h v' w' ?_ h2)
 ·intro j u hj; rw [Addr.add_mid, Nat.zero_add]; exact hc j u hj
 ·unfold maxLen; omega
 ·have : (xs.length + 1) * bytes ≤ 1000001 * 1000 := Nat.mul_le_mul (by omega) hby
  omega
 ·unfold aD; simpa using h1
end
end
section
open Go.RowKit
def ak (gr : List (List Int × List Int)) (i j : Nat) : List Int := match gr[i]? with | some x => if j = 0 then x.1 else x.2 | none => []
def aF {α : Type} (C : α → List Value) (xs : List α) (i j : Nat) : Value := (xs[i]?.bind fun x => (C x)[j]?).getD undef
structure TabIn (w : World) (t : Tab) (g d r b : Value) : Prop where
 gr : ∃ a cap, ∃ H : Nat → Nat → Option Addr × Nat, g = .slice a t.gr.length cap ∧ bB w a 2 t.gr.length (fun i j => .slice (H i j).1 (ak t.gr i j).length (H i j).2) ∧ ∀ i, i < t.gr.length → ∀ j, j < 2 → bQ w (H i j).1 (ak t.gr i j)
 de : ∃ a cap, d = .slice a t.de.length cap ∧ bB w a 7 t.de.length (aF aQ t.de)
 ra : ∃ a cap, r = .slice a t.ra.length cap ∧ bB w a 11 t.ra.length (aF dq t.ra)
 bu : ∃ a cap, b = .slice a t.bu.length cap ∧ bB w a 2 t.bu.length (aF dm t.bu)
 lg : t.gr.length ≤ 8
 lr : ∀ i j, (ak t.gr i j).length ≤ 8
 ld : t.de.length ≤ 64
 la : t.ra.length ≤ 64
 lb : t.bu.length ≤ 64
theorem TabIn.below {B : Nat} {w w' : World} {t : Tab} {g d r b : Value} (h : TabIn w t g d r b) (hb : Below B w w') (hB : w.heap.size ≤ B) : TabIn w' t g d r b := by
 obtain ⟨⟨a1, c1, H, e1, r1, i1⟩, ⟨a2, c2, e2, r2⟩, ⟨a3, c3, e3, r3⟩, ⟨a4, c4, e4, r4⟩, h1, h2, h3, h4, h5⟩ := h
 exact ⟨⟨a1, c1, H, e1, r1.below hb hB, fun i hi j hj => bk.below (i1 i hi j hj) hb hB⟩, ⟨a2, c2, e2, r2.below hb hB⟩, ⟨a3, c3, e3, r3.below hb hB⟩, ⟨a4, c4, e4, r4.below hb hB⟩, h1, h2, h3, h4, h5⟩
def ag (w : World) (T : Array Value) (t : Tab) : Prop := ∃ g d r b, T = aS 131 (ah t g d r b) ∧ TabIn w t g d r b
theorem ag.below {B : Nat} {w w' : World} {T : Array Value} {t : Tab} (h : ag w T t) (hb : Below B w w') (hB : w.heap.size ≤ B) : ag w' T t := by
 obtain ⟨g, d, r, b, e, h⟩ := h
 exact ⟨g, d, r, b, e, h.below hb hB⟩
theorem ag.size {w : World} {T : Array Value} {t : Tab} (h : ag w T t) : T.size = 131 := by
 obtain ⟨g, d, r, b, rfl, _⟩ := h; exact aE _ _
theorem ag.ph {w : World} {T : Array Value} {t : Tab} (h : ag w T t) (p j : Nat) (hp : p < 8) (hj : j < 13) : T[13 * p + j]? = some ((cy (t.ph p)).getD j undef) := by
 obtain ⟨g, d, r, b, rfl, _⟩ := h
 rw [ab _ _ _ (by omega), tx _ _ _ _ _ _ _ hp hj]
theorem ag.phx {w : World} {T : Array Value} {t : Tab} (h : ag w T t) (p j : Nat) (v : Value) (hp : p < 8) (hj : j < 13) (hv : (cy (t.ph p)).getD j undef = v) : T[p * 13 + j]? = some v := by
 rw [Nat.mul_comm, h.ph p j hp hj, hv]
theorem ag.cf {w : World} {T : Array Value} {t : Tab} (h : ag w T t) (p : Nat) (hp : p < 8) : T[105 + p]? = some (.int .i64 (t.cf p)) := by
 obtain ⟨g, d, r, b, rfl, _⟩ := h
 rw [ab _ _ _ (by omega), tz _ _ _ _ _ _ hp]
theorem ag.fl {w : World} {T : Array Value} {t : Tab} (h : ag w T t) (p : Nat) (hp : p < 8) : T[121 + p]? = some (.int .i64 (t.fl p)) := by
 obtain ⟨g, d, r, b, rfl, _⟩ := h
 rw [ab _ _ _ (by omega), rM _ _ _ _ _ _ hp]
theorem du : (Tryz.prog.info? 34).map (·.size) = some 131 := by kernel_rfl
structure Spot where
 g : Nat
 k : Nat
 i : Nat
 p : Int
def aac (s : Spot) : List Value := [.int .i64 s.g, .int .i64 s.k, .int .i64 s.i, .int .i64 s.p]
def qL (p : Int) : Bool := decide (0 ≤ p) && decide (p < 8)
def za (r : List Int) (g k n : Nat) : List Spot := (List.range n).filterMap fun i => if qL (r.getD i 0) then some ⟨g, k, i, r.getD i 0⟩ else none
def gB (gr : List (List Int × List Int)) (g n : Nat) : List Spot := (List.range n).flatMap fun k => za (ak gr g k) g k (ak gr g k).length
def ja (gr : List (List Int × List Int)) (n : Nat) : List Spot := (List.range n).flatMap fun g => gB gr g 2
def io (gr : List (List Int × List Int)) : List Spot := ja gr gr.length
theorem fP (r : List Int) (g k n : Nat) : za r g k (n + 1) = za r g k n ++ (if qL (r.getD n 0) then [⟨g, k, n, r.getD n 0⟩] else []) := by
 unfold za
 rw [List.range_succ, List.filterMap_append]
 cases h : qL (r.getD n 0)
 all_goals
  rw [List.getD_eq_getElem?_getD] at h
  simp [h]
theorem gQ (gr : List (List Int × List Int)) (g n : Nat) : gB gr g (n + 1) = gB gr g n ++ za (ak gr g n) g n (ak gr g n).length := by
 unfold gB; rw [List.range_succ, List.flatMap_append]; simp
theorem fp (gr : List (List Int × List Int)) (n : Nat) : ja gr (n + 1) = ja gr n ++ gB gr n 2 := by
 unfold ja; rw [List.range_succ, List.flatMap_append]; simp
theorem aau (r : List Int) (g k n : Nat) : (za r g k n).length ≤ n := by
 unfold za; have := List.length_filterMap_le (fun i => if qL (r.getD i 0) then some (⟨g, k, i, r.getD i 0⟩ : Spot) else none) (List.range n); simpa using this
theorem zq {gr : List (List Int × List Int)} (h : ∀ i j, (ak gr i j).length ≤ 8) (g : Nat) : ∀ n, (gB gr g n).length ≤ 8 * n
 | 0 => by simp [gB]
 | n + 1 => by rw [gQ, List.length_append]; have := zq h g n; have := aau (ak gr g n) g n (ak gr g n).length; have := h g n; omega
theorem yX {gr : List (List Int × List Int)} (h : ∀ i j, (ak gr i j).length ≤ 8) : ∀ n, (ja gr n).length ≤ 16 * n
 | 0 => by simp [ja]
 | n + 1 => by rw [fp, List.length_append]; have := yX h n; have := zq h n 2; omega
theorem acS : (Tryz.prog.info? 201).map (fun i => (i.zero, i.size, i.bytes)) = some (some (.agg #[.int .i64 0, .int .i64 0, .int .i64 0, .int .i64 0]), 4, 32) := by kernel_rfl
def zw (w : World) (base : Nat) (v : Value) (xs : List Spot) : Prop := aD 201 4 aac w base v xs
theorem zR (x : Spot) : (aac x).length = 4 := rfl
theorem ac6 (x : Spot) : ∀ u ∈ aac x, u.oneCell' = true := by simp [aac, Value.oneCell']
attribute [local go_sem] IsBlk.cell
theorem abl (T : Array Value) (t : Tab) (w : World) (hT : ag w T t) :
  Calls Tryz.prog 197 #[.agg T] w fun e w' => ∃ v, e = .returned v ∧ zw w' w.heap.size v (io t.gr) ∧ Below w.heap.size w w' := by
 obtain ⟨g, d, r, b, hTe, hI⟩ := hT
 obtain ⟨ga, gcap, H, rfl, hrow, hints⟩ := hI.gr
 have lg := hI.lg
 have lr := Lib.hid hI.lr
 have t104 : T[104]? = some (.slice ga t.gr.length gcap) := by rw [hTe, ab _ _ _ (by omega)]; rfl
 have HR := Lib.hid hrow
 have HI := Lib.hid hints
 clear hrow hints hI hTe
 go_enter Tryz.func197, Tryz.ntmps197
 go_wp2
 go_loopw [3, 4] (fun l i wr => ∃ n : Nat, n ≤ t.gr.length ∧ i = .int .i64 n ∧ zw wr (w.heap.size + 1) l (ja t.gr n) ∧ Below (w.heap.size + 1) (w.alloc (.cells T 34)) wr) (fun _ i _ => t.gr.length - (intOf i).toNat)
 case atStart => exact ⟨0, Nat.zero_le _, rfl, aD.nil _ _, Below.refl _ _⟩
 case round =>
  obtain ⟨n, hn, rfl, hown, hb⟩ := hrel
  have hB := hb.size
  rw [World.size_alloc] at hB
  have iB : IsBlk wr w.heap.size T 34 := ⟨by rw [hb.block _ (by omega)]; exact aq _ _⟩
  by_cases hlt : n < t.gr.length
  ·obtain ⟨gb, goff, rfl, hgb, hgc⟩ := HR.out.resolve_left (by omega)
   have HC : Hid (∀ j, j < 2 → w.cell? ⟨gb, goff + n * 2 + j, none⟩ = some (.slice (H n j).1 (ak t.gr n j).length (H n j).2)) := Lib.hid fun j hj => hgc n hlt j hj
   clear hgc HR
   go_wp2
   go_loopw [3, 5] (fun l i wr => ∃ k : Nat, k ≤ 2 ∧ i = .int .i64 k ∧ zw wr (w.heap.size + 1) l (ja t.gr n ++ gB t.gr n k) ∧ Below (w.heap.size + 1) (w.alloc (.cells T 34)) wr) (fun _ i _ => 2 - (intOf i).toNat)
   case atStart => exact ⟨0, by omega, rfl, by simpa [gB] using hown, hb⟩
   case round =>
    clear hown hb hB iB
    obtain ⟨k, hk, rfl, hown, hb⟩ := hrel
    have hB := hb.size
    rw [World.size_alloc] at hB
    have iB : IsBlk wr w.heap.size T 34 := ⟨by rw [hb.block _ (by omega)]; exact aq _ _⟩
    by_cases hltk : k < 2
    ·have hkI : (k : Int) < 2 := by omega
     have hck : wr.cell? ⟨gb, goff + n * 2 + k, none⟩ = some (.slice (H n k).1 (ak t.gr n k).length (H n k).2) := by
      rw [hb.cell (p := ⟨gb, goff + n * 2 + k, none⟩) (by simp; omega), World.cell?_alloc_past _ _ _ (by omega)]; exact HC.out k hltk
     obtain ⟨hd, hhd⟩ : ∃ x, (H n k).1 = x := ⟨_, rfl⟩
     obtain ⟨hcp, hhc⟩ : ∃ x, (H n k).2 = x := ⟨_, rfl⟩
     obtain ⟨row, hrw⟩ : ∃ x, ak t.gr n k = x := ⟨_, rfl⟩
     have hin : bQ w hd row := by rw [← hhd, ← hrw]; exact HI.out n hlt k hltk
     have hrl : row.length ≤ 8 := by rw [← hrw]; exact lr.out n k
     rw [hhd, hhc, hrw] at hck
     have HRW := Lib.hid hrw
     have HC : Hid (w.cell? ⟨gb, goff + n * 2 + k, none⟩ = some (.slice hd row.length hcp)) := Lib.hid (by rw [← hhd, ← hhc, ← hrw]; exact HC.out k hltk)
     clear hhd hhc hrw
     go_wp2
     go_loopw [3, 6] (fun l i wr => ∃ j : Nat, j ≤ row.length ∧ i = .int .i64 j ∧ zw wr (w.heap.size + 1) l (ja t.gr n ++ gB t.gr n k ++ za row n k j) ∧ Below (w.heap.size + 1) (w.alloc (.cells T 34)) wr) (fun _ i _ => row.length - (intOf i).toNat)
     case atStart => exact ⟨0, by omega, rfl, by simpa [za] using hown, hb⟩
     case round =>
      clear hown hb hB iB hck
      obtain ⟨j, hj, rfl, hown, hb⟩ := hrel
      have hB := hb.size
      rw [World.size_alloc] at hB
      have iB : IsBlk wr w.heap.size T 34 := ⟨by rw [hb.block _ (by omega)]; exact aq _ _⟩
      have hck : wr.cell? ⟨gb, goff + n * 2 + k, none⟩ = some (.slice hd row.length hcp) := by
       rw [hb.cell (p := ⟨gb, goff + n * 2 + k, none⟩) (by simp; omega), World.cell?_alloc_past _ _ _ (by omega)]; exact HC.out
      by_cases hjl : j < row.length
      ·obtain ⟨rb, roff, rfl, hrb, hrc⟩ := hin.cell (by omega)
       have hcell : wr.cell? ⟨rb, roff + j, none⟩ = some (.int .i64 (row.getD j 0)) := by
        rw [hb.cell (p := ⟨rb, roff + j, none⟩) (by simp; omega), World.cell?_alloc_past _ _ _ (by omega)]; exact hrc j hjl
       have HS := Lib.hid (fP row n k j)
       have hlen : (ja t.gr n ++ gB t.gr n k ++ za row n k j).length ≤ 1000000 := by
        have h1 := yX lr.out n
        have h2 := zq lr.out n k
        have h3 := aau row n k j
        simp only [List.length_append]; omega
       clear hrc
       generalize row.getD j 0 = x at *
       cases hp : qL x
       ·have HS2 : Hid (za row n k (j + 1) = za row n k j) := Lib.hid (by rw [HS.out, hp]; simp)
        clear HS
        by_cases h0 : 0 ≤ x
        ·have h8 : ¬ x < 8 := by unfold qL at hp; simp at hp; omega
         clear hp
         go_wp2
         go_roundw
         case rel => exact ⟨j + 1, by omega, by go_num, by rw [HS2.out]; exact hown, hb⟩
         case measure => simp [intOf]; omega
        ·clear hp
         go_wp2
         go_roundw
         case rel => exact ⟨j + 1, by omega, by go_num, by rw [HS2.out]; exact hown, hb⟩
         case measure => simp [intOf]; omega
       ·have h0 : 0 ≤ x := by unfold qL at hp; simp at hp; omega
        have h8 : x < 8 := by unfold qL at hp; simp at hp; omega
        have HS2 : Hid (za row n k (j + 1) = za row n k j ++ [⟨n, k, j, x⟩]) := Lib.hid (by rw [HS.out, hp]; simp)
        clear HS hp
        go_wp2_with (at_builtin; refine bo zR 32 _ 230 Tryz.underlying230 acS rfl (by omega) (by omega) rfl _ _ rfl (w.heap.size + 1) rfl (hown.alloc _) (b := wr.heap.size) (⟨n, k, j, x⟩ : Spot) (ac6 _) rfl (acK _ _) hlen (by simp; omega) ?_; intro v' w1 hown' hg)
        go_roundw
        case rel => exact ⟨j + 1, by omega, by go_num, by rw [HS2.out, ← List.append_assoc]; exact hown', hown.grown hb hB (Nat.le_refl _) hg⟩
        case measure => simp [intOf]; omega
      ·obtain rfl : j = row.length := by omega
       go_wp2
       go_roundw
       case rel => exact ⟨k + 1, by omega, by go_num, by rw [gQ, HRW.out, ← List.append_assoc]; exact hown, hb⟩
       case measure => simp [intOf]; omega
    ·obtain rfl : k = 2 := by omega
     go_wp2
     go_roundw
     case rel => exact ⟨n + 1, by omega, by go_num, by rw [fp]; exact hown, hb⟩
     case measure => simp [intOf]; omega
  ·obtain rfl : n = t.gr.length := by omega
   go_wp2
   go_ret
   exact ⟨_, rfl, aD.less hown (by omega), by have hb0 := (Below.refl w.heap.size w).alloc (Nat.le_refl _) (.cells T 34); exact hb0.trans (hb.mono (by omega))⟩
end
section
open Go.RowKit
section
variable {P : Program} {ops : Array Oper} {md : Region.Mode} {C : World → Prop}
structure ClosedL (md : Region.Mode) (ops : Array Oper) (listed : Array Bool) : Prop where
 size : listed.size = ops.size
 closed : ∀ j oj, ops[j]? = some oj → listed.getD j false = true → ∀ e ∈ oj.after, Region.binds md e = true → listed.getD e.on false = true
theorem ClosedL.set {i : Nat} {listed : Array Bool} (inv : ClosedL md ops listed) (hi : i ∈ Region.ready md ops listed) : ClosedL md ops (listed.setIfInBounds i true) := by
 obtain ⟨_, oi, hoi, hall⟩ := mem_ready.1 hi
 refine ⟨by simp [inv.size], fun j oj hj hl e he hb => ?_⟩
 by_cases hij : i = j
 ·subst hij
  have : oj = oi := Option.some.inj (hj.symm.trans hoi)
  subst this
  exact getD_set_true (hall e he hb)
 ·rw [getD_set_ne false hij] at hl
  exact getD_set_true (inv.closed j oj hj hl e he hb)
theorem fN {listed : Array Bool} (inv : ClosedL md ops listed) : ∀ (f j h : Nat), listed.getD j false = true → fE md ops f j h = true → listed.getD h false = true
 | 0, _, _, _, hw => by simp [fE] at hw
 | f + 1, j, h, hl, hw => by
  unfold fE at hw
  split at hw
  ·cases hw
  ·rename_i oj hoj
   obtain ⟨e, he, hb⟩ := Array.any_eq_true'.1 hw
   simp only [Bool.and_eq_true, Bool.or_eq_true, beq_iff_eq] at hb
   have h1 := inv.closed j oj hoj hl e he hb.1
   rcases hb.2 with rfl | h2
   ·exact h1
   ·exact fN inv f e.on h h1 h2
theorem aa0 {listed : Array Bool} (inv : ClosedL md ops listed) {f j h : Nat} (hr : j ∈ Region.ready md ops listed) (hw : fE md ops f j h = true) : listed.getD h false = true := by
 cases f with
 | zero => simp [fE] at hw
 | succ f =>
  obtain ⟨_, oj, hoj, hall⟩ := mem_ready.1 hr
  unfold fE at hw
  rw [hoj] at hw
  obtain ⟨e, he, hb⟩ := Array.any_eq_true'.1 hw
  simp only [Bool.and_eq_true, Bool.or_eq_true, beq_iff_eq] at hb
  have h1 := hall e he hb.1
  rcases hb.2 with rfl | h2
  ·exact h1
  ·exact fN inv f e.on h h1 h2
inductive Reach (md : Region.Mode) (ops : Array Oper) (h : Nat) : Nat → Prop
 | here {j : Nat} {oj : Oper} {e : Edge} (hj : ops[j]? = some oj) (he : e ∈ oj.after) (hb : Region.binds md e = true) (hh : e.on = h) : Reach md ops h j
 | there {j : Nat} {oj : Oper} {e : Edge} (hj : ops[j]? = some oj) (he : e ∈ oj.after) (hb : Region.binds md e = true) (hr : Reach md ops h e.on) : Reach md ops h j
theorem Reach.listed {listed : Array Bool} (inv : ClosedL md ops listed) {h j : Nat} (hr : Reach md ops h j) : listed.getD j false = true → listed.getD h false = true := by
 induction hr with
 | here hj he hb hh => intro hl; have := inv.closed _ _ hj hl _ he hb; rwa [hh] at this
 | there hj he hb _ ih => intro hl; exact ih (inv.closed _ _ hj hl _ he hb)
theorem Reach.ready {listed : Array Bool} (inv : ClosedL md ops listed) {h j : Nat} (hr : Reach md ops h j) (hj : j ∈ Region.ready md ops listed) : listed.getD h false = true := by
 obtain ⟨_, oj, hoj, hall⟩ := mem_ready.1 hj
 cases hr with
 | here hj' he hb hh =>
  rw [hoj] at hj'; obtain rfl := Option.some.inj hj'
  have := hall _ he hb; rwa [hh] at this
 | there hj' he hb hr' =>
  rw [hoj] at hj'; obtain rfl := Option.some.inj hj'
  exact hr'.listed inv (hall _ he hb)
def kD (md : Region.Mode) (acc : List Nat) (k : Nat) : List Edge → Nat
 | [] => 0
 | e :: es => if Region.binds md e && decide (e.on < k) then (2 ^ e.on ||| acc.getD (k - 1 - e.on) 0) ||| kD md acc k es else kD md acc k es
def nj (md : Region.Mode) : List Oper → List Nat → Nat → List Nat
 | [], acc, _ => acc
 | o :: l, acc, k => nj md l (kD md acc k o.after.toList :: acc) (k + 1)
theorem jy {l : List Oper} {acc : List Nat} {k : Nat} {o : Oper} (hk : acc.length = k) (ho : l[k]? = some o) (hacc : ∀ i, i < k → ∀ h, (acc.getD (k - 1 - i) 0).testBit h = true → Reach md l.toArray h i) :
  ∀ (es : List Edge), (∀ e ∈ es, e ∈ o.after) → ∀ h, (kD md acc k es).testBit h = true → Reach md l.toArray h k
 | [], _, h, ht => by simp [kD] at ht
 | e :: es, hes, h, ht => by
  unfold kD at ht
  have hrest := jy hk ho hacc es (fun e he => hes e (by simp [he])) h
  split at ht
  ·rename_i hc
   simp only [Bool.and_eq_true, decide_eq_true_eq] at hc
   rw [Nat.testBit_or, Nat.testBit_or, Bool.or_eq_true, Bool.or_eq_true] at ht
   rcases ht with (ht | ht) | ht
   ·have : e.on = h := by
     rw [Nat.testBit_two_pow] at ht; simpa using ht
    exact .here (by simpa using ho) (hes e (by simp)) hc.1 this
   ·exact .there (by simpa using ho) (hes e (by simp)) hc.1 (hacc _ hc.2 h ht)
   ·exact hrest ht
  ·exact hrest ht
theorem jI {l : List Oper} : ∀ (r : List Oper) (acc : List Nat) (k : Nat), l.drop k = r → k ≤ l.length → acc.length = k → (∀ i, i < k → ∀ h, (acc.getD (k - 1 - i) 0).testBit h = true → Reach md l.toArray h i) →
  ∀ i, i < l.length → ∀ h, ((nj md r acc k).getD (l.length - 1 - i) 0).testBit h = true → Reach md l.toArray h i
 | [], acc, k, hr, hkl, hk, hacc, i, hi, h, ht => by
  have : l.length ≤ k := by
   have := congrArg List.length hr; simp at this; omega
  unfold nj at ht
  have : k = l.length := by omega
  subst this
  exact hacc i hi h ht
 | o :: r, acc, k, hr, hkl, hk, hacc, i, hi, h, ht => by
  have ho : l[k]? = some o := by
   have := congrArg (fun x => x[0]?) hr
   simpa [List.getElem?_drop] using this
  have hlt := (List.getElem?_eq_some_iff.1 ho).1
  unfold nj at ht
  refine jI r _ (k + 1) ?_ (by omega) (by simp [hk]) (fun j hj h ht => ?_) i hi h ht
  ·rw [← List.drop_drop, hr]; rfl
  ·by_cases hjk : j = k
   ·subst hjk
    have : j + 1 - 1 - j = 0 := by omega
    rw [this] at ht
    exact jy hk ho hacc _ (fun e he => Array.mem_toList_iff.1 he) h (by simpa using ht)
   ·have e : k + 1 - 1 - j = (k - 1 - j) + 1 := by omega
    rw [e] at ht
    exact hacc j (by omega) h (by simpa using ht)
def sx (md : Region.Mode) (l : List Oper) (ts hs : List Nat) : Bool :=
 let ms := nj md l [] 0
 let need := hs.foldr (fun h m => 2 ^ h ||| m) 0
 ts.all fun t => decide (t < l.length) && ((ms.getD (l.length - 1 - t) 0) &&& need == need)
theorem kQ : ∀ (hs : List Nat) (h : Nat), h ∈ hs → (hs.foldr (fun h m => 2 ^ h ||| m) 0).testBit h = true
 | [], h, hm => by simp at hm
 | x :: hs, h, hm => by
  rw [List.foldr_cons, Nat.testBit_or]
  rcases List.mem_cons.1 hm with rfl | hm
  ·simp
  ·rw [kQ hs h hm]; simp
theorem jF {l : List Oper} {ts hs : List Nat} (hw : sx md l ts hs = true) {t h : Nat} (ht : t ∈ ts) (hh : h ∈ hs) : Reach md l.toArray h t := by
 have h1 := List.all_eq_true.1 hw t ht
 simp only [Bool.and_eq_true, decide_eq_true_eq, beq_iff_eq] at h1
 refine jI (md := md) (l := l) l [] 0 (by simp) (Nat.zero_le _) rfl (fun i hi => by omega) t h1.1 h ?_
 have := congrArg (fun m => m.testBit h) h1.2
 simp only [Nat.testBit_and, kQ hs h hh, Bool.and_true] at this
 exact this
def zc (ops : Array Oper) (hs ts : List Nat) (listed : Array Bool) : Prop := ∀ j oj, ops[j]? = some oj → listed.getD j true = false → j ∈ hs ∨ j ∈ ts
theorem zc.set {hs ts : List Nat} {listed : Array Bool} (h : zc ops hs ts listed) (i : Nat) : zc ops hs ts (listed.setIfInBounds i true) := fun j oj hj hl => by
 refine h j oj hj ?_
 by_cases hji : i = j
 ·subst hji
  rcases Nat.lt_or_ge i listed.size with hlt | hge
  ·simp [hlt] at hl
  ·simp at hl
 ·rwa [getD_set_ne true hji] at hl
theorem eJ {hs ts : List Nat} {listed : Array Bool} (hw : ∀ (t : Nat), t ∈ ts → ∀ (h : Nat), h ∈ hs → Reach md ops h t) (inv : ClosedL md ops listed) (hc : zc ops hs ts listed)
  {i j : Nat} (hi : i ∈ hs) (hun : listed.getD i true = false) (hj : j ∈ Region.ready md ops listed) : j ∈ hs := by
 obtain ⟨hjun, oj, hoj, _⟩ := mem_ready.1 hj
 rcases hc j oj hoj hjun with h | h
 ·exact h
 ·have h2 := (hw j h i hi).ready inv hj
  rw [getD_both hun] at h2
  cases h2
def abT (P : Program) (md : Region.Mode) (ops : Array Oper) (C : World → Prop) (hs : List Nat) (L : Array Bool → Act → Prop) : Nat → Array Bool → Act → Prop
 | 0, listed, a => L listed a
 | f + 1, listed, a =>
  Region.ready md ops listed ≠ [] ∧ ∀ i ∈ Region.ready md ops listed, i ∈ hs ∧ qOp P ops C i (abT P md ops C hs L f (listed.setIfInBounds i true)) a
theorem zh {hs : List Nat} {g : Nat} {L : Array Bool → Act → Prop} {Q' : Exit → Act → World → Prop} (hL : ∀ listed a w, C w → L listed a → wpAny P md ops Q' g listed a w) :
  ∀ (f : Nat) (listed : Array Bool) (a : Act) (w : World), C w → abT P md ops C hs L f listed a → wpAny P md ops Q' (f + g) listed a w
 | 0, listed, a, w, hw, h => by rw [Nat.zero_add]; exact hL _ _ _ hw h
 | f + 1, listed, a, w, hw, h => by
  rw [show f + 1 + g = (f + g) + 1 by omega]
  exact ⟨fun h0 => absurd h0 h.1, fun i hi => wpOp_of_qOp hw (fun a' w' hw' h' => zh hL f _ a' w' hw' h') (h.2 i hi).2⟩
theorem abU {hs ts : List Nat} {i : Nat} {oi : Oper} {v : Value} {L : Array Bool → Act → Prop} (hi : ops[i]? = some oi) (hsel : ∀ (j : Nat) (o : Oper) cs b, ops[j]? = some o → o.op ≠ .select cs b)
  (hw : ∀ (t : Nat), t ∈ ts → ∀ (h : Nat), h ∈ hs → Reach md ops h t) (hin : i ∈ hs)
  (hdone : ∀ listed a, L listed a → ∀ j ∈ Region.ready md ops listed, j ∉ hs) :
  ∀ (f : Nat) (listed : Array Bool) (a : Act), ClosedL md ops listed → zc ops hs ts listed →
   (∀ j oj, ops[j]? = some oj → j ≠ i → listed.getD j true = false → (∀ e ∈ oj.after, Region.binds md e = true → e.on ≠ i) → oi.apart ops oj = true) →
   i ∈ Region.ready md ops listed → YieldsIn P ops C oi v a →
   abT P md ops C hs L f (listed.setIfInBounds i true) (a.put oi.dst v) → abT P md ops C hs L (f + 1) listed a := by
 intro f
 induction f with
 | zero =>
  intro listed a inv hcv _ hr hy H
  have hun := (mem_ready.1 hr).1
  refine ⟨fun h => (by rw [h] at hr; cases hr), fun j hj => ?_⟩
  have hjn := eJ hw inv hcv hin hun hj
  refine ⟨hjn, ?_⟩
  by_cases hji : j = i
  ·subst hji; exact hy.qOp hi H
  ·exact absurd hjn (hdone _ _ H j (ready_mono hj hji))
 | succ f ih =>
  intro listed a inv hcv hfree hr hy H
  have hun := (mem_ready.1 hr).1
  refine ⟨fun h => (by rw [h] at hr; cases hr), fun j hj => ?_⟩
  have hjn := eJ hw inv hcv hin hun hj
  refine ⟨hjn, ?_⟩
  by_cases hji : j = i
  ·subst hji; exact hy.qOp hi H
  ·have h1 := (H.2 j (ready_mono hj hji)).2
   obtain ⟨hjun, oj, hoj, hall⟩ := mem_ready.1 hj
   have hnot : ∀ e ∈ oj.after, Region.binds md e = true → e.on ≠ i := fun e he hb heq => by
    have h1 := hall e he hb
    rw [heq, getD_both hun] at h1
    cases h1
   have h2 := qOp_put hoj (hfree j oj hoj hji hjun hnot) (fun cs b => hsel i oi cs b hi) (fun cs b => hsel j oj cs b hoj) hy h1
   have hfree' : ∀ k ok, ops[k]? = some ok → k ≠ i → (listed.setIfInBounds j true).getD k true = false →
     (∀ e ∈ ok.after, Region.binds md e = true → e.on ≠ i) → oi.apart ops ok = true := fun k ok hk hki hun hno => by
    refine hfree k ok hk hki ?_ hno
    by_cases hjk : j = k
    ·subst hjk; exact hjun
    ·rw [getD_set_ne true hjk] at hun; exact hun
   refine qOp_mono (fun a' h3 => ih (listed.setIfInBounds j true) a' (inv.set hj) (hcv.set j) hfree' (ready_mono hr (Ne.symm hji)) h3.1 ?_) h2
   rw [Array.setIfInBounds_comm _ _ hji]
   exact h3.2
def fA (md : Region.Mode) (ops : Array Oper) : List Nat → Array Bool → Bool
 | [], listed => (Region.ready md ops listed).isEmpty
 | t :: ts, listed => decide (Region.ready md ops listed = [t]) && fA md ops ts (listed.setIfInBounds t true)
theorem gp {Q' : Exit → Act → World → Prop} : ∀ (l : List Oper) (ts : List Nat) (listed : Array Bool) (a : Act) (w : World), l.length = ts.length → (∀ (j : Nat) (hj : j < ts.length), l[j]? = ops[ts[j]]?) →
  fA md ops ts listed = true → wpList P ops Q' l a w → wpAny P md ops Q' l.length listed a w
 | [], [], _, _, _, _, _, hB, h => ⟨by simpa [fA] using hB, h⟩
 | [], _ :: _, _, _, _, hl, _, _, _ => by simp at hl
 | _ :: _, [], _, _, _, hl, _, _, _ => by simp at hl
 | o :: l, t :: ts, listed, a, w, hlen, hl, hB, h => by
  have h0 : ops[t]? = some o := (hl 0 (by simp)).symm
  simp only [fA, Bool.and_eq_true, decide_eq_true_eq] at hB
  refine ⟨fun h1 => (by rw [hB.1] at h1; cases h1), fun i hi => ?_⟩
  rw [hB.1] at hi
  have hik : i = t := by simpa using hi
  subst hik
  have hw : wpOp P ops Q' i (wpList P ops Q' l) a w := by unfold wpOp; simp only [h0]; exact h
  exact wpOp_mono (fun a' w' h' => gp l ts _ a' w' (by simpa using hlen) (fun j hj => by have := hl (j + 1) (by simpa using hj); simpa using this) hB.2 h') hw
def fj (md : Region.Mode) (ops : Array Oper) (k : Array Bool → Bool) : List Nat → Array Bool → Bool
 | [], listed => k listed
 | i :: is, listed => (Region.ready md ops listed).contains i && Region.free md ops listed i && fj md ops k is (listed.setIfInBounds i true)
theorem nU {ts : List Nat} {listed : Array Bool} (h : fA md ops ts listed = true) : ∀ j ∈ Region.ready md ops listed, j ∈ ts := by
 cases ts with
 | nil => intro j hj; simp only [fA, List.isEmpty_iff] at h; rw [h] at hj; cases hj
 | cons t ts =>
  intro j hj
  simp only [fA, Bool.and_eq_true, decide_eq_true_eq] at h
  rw [h.1] at hj
  have : j = t := by simpa using hj
  simp [this]
theorem aa7 {hs ts : List Nat} {Lq : Act → Prop} (hsel : Region.noSelect ops = true) (hw : ∀ (t : Nat), t ∈ ts → ∀ (h : Nat), h ∈ hs → Reach md ops h t) (hd : (ts.all fun t => !hs.contains t) = true) :
  ∀ (l : List Oper) (is : List Nat) (listed : Array Bool) (a : Act), l.length = is.length → (∀ (j : Nat) (hj : j < is.length), l[j]? = ops[is[j]]?) → (∀ i ∈ is, i ∈ hs) → ClosedL md ops listed → zc ops hs ts listed →
  fj md ops (fA md ops ts) is listed = true → wpQuiet P ops C Lq l a →
  abT P md ops C hs (fun listed' a' => fA md ops ts listed' = true ∧ Lq a') l.length listed a
 | [], [], listed, a, _, _, _, _, _, hB, h => ⟨by simpa [fj] using hB, h⟩
 | [], _ :: _, _, _, hl, _, _, _, _, _, _ => by simp at hl
 | _ :: _, [], _, _, hl, _, _, _, _, _, _ => by simp at hl
 | o :: l, i :: is, listed, a, hlen, hl, hin, inv, hcv, hB, h => by
  have h0 : ops[i]? = some o := (hl 0 (by simp)).symm
  simp only [fj, Bool.and_eq_true] at hB
  obtain ⟨⟨hr, hf⟩, hB'⟩ := hB
  have hr' : i ∈ Region.ready md ops listed := by simpa using hr
  have hst : qOp P ops C i (wpQuiet P ops C Lq l) a := by unfold qOp; simp only [h0]; exact h
  obtain ⟨v, hy, hK⟩ := yieldsIn_of_qOp h0 hst
  exact abU h0 (Region.noSelect_spec hsel) hw (hin i (by simp)) (fun listed' a' hL j hj hjs => by
    have h1 := nU hL.1 j hj
    have h2 := List.all_eq_true.1 hd j h1
    rw [List.contains_iff_mem.2 hjs] at h2
    cases h2) l.length listed a inv hcv (Region.free_spec h0 hf) hr' hy
   (aa7 hsel hw hd l is _ _ (by simpa using hlen) (fun j hj => by have := hl (j + 1) (by simpa using hj); simpa using this) (fun i hi => hin i (by simp [hi])) (inv.set hr') (hcv.set i) hB' hK)
def lJ (P : Program) (ops : Array Oper) (K : Act → Prop) : List Oper → Act → Prop
 | [], a => K a
 | o :: l, a => ∃ v, Yields P ops o v a ∧ lJ P ops K l (a.put o.dst v)
theorem fM {W : World} {Q' : Exit → Act → World → Prop} (hQ : ∀ d v c a w, Q' (.panic c) (Act.put a d v) w → Q' (.panic c) a w) (hsel : Region.noSelect ops = true) {K : Act → Prop} {kB : Array Bool → Bool} {g : Nat}
  (hK : ∀ listed a, ClosedL md ops listed → kB listed = true → K a → wpAny P md ops Q' g listed a W) :
  ∀ (l : List Oper) (is : List Nat) (listed : Array Bool) (a : Act), l.length = is.length → (∀ (j : Nat) (hj : j < is.length), l[j]? = ops[is[j]]?) → ClosedL md ops listed →
  fj md ops kB is listed = true → lJ P ops K l a → wpAny P md ops Q' (l.length + g) listed a W
 | [], [], listed, a, _, _, inv, hB, h => by simp only [List.length_nil, Nat.zero_add]; exact hK _ _ inv (by simpa [fj] using hB) h
 | [], _ :: _, _, _, hl, _, _, _, _ => by simp at hl
 | _ :: _, [], _, _, hl, _, _, _, _ => by simp at hl
 | o :: l, i :: is, listed, a, hlen, hl, inv, hB, h => by
  have h0 : ops[i]? = some o := (hl 0 (by simp)).symm
  simp only [fj, Bool.and_eq_true] at hB
  obtain ⟨⟨hr, hf⟩, hB'⟩ := hB
  have hr' : i ∈ Region.ready md ops listed := by simpa using hr
  obtain ⟨v, hy, hk⟩ := h
  have := wpAny_first (Q := Q') h0 (Region.noSelect_spec hsel) (fun c a w h => hQ _ _ c a w h) (l.length + g) listed a W (Region.free_spec h0 hf) hr' hy
   (fM hQ hsel hK l is _ _ (by simpa using hlen) (fun j hj => by have := hl (j + 1) (by simpa using hj); simpa using this) (inv.set hr') hB' hk)
  rw [show (o :: l).length + g = l.length + g + 1 by simp; omega]
  exact this
def bD (ops : List Oper) (is : List Nat) : List Oper := is.filterMap fun i => ops[i]?
def nP (md : Region.Mode) (l : List Oper) (F hs ts : List Nat) : Bool :=
 let ops := l.toArray
 Region.noSelect ops && (List.range ops.size).all (fun j => F.contains j || hs.contains j || ts.contains j) && (ts.all fun t => !hs.contains t) && sx md l ts hs
  && decide (F.length + (hs.length + ts.length) = ops.size) && (F.all fun i => decide (i < ops.size)) && (hs.all fun i => decide (i < ops.size)) && (ts.all fun i => decide (i < ops.size))
  && fj md ops (fun listed => F.all (fun i => listed.getD i false) && fj md ops (fA md ops ts) hs listed) F (Array.replicate ops.size false)
theorem cG {l : List Oper} : ∀ {is : List Nat}, (is.all fun i => decide (i < l.length)) = true → (bD l is).length = is.length ∧ ∀ (j : Nat) (hj : j < is.length), (bD l is)[j]? = l[is[j]]?
 | [], _ => ⟨rfl, fun j hj => by simp at hj⟩
 | i :: is, h => by
  simp only [List.all_cons, Bool.and_eq_true, decide_eq_true_eq] at h
  obtain ⟨h1, h2⟩ := cG h.2
  have e : bD l (i :: is) = l[i] :: bD l is := by unfold bD; rw [List.filterMap_cons, List.getElem?_eq_getElem h.1]
  rw [e]
  refine ⟨by simp [h1], fun j hj => ?_⟩
  cases j with
  | zero => simp
  | succ j => simpa using h2 j (by simpa using hj)
theorem aaB {id : Nat} {Q : Exit → Act → World → Prop} {a : Act} {w : World} {l : List Oper} (F hs ts : List Nat) (hm : P.follows .mixedOrders = true) (hB : nP .any l F hs ts = true)
  (hQ : ∀ d v c a w, Q (.panic c) (Act.put a d v) w → Q (.panic c) a w) (hC : C { w with drawn := w.drawn + 1 })
  (h : lJ P l.toArray (wpQuiet P l.toArray C (fun a' => ∀ w', C w' → wpList P l.toArray Q (bD l ts) a' w') (bD l hs)) (bD l F) a) : (Code.region id l.toArray true).wp P Q a w := by
 simp only [nP, Bool.and_eq_true, decide_eq_true_eq] at hB
 obtain ⟨⟨⟨⟨⟨⟨⟨⟨hsel, hcov⟩, hd⟩, hw⟩, hlen⟩, hF⟩, hH⟩, hT⟩, hlex⟩ := hB
 have eF := cG (l := l) (is := F) (by simpa using hF)
 have eH := cG (l := l) (is := hs) (by simpa using hH)
 have eT := cG (l := l) (is := ts) (by simpa using hT)
 refine wp_region_any hm ?_
 have inv0 : ClosedL .any l.toArray (Array.replicate l.toArray.size false) := ⟨by simp, fun j oj _ hl => (by rw [getD_replicate_false] at hl; cases hl)⟩
 have key : ∀ (listed : Array Bool) (a : Act) (w' : World), C w' → ClosedL .any l.toArray listed → (F.all (fun i => listed.getD i false) && fj .any l.toArray (fA .any l.toArray ts) hs listed) = true →
   wpQuiet P l.toArray C (fun a' => ∀ w', C w' → wpList P l.toArray Q (bD l ts) a' w') (bD l hs) a → wpAny P .any l.toArray Q (hs.length + ts.length) listed a w' := by
  intro listed a w' hw' inv hb hq
  simp only [Bool.and_eq_true] at hb
  have hcv : zc l.toArray hs ts listed := fun j oj hj hun => by
   have hlt := (Array.getElem?_eq_some_iff.1 hj).1
   have h1 := List.all_eq_true.1 hcov j (List.mem_range.2 hlt)
   simp only [Bool.or_eq_true, List.contains_iff_mem] at h1
   rcases h1 with (h1 | h1) | h1
   ·have h2 := List.all_eq_true.1 hb.1 j h1
    rw [getD_both hun] at h2; cases h2
   ·exact .inl h1
   ·exact .inr h1
  have := aa7 (md := .any) hsel (fun t ht h hh => jF hw ht hh) hd (bD l hs) hs listed a eH.1 (fun j hj => by simpa using eH.2 j hj) (fun i hi => hi) inv hcv hb.2 hq
  have := zh (Q' := Q) (g := ts.length) (fun listed' a' w' hw' hL => by
   have := gp (md := .any) (Q' := Q) (bD l ts) ts listed' a' w' eT.1 (fun j hj => by simpa using eT.2 j hj) hL.1 (hL.2 w' hw')
   rwa [eT.1] at this) _ _ _ w' hw' this
  rwa [eH.1] at this
 have := fM (md := .any) (Q' := Q) (W := { w with drawn := w.drawn + 1 }) hQ hsel (fun listed a inv hb hq => key listed a _ hC inv hb hq) (bD l F) F _ a eF.1 (fun j hj => by simpa using eF.2 j hj) inv0 hlex h
 rwa [eF.1, show F.length + (hs.length + ts.length) = l.toArray.size from hlen] at this
theorem zK {id : Nat} {Q : Exit → Act → World → Prop} {a : Act} {w : World} {l : List Oper} (F hs ts : List Nat) (hm : P.follows .mixedOrders = true) (hB : nP .any l F hs ts = true)
  (hQ : ∀ d v c a w, Q (.panic c) (Act.put a d v) w → Q (.panic c) a w)
  (h : lJ P l.toArray (wpQuiet P l.toArray (fun w' => ∃ u : Up w, w' = u.w) (fun a' => ∀ w', (∃ u : Up w, w' = u.w) → wpList P l.toArray Q (bD l ts) a' w') (bD l hs)) (bD l F) a) : (Code.region id l.toArray true).wp P Q a w :=
 aaB (C := fun w' => ∃ u : Up w, w' = u.w) F hs ts hm hB hQ ⟨⟨_, (Below.refl _ w).drew⟩, rfl⟩ h
def gh (P : Program) (ops : Array Oper) (S : World → Prop) (K : Act → Prop) : List Oper → Act → Prop
 | [], a => K a
 | o :: l, a => ∃ v, YieldsIf P ops S o v a ∧ gh P ops S K l (a.put o.dst v)
theorem cP {S : World → Prop} {K : Act → Prop} {a : Act} (h : K a) : gh P ops S K [] a := h
theorem eS {K : Act → Prop} {a : Act} (h : K a) : lJ P ops K [] a := h
end
end
section
theorem mL (x y : Int) : bits .and .i64 x y = IntKind.i64.wrap (((x % 18446744073709551616).toNat &&& (y % 18446744073709551616).toNat : Nat) : Int) := by
 rfl
theorem uz (x y : Int) : bits .or .i64 x y = IntKind.i64.wrap (((x % 18446744073709551616).toNat ||| (y % 18446744073709551616).toNat : Nat) : Int) := by
 rfl
theorem ss (x : Int) (i : Nat) (hi : i ≤ 62) : bits .and .i64 x (2 ^ i - 1) = x % 2 ^ i := by
 rw [mL]
 have hp : 2 ^ i ≤ 2 ^ 62 := Nat.pow_le_pow_right (by decide) hi
 have h1 : 1 ≤ 2 ^ i := Nat.one_le_two_pow
 have e : (((2 : Int) ^ i - 1) % 18446744073709551616).toNat = 2 ^ i - 1 := by
  have : (2 : Int) ^ i = ((2 ^ i : Nat) : Int) := by simp
  rw [this]
  generalize 2 ^ i = m at *
  omega
 rw [e, Nat.and_two_pow_sub_one_eq_mod]
 have hd : (2 : Int) ^ i ∣ 18446744073709551616 := by
  rw [show (18446744073709551616 : Int) = 2 ^ 64 by decide]
  exact ⟨2 ^ (64 - i), by rw [← Int.pow_add]; congr 1; omega⟩
 have h2 : (((x % 18446744073709551616).toNat % 2 ^ i : Nat) : Int) = x % 2 ^ i := by
  rw [Int.natCast_emod, Int.toNat_of_nonneg (Int.emod_nonneg _ (by decide))]
  simp only [Int.natCast_pow, Int.cast_ofNat_Int]
  exact Int.emod_emod_of_dvd x hd
 rw [h2]
 have h3 : (0 : Int) < 2 ^ i := Int.pow_pos (by decide)
 have h4 := Int.emod_nonneg x (Int.ne_of_gt h3)
 have h5 := Int.emod_lt_of_pos x h3
 have h6 : (2 : Int) ^ i ≤ 2 ^ 62 := by exact_mod_cast hp
 exact IntWalk.i64_in _ (by omega)
end
section
def fm (s : Int) (i : Nat) : Bool := ((s % 18446744073709551616).toNat).testBit i
def dA (f : Nat → Bool) : Nat :=
 (f 0).toNat + 2 * (f 1).toNat + 4 * (f 2).toNat + 8 * (f 3).toNat + 16 * (f 4).toNat + 32 * (f 5).toNat + 64 * (f 6).toNat + 128 * (f 7).toNat
def cj (f : Nat → Bool) : Int := (dA f : Int)
theorem dN (f : Nat → Bool) : dA f < 256 := by
 have h : ∀ b : Bool, b.toNat ≤ 1 := by decide
 have := h (f 0); have := h (f 1); have := h (f 2); have := h (f 3); have := h (f 4); have := h (f 5); have := h (f 6); have := h (f 7)
 unfold dA; omega
theorem yB (f : Nat → Bool) : 0 ≤ cj f ∧ cj f ≤ 255 := by have := dN f; unfold cj; omega
theorem nh {f g : Nat → Bool} (h : ∀ i, i < 8 → f i = g i) : dA f = dA g := by
 unfold dA
 rw [h 0 (by omega), h 1 (by omega), h 2 (by omega), h 3 (by omega), h 4 (by omega), h 5 (by omega), h 6 (by omega), h 7 (by omega)]
theorem fG {f g : Nat → Bool} (h : ∀ i, i < 8 → f i = g i) : cj f = cj g := by unfold cj; rw [nh h]
theorem qA : ∀ b0 b1 b2 b3 b4 b5 b6 b7 : Bool, ∀ i : Fin 8,
  (b0.toNat + 2 * b1.toNat + 4 * b2.toNat + 8 * b3.toNat + 16 * b4.toNat + 32 * b5.toNat + 64 * b6.toNat + 128 * b7.toNat).testBit i.1 =
   (match i with | 0 => b0 | 1 => b1 | 2 => b2 | 3 => b3 | 4 => b4 | 5 => b5 | 6 => b6 | 7 => b7) := by decide +kernel
theorem cF (f : Nat → Bool) (i : Nat) : (dA f).testBit i = (decide (i < 8) && f i) := by
 by_cases hi : i < 8
 ·have := qA (f 0) (f 1) (f 2) (f 3) (f 4) (f 5) (f 6) (f 7) ⟨i, hi⟩
  unfold dA
  rw [this]
  match i, hi with
  | 0, _ => rfl
  | 1, _ => rfl
  | 2, _ => rfl
  | 3, _ => rfl
  | 4, _ => rfl
  | 5, _ => rfl
  | 6, _ => rfl
  | 7, _ => rfl
 ·have h1 := dN f
  have h2 : dA f < 2 ^ i := Nat.lt_of_lt_of_le h1 (show 2 ^ 8 ≤ 2 ^ i from Nat.pow_le_pow_right (by decide) (by omega))
  rw [Nat.testBit_lt_two_pow h2]; simp [hi]
theorem yH (f : Nat → Bool) {i : Nat} (hi : i < 8) : fm (cj f) i = f i := by
 have := dN f
 have e : (cj f % 18446744073709551616).toNat = dA f := by unfold cj; omega
 unfold fm; rw [e, cF]; simp [hi]
theorem ad6 (s : Int) (i : Nat) : fm s i = decide ((s % 18446744073709551616).toNat / 2 ^ i % 2 = 1) := Nat.testBit_eq_decide_div_mod_eq
theorem adm {s : Int} {i : Nat} (hi : i < 8) : fm s i = decide (s / 2 ^ i % 2 = 1) := by
 rw [ad6, decide_eq_decide]
 match i, hi with
 | 0, _ => simp only [Nat.pow_zero, Int.pow_zero]; omega
 | 1, _ => simp only [show (2:Nat)^1 = 2 from rfl, show (2:Int)^1 = 2 from rfl]; omega
 | 2, _ => simp only [show (2:Nat)^2 = 4 from rfl, show (2:Int)^2 = 4 from rfl]; omega
 | 3, _ => simp only [show (2:Nat)^3 = 8 from rfl, show (2:Int)^3 = 8 from rfl]; omega
 | 4, _ => simp only [show (2:Nat)^4 = 16 from rfl, show (2:Int)^4 = 16 from rfl]; omega
 | 5, _ => simp only [show (2:Nat)^5 = 32 from rfl, show (2:Int)^5 = 32 from rfl]; omega
 | 6, _ => simp only [show (2:Nat)^6 = 64 from rfl, show (2:Int)^6 = 64 from rfl]; omega
 | 7, _ => simp only [show (2:Nat)^7 = 128 from rfl, show (2:Int)^7 = 128 from rfl]; omega
theorem su (n : Nat) : dA (fun i => n.testBit i) = n % 256 := by
 apply Nat.eq_of_testBit_eq
 intro i
 rw [cF, show 256 = 2 ^ 8 from rfl, Nat.testBit_mod_two_pow]
theorem tA (s : Int) : s % 256 = cj (fm s) := by
 unfold cj fm
 rw [su]
 omega
theorem vY (s : Int) : bits .and .i64 s 255 = cj (fm s) := by
 rw [← tA]; exact ss s 8 (by decide)
theorem yN {s : Int} (h : 0 ≤ s ∧ s ≤ 255) : cj (fm s) = s := by rw [← tA]; omega
theorem ab3 {a b : Int} (ha : 0 ≤ a ∧ a ≤ 255) (hb : 0 ≤ b ∧ b ≤ 255) (h : ∀ i, i < 8 → fm a i = fm b i) : a = b := by
 rw [← yN ha, ← yN hb]; exact fG h
theorem ki {n : Nat} (h : n < 256) : IntKind.i64.wrap (n : Int) = n := IntWalk.i64_in _ (by omega)
theorem yF {n : Nat} (h : n < 256) : ((n : Int) % 18446744073709551616).toNat = n := by omega
theorem pv (f g : Nat → Bool) : bits .or .i64 (cj f) (cj g) = cj (fun i => f i || g i) := by
 rw [uz]; unfold cj
 rw [yF (dN f), yF (dN g)]
 have e : dA f ||| dA g = dA (fun i => f i || g i) := Nat.eq_of_testBit_eq fun i => by
  rw [Nat.testBit_or, cF, cF, cF]; cases decide (i < 8) <;> simp
 rw [e, ki (dN _)]
theorem adf (f g : Nat → Bool) : bits .and .i64 (cj f) (cj g) = cj (fun i => f i && g i) := by
 rw [mL]; unfold cj
 rw [yF (dN f), yF (dN g)]
 have e : dA f &&& dA g = dA (fun i => f i && g i) := Nat.eq_of_testBit_eq fun i => by
  rw [Nat.testBit_and, cF, cF, cF]; cases decide (i < 8) <;> simp
 rw [e, ki (dN _)]
theorem sR (s : Int) (g : Nat → Bool) : bits .and .i64 s (cj g) = cj (fun i => fm s i && g i) := by
 rw [mL]
 have e1 : (cj g % 18446744073709551616).toNat = dA g := yF (dN g)
 rw [e1]
 have e : (s % 18446744073709551616).toNat &&& dA g = dA (fun i => fm s i && g i) := Nat.eq_of_testBit_eq fun i => by
  rw [Nat.testBit_and, cF, cF]; unfold fm; cases decide (i < 8) <;> simp
 rw [e, ki (dN _)]; rfl
theorem gm {f : Nat → Bool} : cj f = 0 ↔ ∀ i, i < 8 → f i = false := by
 constructor
 ·intro h i hi
  have := yH f hi
  rw [h] at this
  rw [← this]; unfold fm; simp
 ·intro h
  rw [fG (g := fun _ => false) h]; rfl
def kq (p : Int) : Nat → Bool := fun i => decide (p = (i : Int))
theorem adL {i : Nat} (hi : i < 8) : (2 ^ i : Int) = cj (kq i) := by
 match i, hi with
 | 0, _ => decide
 | 1, _ => decide
 | 2, _ => decide
 | 3, _ => decide
 | 4, _ => decide
 | 5, _ => decide
 | 6, _ => decide
 | 7, _ => decide
def aT (s p : Int) : Bool := decide (0 ≤ p ∧ p < 8) && fm s p.toNat
def iI (s p : Int) : Int := cj fun i => fm s i || kq p i
def tB (l : List Int) : Int := cj fun i => l.contains (i : Int)
def lE (s : Int) (k : Nat) : List Int := ((List.range k).filter (fm s)).map Int.ofNat
theorem qI (s : Int) (k : Nat) : lE s (k + 1) = lE s k ++ if fm s k then [(k : Int)] else [] := by
 unfold lE
 rw [List.range_succ, List.filter_append, List.map_append]
 congr 1
 cases h : fm s k <;> simp [List.filter, h]
abbrev ci (s : Int) : List Int := lE s 8
theorem yS (s : Int) (k : Nat) : (lE s k).length ≤ k := by
 unfold lE; rw [List.length_map]; exact Nat.le_trans (List.length_filter_le _ _) (by rw [List.length_range]; exact Nat.le_refl _)
theorem tT {s : Int} {k : Nat} {p : Int} : p ∈ lE s k ↔ 0 ≤ p ∧ p < k ∧ fm s p.toNat = true := by
 unfold lE
 simp only [List.mem_map, List.mem_filter, List.mem_range]
 constructor
 ·rintro ⟨i, ⟨hi, hb⟩, rfl⟩; exact ⟨by simp, by simpa using hi, by simpa using hb⟩
 ·rintro ⟨h1, h2, h3⟩; exact ⟨p.toNat, ⟨by omega, h3⟩, by simp; omega⟩
theorem ql {s p : Int} : p ∈ ci s ↔ aT s p = true := by
 unfold aT
 rw [tT]; simp [and_assoc]
theorem abH (s p : Int) : tB (ci s ++ [p]) = iI s p := fG fun i hi => by
 rw [Bool.eq_iff_iff]
 simp only [List.contains_iff_mem, List.mem_append, ql, List.mem_singleton, Bool.or_eq_true]
 have h8 : (i : Int) < 8 := by omega
 unfold aT kq
 have h0 : (0 : Int) ≤ i := by omega
 simp only [h8, h0, and_self, decide_true, Bool.true_and, Int.toNat_natCast, decide_eq_true_eq]
 exact or_congr Iff.rfl ⟨Eq.symm, Eq.symm⟩
theorem zN (f : Nat → Bool) (p : Int) : aT (cj f) p = (decide (0 ≤ p ∧ p < 8) && f p.toNat) := by
 unfold aT
 by_cases h : 0 ≤ p ∧ p < 8
 ·rw [yH f (by omega)]
 ·simp [h]
theorem rL (s : Int) {i : Nat} (hi : i < 8) : aT s i = fm s i := by
 have h8 : (i : Int) < 8 := by omega
 unfold aT; simp [h8]
end
section
open Go.RowKit
theorem m9 : (Tryz.prog.info? 3).map (fun i => (i.zero, i.size, i.bytes)) = some (some (.int .i64 0), 1, 8) := by kernel_rfl
def ae (w : World) (base : Nat) (v : Value) (zs : List Int) : Prop := w.ownsRow base 3 1 v zs.length (zs.map (Value.int .i64))
theorem ae.nil (w : World) (base : Nat) : ae w base (.slice none 0 0) [] := ⟨rfl, .inl ⟨rfl, rfl⟩⟩
theorem ae.opened {w : World} {base : Nat} {v : Value} {zs : List Int} (h : ae w base v zs) : ∃ a cap, v = .slice a zs.length cap ∧ bQ w a zs := by
 obtain ⟨a, cap, rfl, _, hi⟩ := mN h
 exact ⟨a, cap, rfl, hi⟩
theorem ae.below {w w' : World} {base : Nat} {v : Value} {zs : List Int} (h : ae w base v zs) (hb : Below w.heap.size w w') : ae w' base v zs := by
 obtain ⟨h1, h⟩ := h
 refine ⟨h1, ?_⟩
 rcases h with h | ⟨g, cap, cur, e, hg, hc, h3, h4, h5, h6⟩
 ·exact .inl h
 ·exact .inr ⟨g, cap, cur, e, hg, by rw [hb.block _ (Array.getElem?_eq_some_iff.1 hc).1]; exact hc, h3, h4, h5, h6⟩
theorem ae.up {W : World} {base : Nat} {v : Value} {zs : List Int} (h : ae W base v zs) (u : Up W) : ae u.w base v zs := h.below u.bel
theorem ae.alloc {w : World} {base : Nat} {v : Value} {zs : List Int} (h : ae w base v zs) (o : Obj) : ae (w.alloc o) base v zs := h.below ((Below.refl _ _).alloc (Nat.le_refl _) o)
theorem ju {ops : Array Oper} {rest : List Oper} {o : Oper} {a : Act} {w : World} {Q : Exit → Act → World → Prop} (hgd : o.guard = none) (s x : Operand)
  (ho : o.op = .call { callee := .builtin .append, args := #[s, x], argTypes := #[51, 51] })
  (base : Nat) {v : Value} {zs : List Int} (hs : a.eval s = v) (hown : ae w base v zs)
  {b : Nat} {y : Int} (hx : a.eval x = .slice (some ⟨b, 0, none⟩) 1 1) (hc : w.cell? ⟨b, 0, none⟩ = some (.int .i64 y)) (hn : zs.length ≤ 1000000) (hbase : base ≤ w.heap.size)
  (h : ∀ v' w', ae w' base v' (zs ++ [y]) → w.grownBy w' v.ownBlock → wpList Tryz.prog ops Q rest (a.put o.dst v') w') : wpList Tryz.prog ops Q (o :: rest) a w := by
 obtain ⟨i0, hinfo, hz0, hz1, hz2⟩ := info_parts m9
 refine wpList_append_own w hgd s x 51 ho base 3 i0 (.int .i64 0) 1 8 Tryz.underlying51 hinfo hz0 hz1 hz2 rfl (by decide) v zs.length _ hs hown ⟨b, 0, none⟩ 1 1 [.int .i64 y] hx rfl ?_ ?_ ?_ ?_ hbase (fun v' w' h1 h2 _ => h v' w' ?_ h2)
 ·intro j u hj; match j, hj with | 0, hj => simp at hj; subst hj; simp [Addr.add]; exact hc
 ·simp [Value.oneCell']
 ·unfold maxLen; omega
 ·omega
 ·unfold ae; simpa using h1
theorem ae.grown {B : Nat} {w0 wr w1 : World} {o : Obj} {v : Value} {zs : List Int} {base : Nat} (hown : ae wr base v zs) (hb : Below B w0 wr) (hB : B ≤ wr.heap.size) (hbase : B ≤ base) (hg : (wr.alloc o).grownBy w1 v.ownBlock) : Below B w0 w1 := by
 refine (hb.alloc hB o).grown hg (by simp; omega) (fun k hk => ?_)
 rcases hown.2 with ⟨rfl, _⟩ | ⟨g, cap, cur, rfl, hg, _⟩
 ·simp [Value.ownBlock] at hk
 ·simp [Value.ownBlock] at hk; omega
theorem cU {w : World} {b : Nat} {cs : Array Value} {t : TypeId} (zs : List Int) (hb : b = w.heap.size) (h : cs = (zs.map (Value.int .i64)).toArray) : bQ (w.alloc (.cells cs t)) (some ⟨b, 0, none⟩) zs := by
 subst hb h
 right
 refine ⟨_, 0, rfl, by simp, fun i hi => ?_⟩
 rw [World.cell?_alloc_at _ _ _ _ rfl]
 simp [hi, List.getD]
end
section
open Go.RowKit
theorem ae4 (x : Int) : bits .and .i64 x 1 = x % 2 := ss x 1 (by decide)
theorem ze {s : Int} {i : Nat} {x : Int} (hi : i < 8) (hx : x = s / 2 ^ i) : (bits .and .i64 x 1 == 1) = aT s i := by
 rw [ae4, rL s hi, adm hi, hx, Bool.eq_iff_iff]; simp
theorem yU (s p : Int) (w : World) :
  Calls Tryz.prog 28 #[.int .i64 s, .int .i64 p] w fun e w' => e = .returned (.bool (aT s p)) ∧ w = w' := by
 by_cases h0 : 0 ≤ p
 ·by_cases h8 : p < 8
  ·rcases (show p = 0 ∨ p = 1 ∨ p = 2 ∨ p = 3 ∨ p = 4 ∨ p = 5 ∨ p = 6 ∨ p = 7 by omega) with rfl | rfl | rfl | rfl | rfl | rfl | rfl | rfl
   ·go_enter Tryz.func28, Tryz.ntmps28
    go_wp2
    go_ret
    exact ⟨aK (ze (i := 0) (by omega) (by simp)), rfl⟩
   ·go_enter Tryz.func28, Tryz.ntmps28
    go_wp2
    go_ret
    exact ⟨aK (ze (i := 1) (by omega) (by simp)), rfl⟩
   ·go_enter Tryz.func28, Tryz.ntmps28
    go_wp2
    go_ret
    exact ⟨aK (ze (i := 2) (by omega) (by simp)), rfl⟩
   ·go_enter Tryz.func28, Tryz.ntmps28
    go_wp2
    go_ret
    exact ⟨aK (ze (i := 3) (by omega) (by simp)), rfl⟩
   ·go_enter Tryz.func28, Tryz.ntmps28
    go_wp2
    go_ret
    exact ⟨aK (ze (i := 4) (by omega) (by simp)), rfl⟩
   ·go_enter Tryz.func28, Tryz.ntmps28
    go_wp2
    go_ret
    exact ⟨aK (ze (i := 5) (by omega) (by simp)), rfl⟩
   ·go_enter Tryz.func28, Tryz.ntmps28
    go_wp2
    go_ret
    exact ⟨aK (ze (i := 6) (by omega) (by simp)), rfl⟩
   ·go_enter Tryz.func28, Tryz.ntmps28
    go_wp2
    go_ret
    exact ⟨aK (ze (i := 7) (by omega) (by simp)), rfl⟩
  ·go_enter Tryz.func28, Tryz.ntmps28
   go_wp2
   go_ret
   exact ⟨aK (by unfold aT; simp; omega), rfl⟩
 ·go_enter Tryz.func28, Tryz.ntmps28
  go_wp2
  go_ret
  exact ⟨aK (by unfold aT; simp; omega), rfl⟩
def ad2 (B : Nat) (w : World) (zs : List Int) (e : Ending) (w' : World) : Prop := ∃ v, e = .returned v ∧ ae w' w.heap.size v zs ∧ Below w.heap.size w w'
theorem abf (s : Int) (w : World) :
  Calls Tryz.prog 111 #[.int .i64 s] w (ad2 0 w (ci s)) := by
 go_enter Tryz.func111, Tryz.ntmps111
 go_wp2
 go_loopw [3, 4] (fun l i wr => ∃ k : Nat, k ≤ 8 ∧ i = .int .i64 k ∧ ae wr w.heap.size l (lE s k) ∧ Below w.heap.size w wr) (fun _ i _ => 8 - (intOf i).toNat)
 case atStart => exact ⟨0, Nat.zero_le _, rfl, ae.nil _ _, Below.refl _ _⟩
 case round =>
  obtain ⟨k, hk, rfl, hown, hb⟩ := hrel
  have hB := hb.size
  have hlen := yS s k
  by_cases hlt : k < 8
  ·cases hh : aT s k
   ·have hs : lE s (k + 1) = lE s k := by rw [qI, ← rL s hlt, hh]; simp
    have HS := Lib.hid hs
    clear hs
    go_wp2_with (go_at_call 28; refine (yU _ _ _).mono ?_; rintro e w' ⟨rfl, rfl⟩)
    go_roundw
    case rel => exact ⟨k + 1, by omega, by go_num, by rw [HS.out]; exact hown, hb⟩
    case measure => simp [intOf]; omega
   ·have hs : lE s (k + 1) = lE s k ++ [(k : Int)] := by rw [qI, ← rL s hlt, hh]; simp
    have HS := Lib.hid hs
    clear hs
    go_wp2_with (first | (go_at_call 28; refine (yU _ _ _).mono ?_; rintro e w' ⟨rfl, rfl⟩) | (at_builtin; refine ju rfl _ _ rfl w.heap.size rfl (hown.alloc _) (b := wr.heap.size) (y := (k : Int)) rfl (by simp) (by omega) (by simp; omega) ?_; intro v' w1 hown' hg))
    go_roundw
    case rel => exact ⟨k + 1, by omega, by go_num, by rw [HS.out]; exact hown', hown.grown hb hB (Nat.le_refl _) hg⟩
    case measure => simp [intOf]; omega
  ·obtain rfl : k = 8 := by omega
   go_wp2
   go_ret
   exact ⟨_, rfl, hown, hb⟩
end
section
open Go.RowKit
def ofK (zs : List Int) (k : Nat) : Int := cj fun i => decide (i < k) && zs.contains (i : Int)
theorem adF (zs : List Int) : ofK zs 0 = 0 := by unfold ofK; rw [gm]; simp
theorem aeg (zs : List Int) : ofK zs 8 = tB zs := fG fun i hi => by simp [hi]
theorem aeB {zs : List Int} {k : Nat} (h : zs.contains (k : Int) = false) : ofK zs (k + 1) = ofK zs k := fG fun i hi => by
 by_cases hik : i = k
 ·subst hik; rw [h]; simp
 ·have : decide (i < k + 1) = decide (i < k) := decide_eq_decide.2 (by omega)
  rw [this]
theorem aeh {zs : List Int} {k : Nat} (hk : k < 8) (h : zs.contains (k : Int) = true) : bits .or .i64 (ofK zs k) (2 ^ k) = ofK zs (k + 1) := by
 unfold ofK
 rw [adL hk, pv]
 refine fG fun i hi => ?_
 unfold kq
 by_cases hik : i = k
 ·subst hik; rw [h]; simp
 ·have h1 : decide (i < k + 1) = decide (i < k) := decide_eq_decide.2 (by omega)
  have h2 : decide ((k : Int) = (i : Int)) = false := by simp; omega
  rw [h1, h2]; simp
theorem abE {zs : List Int} {x : Int} {j : Nat} (hj : j < zs.length) (h : zs.getD j 0 = x) : zs.contains x = true := by
 refine List.contains_iff_mem.2 ?_
 rw [← h]; simp [List.getD, hj]
theorem abJ (a : Option Addr) (cap : Nat) (zs : List Int) (w : World) (hl : zs.length ≤ 1000) (hi : bQ w a zs) :
  Calls Tryz.prog 110 #[.slice a zs.length cap] w fun e w' => e = .returned (.int .i64 (tB zs)) ∧ w = w' := by
 have HI := Lib.hid hi
 clear hi
 go_enter Tryz.func110, Tryz.ntmps110
 go_wp2
 go_loop [3, 4] (fun s i => ∃ k : Nat, k ≤ 8 ∧ i = .int .i64 k ∧ s = .int .i64 (ofK zs k)) (fun _ i => 8 - (intOf i).toNat)
 case atStart => exact ⟨0, Nat.zero_le _, rfl, by rw [adF]⟩
 case round =>
  obtain ⟨k, hk, rfl, rfl⟩ := hrel
  by_cases hlt : k < 8
  ·cases hcon : zs.contains (k : Int)
   ·have HS := Lib.hid (aeB hcon)
    have HN : Hid (∀ j, j < zs.length → zs.getD j 0 ≠ (k : Int)) := Lib.hid fun j hj he => by rw [abE hj he] at hcon; cases hcon
    clear hcon
    go_wp2
    go_loop [3, 5] (fun s i => s = .int .i64 (ofK zs k) ∧ ∃ j : Nat, j ≤ zs.length ∧ i = .int .i64 j) (fun _ i => zs.length - (intOf i).toNat)
    case atStart => exact ⟨rfl, 0, Nat.zero_le _, rfl⟩
    case round =>
     obtain ⟨rfl, j, hj, rfl⟩ := hrel
     by_cases hjl : j < zs.length
     ·obtain ⟨b, off, rfl, hbs, hc⟩ := HI.out.cell (by omega)
      have hcell := hc j hjl
      clear hc
      have hne := HN.out j hjl
      generalize zs.getD j 0 = x at *
      have hb1 : (x == (k : Int)) = false := by simp [hne]
      clear hne
      go_wp2
      go_round
      case rel => exact ⟨rfl, j + 1, by omega, by go_num⟩
      case measure => simp [intOf]; omega
     ·go_wp2
      go_round
      case rel => exact ⟨k + 1, by omega, by go_num, by rw [HS.out]⟩
      case measure => simp [intOf]; omega
   ·obtain ⟨m, hm, hmx⟩ : ∃ m, m < zs.length ∧ zs.getD m 0 = (k : Int) := by
     have := List.contains_iff_mem.1 hcon
     obtain ⟨j, hj, he⟩ := List.getElem_of_mem this
     exact ⟨j, hj, by simp [List.getD, hj, he]⟩
    have HS := Lib.hid (aeh hlt hcon)
    have HM := Lib.hid hmx
    clear hcon hmx
    go_wp2
    go_loop [3, 5] (fun s i => s = .int .i64 (ofK zs k) ∧ ∃ j : Nat, j ≤ m ∧ i = .int .i64 j) (fun _ i => zs.length - (intOf i).toNat)
    case atStart => exact ⟨rfl, 0, Nat.zero_le _, rfl⟩
    case round =>
     obtain ⟨rfl, j, hj, rfl⟩ := hrel
     obtain ⟨b, off, rfl, hbs, hc⟩ := HI.out.cell (by omega)
     have hcell := hc j (by omega)
     clear hc
     have hjm : j = m → zs.getD j 0 = (k : Int) := fun h => by rw [h]; exact HM.out
     have hjlt : (j : Int) < zs.length := by omega
     generalize zs.getD j 0 = x at *
     by_cases hx : x = (k : Int)
     ·subst hx
      clear hjm
      rcases (show k = 0 ∨ k = 1 ∨ k = 2 ∨ k = 3 ∨ k = 4 ∨ k = 5 ∨ k = 6 ∨ k = 7 by omega) with rfl | rfl | rfl | rfl | rfl | rfl | rfl | rfl
      all_goals
       go_wp2
       go_round
       case rel => exact ⟨_ + 1, by omega, rfl, by rw [← HS.out]; rfl⟩
       case measure => simp [intOf]
     ·have hb1 : (x == (k : Int)) = false := by simp [hx]
      have : j ≠ m := fun h => hx (hjm h)
      clear hjm hx
      go_wp2
      go_round
      case rel => exact ⟨rfl, j + 1, by omega, by go_num⟩
      case measure => simp [intOf]; omega
  ·obtain rfl : k = 8 := by omega
   go_wp2
   go_ret
   exact ⟨bU (by rw [aeg]), rfl⟩
end
section
open Go.RowKit
theorem abk (s p : Int) (w : World) :
  Calls Tryz.prog 32 #[.int .i64 s, .int .i64 p] w fun e w' => e = .returned (.int .i64 (iI s p)) ∧ Below w.heap.size w w' := by
 have hlen : (ci s).length ≤ 8 := yS s 8
 go_enter Tryz.func32, Tryz.ntmps32
 go_wp2_with fail
 (go_at_call 111; refine (abf _ _).mono ?_; rintro e w' ⟨v', rfl, hown', hb'⟩)
 have hB := hb'.size
 go_wp2_with (at_builtin; refine ju rfl _ _ rfl w.heap.size rfl (hown'.alloc _) (b := w'.heap.size) (y := p) rfl (by simp) (by omega) (by simp; omega) ?_; intro v2 w1 hown2 hg)
 obtain ⟨a2, cap2, rfl, hi2⟩ := hown2.opened
 have hbw := hown'.grown hb' hB (Nat.le_refl _) hg
 have hl2 : (ci s ++ [p]).length ≤ 1000 := by simp; omega
 have HO := Lib.hid (abH s p)
 go_wp2_with (go_at_call 110; refine (abJ _ _ _ _ (by omega) (by assumption)).mono ?_; rintro e w' ⟨rfl, rfl⟩)
 go_ret
 exact ⟨bU HO.out, hbw⟩
end
section
open Go.RowKit
class Sz131 (C : Array Value) : Prop where
 out : C.size = 131
theorem cA {w : World} {b : Nat} {C : Array Value} {t : TypeId} [h : IsBlk w b C t] [hz : Sz131 C] : Sem.run Tryz.prog (Instr.loadAt 34 (.pointer (some ⟨b, 0, none⟩))) w = .ok (.agg C) w := by
 have e : ((C.extract 0 (0 + 131)).toList).length = 131 := by have := hz.out; simp; omega
 have := run_loadAt_mid (P := Tryz.prog) w b 0 34 (C.extract 0 (0 + 131)).toList _ (World.rangeAt_of_block h.out 0 131) Tryz.underlying34 rfl (by rw [e]; exact du)
 rwa [Array.toArray_toList, show C.extract 0 (0 + 131) = C by rw [Nat.zero_add, ← hz.out]; exact Array.extract_size] at this
theorem di {W : World} {K : Act → Prop} {op : Oper} {a : Act} {x : Operand} {b : Nat} {C : Array Value} {t : TypeId} [hz : Sz131 C] (ho : op.op = .load 34 x) (hx : a.eval x = .pointer (some ⟨b, 0, none⟩)) [h : IsBlk W b C t]
  (hk : K (a.put op.dst (.agg C))) : op.quiet Tryz.prog a (fun w' => ∃ u : Up W, w' = u.w) K := ky ho hx (fun u => cA) hk
theorem oK {W : World} {Z : World → Prop} {K : Act → Prop} {op : Oper} {a : Act} {x : Operand} {b : Nat} {C : Array Value} {t : TypeId} [hz : Sz131 C] (ho : op.op = .load 34 x) (hx : a.eval x = .pointer (some ⟨b, 0, none⟩)) [h : IsBlk W b C t]
  (hk : K (a.put op.dst (.agg C))) : op.quiet Tryz.prog a (fun w' => ∃ u : eZ W Z, w' = u.up.w) K := lx ho hx (fun u => cA) hk
theorem aJ {ops : Array Oper} {rest : List Oper} {op : Oper} {a : Act} {w : World} {Q : Exit → Act → World → Prop} {x : Operand} {b : Nat} {C : Array Value} {t : TypeId} [hz : Sz131 C] (hgd : op.guard = none) (ho : op.op = .load 34 x) (hx : a.eval x = .pointer (some ⟨b, 0, none⟩)) [h : IsBlk w b C t]
  (hk : wpList Tryz.prog ops Q rest (a.put op.dst (.agg C)) w) : wpList Tryz.prog ops Q (op :: rest) a w := cR hgd ho hx cA hk
def bh (gr : List (List Int × List Int)) (p : Int) : Option Spot := (io gr).find? fun s => s.p == p
def spA : Option Spot → Array Value
 | some s => #[.int .i64 s.g, .int .i64 s.k, .int .i64 s.i, .int .i64 s.p]
 | none => #[.int .i64 0, .int .i64 0, .int .i64 0, .int .i64 0]
theorem acP {α : Type} {p : α → Bool} {xs : List α} {k : Nat} (h : ∀ j, j < k → ∀ x, xs[j]? = some x → p x = false) (hk : xs.length ≤ k) : xs.find? p = none := by
 rw [List.find?_eq_none]
 intro x hx
 obtain ⟨j, hj, hjx⟩ := List.getElem_of_mem hx
 have := h j (by omega) x (by rw [List.getElem?_eq_getElem hj, hjx])
 simp [this]
theorem acz {α : Type} {p : α → Bool} : ∀ {xs : List α} {k : Nat} {x : α}, (∀ j, j < k → ∀ y, xs[j]? = some y → p y = false) → xs[k]? = some x → p x = true → xs.find? p = some x
 | [], k, x, _, hx, _ => by simp at hx
 | y :: ys, 0, x, _, hx, hp => by simp at hx; subst hx; simp [List.find?, hp]
 | y :: ys, k + 1, x, h, hx, hp => by
  have h0 := h 0 (by omega) y rfl
  rw [List.find?_cons, h0]
  exact acz (k := k) (fun j hj z hz => h (j + 1) (by omega) z (by simpa using hz)) (by simpa using hx) hp
attribute [local go_sem] IsBlk.cell IsBlk.frozen
theorem abm (T : Array Value) (t : Tab) (p : Int) (w : World) (hT : ag w T t) :
  Calls Tryz.prog 150 #[.agg T, .int .i64 p] w fun e w' => e = .returned (.tuple #[.agg (spA (bh t.gr p)), .bool (bh t.gr p).isSome]) ∧ Below w.heap.size w w' := by
 haveI : Sz131 T := ⟨hT.size⟩
 have HT : Hid (∀ w', Below w.heap.size w w' → ag w' T t) := Lib.hid fun w' hb => hT.below hb (Nat.le_refl _)
 have HL : Hid ((io t.gr).length ≤ 1000) := Lib.hid (by
  obtain ⟨g, d, r, b, _, hI⟩ := hT
  have := yX hI.lr t.gr.length
  have := hI.lg
  unfold io; omega)
 clear hT
 generalize hL : bh t.gr p = o
 have HO := Lib.hid hL
 clear hL
 go_enter Tryz.func150, Tryz.ntmps150
 go_wp2_with (first | (refine aJ rfl rfl rfl ?_; go_simp) | (go_at_call 197; refine (abl _ _ _ (HT.out _ (by exact yd))).mono ?_; rintro e w' ⟨vsp, rfl, hsp, hbsp⟩))
 obtain ⟨xs, hxs⟩ : ∃ xs, io t.gr = xs := ⟨_, rfl⟩
 rw [hxs] at hsp HL
 have HXS := Lib.hid hxs
 clear hxs
 obtain ⟨sa, scap, rfl, _, _, _, hrow⟩ := aD.opened zR hsp
 have hR := Lib.hid hrow
 have hlen := HL.out
 have i0 : IsBlk w' (w.heap.size + 1) #[.int .i64 0, .int .i64 0, .int .i64 0, .int .i64 0] 201 := ⟨by rw [hbsp.block _ (by simp)]; exact (inferInstance : IsBlk _ _ _ _).out⟩
 have hbel : Below w.heap.size w w' := (by exact yd : Below w.heap.size w ((w.alloc (.cells T 34)).alloc (.cells #[.int .i64 0, .int .i64 0, .int .i64 0, .int .i64 0] 201))).trans (hbsp.mono (by simp; omega))
 clear hrow hsp hbsp HT HL
 go_loop [7] (fun i => ∃ k : Nat, k ≤ xs.length ∧ i = .int .i64 k ∧ ∀ j, j < k → ∀ x, xs[j]? = some x → (x.p == p) = false) (fun i => xs.length - (intOf i).toNat)
 case atStart => exact ⟨0, Nat.zero_le _, rfl, fun j hj => absurd hj (by omega)⟩
 case round =>
  obtain ⟨k, hk, rfl, hno⟩ := hrel
  have HN := Lib.hid hno
  clear hno
  by_cases hlt : k < xs.length
  ·obtain ⟨b, off, rfl, hbl, hc⟩ := hR.out.resolve_left (by omega)
   obtain ⟨x, hx⟩ : ∃ x, xs[k]? = some x := ⟨_, List.getElem?_eq_getElem hlt⟩
   have c0 := hc k hlt 0 (by omega)
   have c1 := hc k hlt 1 (by omega)
   have c2 := hc k hlt 2 (by omega)
   have c3 := hc k hlt 3 (by omega)
   simp only [hx, Option.bind_some, aac, List.getElem?_cons_zero, List.getElem?_cons_succ, Option.getD_some, Nat.add_zero] at c0 c1 c2 c3
   have HX := Lib.hid hx
   clear hc hx
   cases hp : (x.p == p)
   ·have HP := Lib.hid hp
    go_wp2
    go_round
    case rel => exact ⟨k + 1, by omega, by go_num, fun j hj y hy => by
     by_cases hjk : j = k
     ·subst hjk; have := HX.out; rw [this] at hy; cases hy; exact HP.out
     ·exact HN.out j (by omega) y hy⟩
    case measure => simp [intOf]; omega
   ·have HO2 : Hid (o = some x) := Lib.hid (by rw [← HO.out]; unfold bh; rw [HXS.out]; exact acz HN.out HX.out hp)
    go_wp2
    go_returns
    exact ⟨by rw [HO2.out]; rfl, by exact yd⟩
  ·have HO2 : Hid (o = none) := Lib.hid (by rw [← HO.out]; unfold bh; rw [HXS.out]; exact acP HN.out (by omega))
   go_wp2
   go_returns
   exact ⟨by rw [HO2.out]; rfl, by exact yd⟩
def gk (gr : List (List Int × List Int)) (p q : Int) : Bool :=
 match bh gr p, bh gr q with
 | some a, some b => ((a.g : Int) == (b.g : Int)) && ((a.k : Int) != (b.k : Int))
 | _, _ => false
theorem aaj (T : Array Value) (t : Tab) (p q : Int) (w : World) (hT : ag w T t) :
  Calls Tryz.prog 85 #[.agg T, .int .i64 p, .int .i64 q] w fun e w' => e = .returned (.bool (gk t.gr p q)) ∧ Below w.heap.size w w' := by
 haveI : Sz131 T := ⟨hT.size⟩
 have HT : Hid (∀ w', Below w.heap.size w w' → ag w' T t) := Lib.hid fun w' hb => hT.below hb (Nat.le_refl _)
 clear hT
 have HQ : ∀ w', ag w' T t → ∀ p, Calls Tryz.prog 150 #[.agg T, .int .i64 p] w' fun e w'' => e = .returned (.tuple #[.agg (spA (bh t.gr p)), .bool (bh t.gr p).isSome]) ∧ Below w'.heap.size w' w'' := fun w' h p => abm T t p w' h
 unfold gk
 generalize bh t.gr = F at *
 have HP := Lib.hid (fun w' h => HQ w' h p)
 have HQ := Lib.hid (fun w' h => HQ w' h q)
 generalize F p = a at *
 generalize F q = b at *
 cases a <;> cases b
 all_goals
  have HP1 := HP.out
  have HQ1 := HQ.out
  simp only [spA, Option.isSome] at HP1 HQ1
  replace HP := Lib.hid HP1
  replace HQ := Lib.hid HQ1
  clear HP1 HQ1
  go_enter Tryz.func85, Tryz.ntmps85
  go_wp2_with (first | (refine aJ rfl rfl rfl ?_; go_simp) | (go_at_call 150; refine (Up.run (HP.out _ (HT.out _ (by exact yd)))).mono ?_; clear HP; rintro e w' ⟨rfl, uw, rfl⟩) | (go_at_call 150; refine (Up.run (HQ.out _ (HT.out _ (by exact yd)))).mono ?_; rintro e w' ⟨rfl, uw2, rfl⟩))
 all_goals
  go_ret
  first
   | exact ⟨rfl, by exact yd⟩
   | (refine ⟨aK ?_, by exact yd⟩; simp [*])
def onL (t : Tab) (n : Nat) : List Int := ((List.range n).filter fun p => (t.ph p).on).map fun p : Nat => (p : Int)
def eB (t : Tab) : Int := tB (onL t 8)
theorem rS (t : Tab) (n : Nat) : onL t (n + 1) = onL t n ++ (if (t.ph n).on then [(n : Int)] else []) := by
 unfold onL
 rw [List.range_succ, List.filter_append, List.map_append]
 cases h : (t.ph n).on <;> simp [h]
theorem acn (t : Tab) (n : Nat) : (onL t n).length ≤ n := by
 unfold onL; rw [List.length_map]; have := List.length_filter_le (fun p => (t.ph p).on) (List.range n); simpa using this
theorem zm (T : Array Value) (t : Tab) (w : World) (hT : ag w T t) :
  Calls Tryz.prog 155 #[.agg T] w fun e w' => e = .returned (.int .i64 (eB t)) ∧ Below w.heap.size w w' := by
 have HP : Hid (∀ p, p < 8 → T[p * 13]? = some (.bool (t.ph p).on)) := Lib.hid fun p hp => hT.phx p 0 _ hp (by omega) rfl
 clear hT
 go_enter Tryz.func155, Tryz.ntmps155
 go_wp2
 go_loopw [3, 4] (fun l i wr => ∃ k : Nat, k ≤ 8 ∧ i = .int .i64 k ∧ ae wr (w.heap.size + 1) l (onL t k) ∧ Below (w.heap.size + 1) (w.alloc (.cells T 34)) wr) (fun _ i _ => 8 - (intOf i).toNat)
 case atStart => exact ⟨0, Nat.zero_le _, rfl, ae.nil _ _, Below.refl _ _⟩
 case round =>
  obtain ⟨k, hk, rfl, hown, hb⟩ := hrel
  have hB := hb.size
  rw [World.size_alloc] at hB
  have iB : IsBlk wr w.heap.size T 34 := ⟨by rw [hb.block _ (by omega)]; exact aq _ _⟩
  have hlen := acn t k
  have hbw : Below w.heap.size w wr := ((Below.refl w.heap.size w).alloc (Nat.le_refl _) (.cells T 34)).trans (hb.mono (by omega))
  by_cases hlt : k < 8
  ·have hkI : (k : Int) < 8 := by omega
   have tp := HP.out k hlt
   have HS := Lib.hid (rS t k)
   generalize (t.ph k).on = x at *
   cases x
   ·go_wp2
    go_roundw
    case rel => exact ⟨k + 1, by omega, by go_num, by rw [HS.out]; simpa using hown, hb⟩
    case measure => simp [intOf]; omega
   ·go_wp2_with (at_builtin; refine ju rfl _ _ rfl (w.heap.size + 1) rfl (hown.alloc _) (b := wr.heap.size) (y := (k : Int)) rfl (by simp) (by omega) (by simp; omega) ?_; intro v' w1 hown' hg)
    go_roundw
    case rel => exact ⟨k + 1, by omega, by go_num, by rw [HS.out]; simpa using hown', hown.grown hb hB (Nat.le_refl _) hg⟩
    case measure => simp [intOf]; omega
  ·obtain rfl : k = 8 := by omega
   obtain ⟨a, cap, rfl, hi⟩ := hown.opened
   go_wp2_with (go_at_call 110; refine (abJ _ _ _ _ (by omega) hi).mono ?_; rintro e w' ⟨rfl, rfl⟩)
   go_ret
   exact ⟨rfl, hbw⟩
end
section
def fr (zs : List Int) (i : Nat) (n : Int) : Int := zs.getD i 0 % n
theorem yh (zs : List Int) (i : Nat) {n : Int} (hn : 1 ≤ n) : 0 ≤ fr zs i n ∧ fr zs i n < n := ⟨Int.emod_nonneg _ (by omega), Int.emod_lt_of_pos _ (by omega)⟩
def phM (zs : List Int) (i : Nat) : Phs :=
 let min := 1 + fr zs i 12
 let max := min + fr zs (i + 5) 25
 let w := fr zs (i + 7) 2 == 1
 let walk := if w then 1 + fr zs (i + 8) 10 else 0
 let r := fr zs (i + 9) 7
 {on := true, min := min, gap := fr zs (i + 1) 9, max := max, top := max + fr zs (i + 6) 15, step := 1 + fr zs (i + 2) 6, yel := 10 + fr zs (i + 3) 4, red := fr zs (i + 4) 5,
  walk := walk, blinks := if w then 1 + (fr zs (i + 8) 97).tdiv 10 else 0,
  recl := if decide (3 < r) || r == 3 && walk == 0 then 0 else r, lock := decide (0 < fr zs (i + 10) 3), rest := fr zs (i + 11) 4 == 1 }
def vz : Phs := ⟨false, 0, 0, 0, 0, 0, 0, 0, 0, 0, 0, false, false⟩
structure PhOk (p : Phs) : Prop where
 on : p.on = true
 min : 1 ≤ p.min ∧ p.min ≤ 12
 gap : 0 ≤ p.gap ∧ p.gap ≤ 8
 max : p.min ≤ p.max ∧ p.max ≤ p.min + 24
 top : p.max ≤ p.top ∧ p.top ≤ p.max + 14
 step : 1 ≤ p.step ∧ p.step ≤ 6
 yel : 10 ≤ p.yel ∧ p.yel ≤ 13
 red : 0 ≤ p.red ∧ p.red ≤ 4
 foot : (p.walk = 0 ∧ p.blinks = 0) ∨ (1 ≤ p.walk ∧ p.walk ≤ 10 ∧ 1 ≤ p.blinks ∧ p.blinks ≤ 10)
 recl : 0 ≤ p.recl ∧ p.recl ≤ 3 ∧ (p.recl = 3 → 1 ≤ p.walk)
theorem adK (zs : List Int) (i : Nat) : PhOk (phM zs i) := by
 have h0 := yh zs i (n := 12) (by omega)
 have h1 := yh zs (i + 1) (n := 9) (by omega)
 have h2 := yh zs (i + 2) (n := 6) (by omega)
 have h3 := yh zs (i + 3) (n := 4) (by omega)
 have h4 := yh zs (i + 4) (n := 5) (by omega)
 have h5 := yh zs (i + 5) (n := 25) (by omega)
 have h6 := yh zs (i + 6) (n := 15) (by omega)
 have h8 := yh zs (i + 8) (n := 10) (by omega)
 have h9 := yh zs (i + 8) (n := 97) (by omega)
 have h10 := yh zs (i + 9) (n := 7) (by omega)
 have h11 : 0 ≤ (fr zs (i + 8) 97).tdiv 10 ∧ (fr zs (i + 8) 97).tdiv 10 ≤ 9 := by
  rw [Int.tdiv_eq_ediv_of_nonneg h9.1]; omega
 refine ⟨rfl, ?_, ?_, ?_, ?_, ?_, ?_, ?_, ?_, ?_⟩
 ·simp only [phM]; omega
 ·simp only [phM]; omega
 ·simp only [phM]; omega
 ·simp only [phM]; omega
 ·simp only [phM]; omega
 ·simp only [phM]; omega
 ·simp only [phM]; omega
 ·simp only [phM]; split <;> omega
 ·simp only [phM]
  cases hw : (fr zs (i + 7) 2 == 1)
  ·simp only [Bool.false_eq_true, if_false]
   split
   ·omega
   ·rename_i hc; simp at hc; omega
  ·simp only [if_true]
   split
   ·omega
   ·rename_i hc; simp at hc; omega
def yr (n p lim : Nat) : Nat := min n (lim - p)
def yj (p m : Nat) : List Int := (List.range m).map fun i => ((p + i : Nat) : Int)
def rw0 (zs : List Int) (g : Nat) : Nat := (fr zs (1 + 2 * g) 3).toNat
def rw1 (zs : List Int) (g m0 : Nat) : Nat := if rw0b zs g = 0 ∧ m0 = 0 then 1 else rw0b zs g
where rw0b (zs : List Int) (g : Nat) : Nat := (fr zs (2 + 2 * g) 3).toNat
def yk (zs : List Int) (k : Nat) : Nat → Nat × List (List Int × List Int)
 | 0 => (0, [])
 | g + 1 =>
  let q := yk zs k g
  let lim := 8 - (k - 1 - g)
  let m0 := yr (rw0 zs g) q.1 lim
  let m1 := yr (rw1 zs g m0) (q.1 + m0) lim
  (q.1 + m0 + m1, q.2 ++ [(yj q.1 m0, yj (q.1 + m0) m1)])
def yo (zs : List Int) : Nat := (1 + fr zs 0 3).toNat
def yf (zs : List Int) : Nat × List (List Int × List Int) := yk zs (yo zs) (yo zs)
theorem yD (zs : List Int) : 1 ≤ yo zs ∧ yo zs ≤ 3 := by have := yh zs 0 (n := 3) (by omega); unfold yo; omega
theorem yL (zs : List Int) (k : Nat) (hk : k ≤ 3) : ∀ g, g ≤ k → g ≤ (yk zs k g).1 ∧ (yk zs k g).1 ≤ 8 - (k - g) ∧ (yk zs k g).2.length = g
 | 0, _ => by simp [yk]
 | g + 1, h => by
  obtain ⟨h1, h2, h3⟩ := yL zs k hk g (by omega)
  have h4 := yh zs (1 + 2 * g) (n := 3) (by omega)
  have h5 := yh zs (2 + 2 * g) (n := 3) (by omega)
  simp only [yk, yr, List.length_append, List.length_cons, List.length_nil]
  generalize hm0 : min (rw0 zs g) (8 - (k - 1 - g) - (yk zs k g).1) = m0
  have hw1 : m0 = 0 → 1 ≤ rw1 zs g m0 := fun h => by unfold rw1; split <;> omega
  refine ⟨?_, ?_, by omega⟩
  ·rcases Nat.eq_zero_or_pos m0 with hz | hz
   ·have := hw1 hz; omega
   ·omega
  ·omega
theorem yx (zs : List Int) : 1 ≤ (yf zs).1 ∧ (yf zs).1 ≤ 8 ∧ (yf zs).2.length = yo zs := by
 obtain ⟨h1, h2⟩ := yD zs
 obtain ⟨h3, h4, h5⟩ := yL zs (yo zs) h2 (yo zs) (Nat.le_refl _)
 unfold yf
 omega
end
section
open Go.RowKit
theorem aca {v n : Int} (h : v < 0) : v.tmod n = -((-v) % n) := by
 rw [← Int.tmod_eq_emod_of_nonneg (by omega), Int.neg_tmod, Int.neg_neg]
theorem aa9 {v n : Int} (hn : 1 ≤ n) : v % n = if v.tmod n < 0 then v.tmod n + n else v.tmod n := by
 by_cases h : v < 0
 ·have e1 := aca (n := n) h
  have h1 := Int.emod_nonneg (-v) (show n ≠ 0 by omega)
  have h2 := Int.emod_lt_of_pos (-v) (show 0 < n by omega)
  by_cases hz : (-v) % n = 0
  ·have : v % n = 0 := by
    have hd : n ∣ -v := Int.dvd_of_emod_eq_zero hz
    exact Int.emod_eq_zero_of_dvd ((Int.dvd_neg).1 hd)
   rw [e1, hz, this]; simp
  ·rw [e1, if_pos (by omega)]
   have h3 : v = n * (-((-v) / n) - 1) + (-((-v) % n) + n) := by
    have := Int.mul_ediv_add_emod (-v) n
    have e : n * (-((-v) / n) - 1) = -(n * ((-v) / n)) - n := by rw [Int.mul_sub, Int.mul_neg, Int.mul_one]
    omega
   calc v % n = (n * (-((-v) / n) - 1) + (-((-v) % n) + n)) % n := by rw [← h3]
    _ = (-((-v) % n) + n) % n := by rw [Int.mul_add_emod_self_left]
    _ = -((-v) % n) + n := Int.emod_eq_of_lt (by omega) (by omega)
 ·rw [Int.tmod_eq_emod_of_nonneg (by omega)]
  have := Int.emod_nonneg v (show n ≠ 0 by omega)
  rw [if_neg (by omega)]
theorem acH {v n : Int} (hn : 1 ≤ n) : -n < v.tmod n ∧ v.tmod n < n := by
 by_cases h : v < 0
 ·rw [aca h]
  have h1 := Int.emod_nonneg (-v) (show n ≠ 0 by omega)
  have h2 := Int.emod_lt_of_pos (-v) (show 0 < n by omega)
  omega
 ·rw [Int.tmod_eq_emod_of_nonneg (by omega)]
  have h1 := Int.emod_nonneg v (show n ≠ 0 by omega)
  have h2 := Int.emod_lt_of_pos v (show 0 < n by omega)
  omega
theorem acW (v n : Int) (w : World) (hn : 1 ≤ n) (hn2 : n ≤ 4294967296) :
  Calls Tryz.prog 23 #[.int .i64 v, .int .i64 n] w fun e w' => e = .returned (.int .i64 (v % n)) ∧ w = w' := by
 have hb := acH (v := v) hn
 have hne : (n == 0) = false := by simp; omega
 have H := Lib.hid (aa9 (v := v) hn)
 go_enter Tryz.func23, Tryz.ntmps23
 go_wp2
 all_goals
  go_ret
  exact ⟨bU (by rw [H.out]; simp [*]; try omega), rfl⟩
end
section
open Go.RowKit
def xS (pon : Bool) (pmin pgap pmax ptop pstep pyel pred pwalk pblinks prec : Int) (plock prest : Bool) : Array Value := #[.bool pon, .int .i64 pmin, .int .i64 pgap, .int .i64 pmax, .int .i64 ptop, .int .i64 pstep, .int .i64 pyel, .int .i64 pred, .int .i64 pwalk, .int .i64 pblinks, .int .i64 prec, .bool plock, .bool prest, .bool false, .int .i64 0, .int .i64 0, .int .i64 0, .int .i64 0, .int .i64 0, .int .i64 0, .int .i64 0, .int .i64 0, .int .i64 0, .int .i64 0, .bool false, .bool false, .bool false, .int .i64 0, .int .i64 0, .int .i64 0, .int .i64 0, .int .i64 0, .int .i64 0, .int .i64 0, .int .i64 0, .int .i64 0, .int .i64 0, .bool false, .bool false, .bool false, .int .i64 0, .int .i64 0, .int .i64 0, .int .i64 0, .int .i64 0, .int .i64 0, .int .i64 0, .int .i64 0, .int .i64 0, .int .i64 0, .bool false, .bool false, .bool false, .int .i64 0, .int .i64 0, .int .i64 0, .int .i64 0, .int .i64 0, .int .i64 0, .int .i64 0, .int .i64 0, .int .i64 0, .int .i64 0, .bool false, .bool false, .bool false, .int .i64 0, .int .i64 0, .int .i64 0, .int .i64 0, .int .i64 0, .int .i64 0, .int .i64 0, .int .i64 0, .int .i64 0, .int .i64 0, .bool false, .bool false, .bool false, .int .i64 0, .int .i64 0, .int .i64 0, .int .i64 0, .int .i64 0, .int .i64 0, .int .i64 0, .int .i64 0, .int .i64 0, .int .i64 0, .bool false, .bool false, .bool false, .int .i64 0, .int .i64 0, .int .i64 0, .int .i64 0, .int .i64 0, .int .i64 0, .int .i64 0, .int .i64 0, .int .i64 0, .int .i64 0, .bool false, .bool false, .slice none 0 0, .int .i64 0, .int .i64 0, .int .i64 0, .int .i64 0, .int .i64 0, .int .i64 0, .int .i64 0, .int .i64 0, .slice none 0 0, .slice none 0 0, .slice none 0 0, .int .i64 0, .int .i64 0, .int .i64 0, .int .i64 0, .int .i64 0, .int .i64 0, .int .i64 0, .int .i64 0, .int .i64 0, .int .i64 0, .int .i64 0, .int .i64 0, .int .i64 0, .int .i64 0, .int .i64 0]
def aj : Array Value := xS false 0 0 0 0 0 0 0 0 0 0 false false
theorem lM (w : World) : (zeroValue 34).run Tryz.prog w = .ok (.agg aj) w := px (by kernel_rfl) w
end
section
open Go.RowKit
theorem nQ {p : Int} (h : ¬ (0 ≤ p ∧ p < 8)) : cj (kq p) = 0 := gm.2 fun i hi => by unfold kq; simp; omega
theorem jw (p : Int) (w : World) :
  Calls Tryz.prog 146 #[.int .i64 p] w fun e w' => e = .returned (.int .i64 (cj (kq p))) ∧ w = w' := by
 by_cases h0 : 0 ≤ p
 ·by_cases h8 : p < 8
  ·rcases (show p = 0 ∨ p = 1 ∨ p = 2 ∨ p = 3 ∨ p = 4 ∨ p = 5 ∨ p = 6 ∨ p = 7 by omega) with rfl | rfl | rfl | rfl | rfl | rfl | rfl | rfl
   all_goals
    go_enter Tryz.func146, Tryz.ntmps146
    go_wp2
    go_ret
    exact ⟨bU (by decide), rfl⟩
  ·go_enter Tryz.func146, Tryz.ntmps146
   go_wp2
   go_ret
   exact ⟨bU (nQ (by omega)).symm, rfl⟩
 ·go_enter Tryz.func146, Tryz.ntmps146
  go_wp2
  go_ret
  exact ⟨bU (nQ (by omega)).symm, rfl⟩
theorem vq (s p : Int) : (bits .and .i64 s (cj (kq p)) != 0) = aT s p := by
  rw [sR, Bool.eq_iff_iff, bne_iff_ne, ne_eq, gm]
  unfold aT kq
  simp only [Bool.and_eq_true, decide_eq_true_eq]
  constructor
  · intro h
    by_cases hp : 0 ≤ p ∧ p < 8
    · refine ⟨hp, ?_⟩
      cases hb : fm s p.toNat with
      | true => rfl
      | false =>
        exact absurd (fun i hi => by
          by_cases hpi : p = (i : Int)
          · subst hpi; simp at hb; simp [hb]
          · simp [hpi]) h
    · exact absurd (fun i hi => by have : ¬ p = (i : Int) := by omega
                                   simp [this]) h
  · rintro ⟨hp, hb⟩ h
    have := h p.toNat (by omega)
    have e : p = (p.toNat : Int) := by omega
    rw [hb, ← e] at this
    simp at this
theorem bA (s p : Int) (w : World) :
  Calls Tryz.prog 63 #[.int .i64 s, .int .i64 p] w fun e w' => e = .returned (.bool (aT s p)) ∧ w = w' := by
 have H := Lib.hid (vq s p)
 go_enter Tryz.func63, Tryz.ntmps63
 go_wp2_with (go_at_call 146; refine (jw _ _).mono ?_; rintro e w' ⟨rfl, rfl⟩)
 go_ret
 exact ⟨aK H.out, rfl⟩
theorem vn (s p : Int) : bits .or .i64 (bits .and .i64 s 255) (cj (kq p)) = iI s p := by
 rw [vY, pv]; rfl
theorem lm (s p : Int) (w : World) :
  Calls Tryz.prog 144 #[.int .i64 s, .int .i64 p] w fun e w' => e = .returned (.int .i64 (iI s p)) ∧ w = w' := by
 have H := Lib.hid (vn s p)
 go_enter Tryz.func144, Tryz.ntmps144
 go_wp2_with (go_at_call 146; refine (jw _ _).mono ?_; rintro e w' ⟨rfl, rfl⟩)
 go_ret
 exact ⟨bU H.out, rfl⟩
theorem ab0 (x y : Int) : bits .andNot .i64 x y = IntKind.i64.wrap (((x % 18446744073709551616).toNat &&& (2 ^ 64 - ((y % 18446744073709551616).toNat + 1)) : Nat) : Int) := by
 show IntKind.i64.wrap (((BitVec.ofInt 64 x) &&& ~~~(BitVec.ofInt 64 y)).toNat : Int) = _
 rw [BitVec.toNat_and, BitVec.toNat_not, BitVec.toNat_ofInt, BitVec.toNat_ofInt]
 congr 3
 simp only [Nat.reducePow, Int.cast_ofNat_Int]
 omega
def xb (zs : List Int) (k : Nat) : Int := cj fun i => (zs.take k).contains (i : Int)
theorem sE {zs : List Int} {k : Nat} (hk : k < zs.length) : bits .or .i64 (xb zs k) (cj (kq (zs.getD k 0))) = xb zs (k + 1) := by
 unfold xb
 rw [pv]
 refine fG fun i hi => ?_
 rw [Bool.eq_iff_iff, List.take_succ_eq_append_getElem hk]
 simp only [Bool.or_eq_true, List.contains_iff_mem, List.mem_append, List.mem_singleton, kq, decide_eq_true_eq]
 simp only [List.getD, hk, List.getElem?_eq_getElem, Option.getD_some]
 exact or_congr Iff.rfl ⟨Eq.symm, Eq.symm⟩
theorem jg (a : Option Addr) (cap : Nat) (zs : List Int) (w : World) (hl : zs.length ≤ 1000) (hi : bQ w a zs) :
  Calls Tryz.prog 165 #[.slice a zs.length cap] w fun e w' => e = .returned (.int .i64 (tB zs)) ∧ w = w' := by
 have HI := Lib.hid hi
 clear hi
 go_enter Tryz.func165, Tryz.ntmps165
 go_wp2
 go_loop [3, 8] (fun s i => ∃ k : Nat, k ≤ zs.length ∧ i = .int .i64 k ∧ s = .int .i64 (xb zs k)) (fun _ i => zs.length - (intOf i).toNat)
 case atStart => exact ⟨0, Nat.zero_le _, rfl, by unfold xb; rw [gm.2 (by simp)]⟩
 case round =>
  obtain ⟨k, hk, rfl, rfl⟩ := hrel
  by_cases hlt : k < zs.length
  ·obtain ⟨b, off, rfl, hbs, hc⟩ := HI.out.cell (by omega)
   have hcell := hc k hlt
   clear hc
   have HS := Lib.hid (sE hlt)
   generalize zs.getD k 0 = x at *
   go_wp2_with (go_at_call 146; refine (jw _ _).mono ?_; rintro e w' ⟨rfl, rfl⟩)
   go_round
   case rel => exact ⟨k + 1, by omega, by go_num, by rw [HS.out]⟩
   case measure => simp [intOf]; omega
  ·obtain rfl : k = zs.length := by omega
   go_wp2
   go_ret
   exact ⟨bU (by unfold xb tB; rw [List.take_length]), rfl⟩
end
section
section
open Go.RowKit Go.Shelf
attribute [local go_sem] Oper.semAt_some
theorem dz (s : Int) (w : World) :
  Calls Tryz.prog 55 #[.int .i64 s] w fun e w' => e = .returned (.func (.func 143) #[] #[.pointer (some ⟨w.heap.size, 0, none⟩)]) ∧ w' = w.alloc (.cells #[.int .i64 s] 3) := by
 go_enter Tryz.func55, Tryz.ntmps55
 go_wp2
 go_ret
 exact ⟨rfl, rfl⟩
def fe (b : Nat) (W W' : World) : Prop := W'.heap[b]? = W.heap[b]?
theorem fe.cell {b : Nat} {W W' : World} (h : fe b W W') {i : Nat} : W'.cell? ⟨b, i, none⟩ = W.cell? ⟨b, i, none⟩ := World.cell?_of_block (w := W) h
theorem dV {b : Nat} {A B C : World} (h : fe b A B) (k : fe b B C) : fe b A C := Eq.trans k h
theorem d7 {b : Nat} {w : World} (hb : b < w.heap.size) (W : World) (l : Nat) (o o' : Obj) (hl : w.heap.size ≤ l) (h : W.heap[l]? = some o) (h1 : o.isCells = false) (h2 : o.isWalk = false) : fe b W (W.putObj l o') :=
 (belowK_b (n₀ := b + 1) (w := w) (by omega) W l o o' hl h h1 h2).block b (by omega)
end
section
open Go.RowKit Go.Shelf
attribute [local go_sem] Oper.semAt_some
def aX (s : Int) : Nat → List (Fin 8)
 | 0 => []
 | k + 1 => aX s k ++ if h : k < 8 ∧ aT s k = true then [⟨k, h.1⟩] else []
theorem ev (s : Int) (k : Nat) : aX s (k + 1) = aX s k ++ if h : k < 8 ∧ aT s k = true then [⟨k, h.1⟩] else [] := rfl
theorem gK (s : Int) : ∀ k, k ≤ 8 → (aX s k).map (fun i => (i.val : Int)) = lE s k
 | 0, _ => by simp [aX, lE]
 | k + 1, h => by
  rw [ev, qI, List.map_append, gK s k (by omega), ← rL s (by omega)]
  cases hh : aT s k
  ·simp
  ·simp [show k < 8 by omega]
theorem m8 (s : Int) {j k : Nat} (h : j ≤ k) : aX s j <+: aX s k := by
 obtain ⟨d, rfl⟩ := Nat.exists_eq_add_of_le h
 clear h
 induction d with
 | zero => exact List.prefix_refl _
 | succ d ih => rw [← Nat.add_assoc, ev]; exact ih.trans (List.prefix_append _ _)
theorem jC (s : Int) (i : Fin 8) : ∀ k, k ≤ 8 → (i ∈ aX s k ↔ i.val < k ∧ aT s i.val = true)
 | 0, _ => by simp [aX]
 | k + 1, h => by
  rw [ev, List.mem_append, jC s i k (by omega)]
  by_cases hh : k < 8 ∧ aT s k = true
  ·rw [dif_pos hh, List.mem_singleton]
   constructor
   ·rintro (⟨h1, h2⟩ | rfl)
    ·exact ⟨by omega, h2⟩
    ·exact ⟨by simp, hh.2⟩
   ·rintro ⟨h1, h2⟩
    by_cases he : i.val < k
    ·exact .inl ⟨he, h2⟩
    ·exact .inr (Fin.ext (by simp; omega))
  ·rw [dif_neg hh]
   simp only [List.not_mem_nil, or_false]
   constructor
   ·rintro ⟨h1, h2⟩; exact ⟨by omega, h2⟩
   ·rintro ⟨h1, h2⟩
    refine ⟨?_, h2⟩
    by_cases he : i.val < k
    ·exact he
    ·have : i.val = k := by omega
     rw [this] at h2; exact absurd ⟨by omega, h2⟩ hh
theorem rR (n : Nat) (hn : 1 ≤ n) (l Bn : Nat) (s : Int) (J Jx : List (Fin 8) → World → Prop)
  (hY : ∀ pre (x : Fin 8) W, J pre W → pre.length < (aX s 8).length → YieldAt Fence.wide (n - 1) Tryz.prog l #[.int .i64 (x.val : Nat)] W fun e W' =>
   (e = .returned (.bool true) ∧ J (pre ++ [x]) W' ∧ fe Bn W W') ∨ (e = .returned (.bool false) ∧ Jx (pre ++ [x]) W'))
  (W : World) (hBn : W.cell? ⟨Bn, 0, none⟩ = some (.int .i64 s)) (h0 : J [] W) :
  CallsIn Fence.wide n Tryz.prog 143 #[.func (.yield l) #[] #[], .pointer (some ⟨Bn, 0, none⟩)] W fun e W' => (∃ v, e = .returned v) ∧
   ((∃ ys, ys = aX s 8 ∧ J ys W') ∨ (∃ pre, pre <+: aX s 8 ∧ Jx pre W')) := by
 refine callsIn_of_wp Tryz.func143 rfl trivial ?_ rfl
 simp only [Tryz.ntmps143, List.size_toArray, List.length_cons, List.length_nil, Nat.reduceAdd, Nat.reduceSub, Array.replicate_succ, Array.replicate_zero, List.push_toArray, List.append_toArray, List.nil_append, List.cons_append]
 gi_wp2
 gi_loopw [4] (fun p wr => ∃ k : Nat, k ≤ 8 ∧ p = .int .i64 k ∧ J (aX s k) wr ∧ wr.cell? ⟨Bn, 0, none⟩ = some (.int .i64 s)) (fun p _ => 8 - (intOf p).toNat)
 case atStart => exact ⟨0, by omega, rfl, h0, hBn⟩
 case round =>
  obtain ⟨k, hk, rfl, hJs, hc⟩ := hrel
  by_cases hlt : k < 8
  ·cases hh : aT s k
   ·have hs : aX s (k + 1) = aX s k := by rw [ev, dif_neg (by rw [hh]; simp)]; simp
    have HS := Lib.hid hs
    clear hs
    gi_wp2_with (refine ⟨trivial, ?_⟩; gi_at_call 63; refine (callsIn_wide.2 (bA _ _ _)).mono ?_; rintro e w' ⟨rfl, rfl⟩)
    all_goals (refine ⟨fun _ h => (by cases h), ?_⟩)
    gi_wp2
    go_roundw
    case rel => exact ⟨k + 1, by omega, by go_num, by rw [HS.out]; exact hJs, hc⟩
    case measure => simp [intOf]; omega
   ·have hs : aX s (k + 1) = aX s k ++ [⟨k, hlt⟩] := by rw [ev, dif_pos ⟨hlt, hh⟩]
    have hpre : aX s (k + 1) <+: aX s 8 := m8 s (by omega)
    have hln : (aX s k).length < (aX s 8).length := by
     have := hpre.length_le
     rw [hs] at this; simp at this; omega
    have HS := Lib.hid hs
    have HP := Lib.hid hpre
    clear hs hpre
    obtain ⟨fn, tmps, assign, body, hy, hR⟩ := hY (aX s k) ⟨k, hlt⟩ wr hJs hln
    simp only at hy hR
    gi_wp2_with (refine ⟨trivial, ?_⟩; gi_at_call 63; refine (callsIn_wide.2 (bA _ _ _)).mono ?_; rintro e w' ⟨rfl, rfl⟩)
    refine hR.mono ?_
    rintro e W3 (⟨rfl, hJ3, hk3⟩ | ⟨rfl, hJx3⟩)
    ·have hc3 : W3.cell? ⟨Bn, 0, none⟩ = some (.int .i64 s) := hk3.cell.trans hc
     gi_wp2
     go_roundw
     case rel => exact ⟨k + 1, by omega, by go_num, by rw [HS.out]; exact hJ3, hc3⟩
     case measure => simp [intOf]; omega
    ·gi_wp2
     refine bodyPost_ret (results_none rfl _ _ _) rfl ?_
     exact ⟨⟨_, rfl⟩, .inr ⟨aX s k ++ [⟨k, hlt⟩], by rw [← HS.out]; exact HP.out, hJx3⟩⟩
  ·obtain rfl : k = 8 := by omega
   gi_wp2
   go_end0
   exact ⟨⟨_, rfl⟩, .inl ⟨_, rfl, hJs⟩⟩
theorem ce (n : Nat) (hn : 1 ≤ n) (Bn : Nat) (s : Int) (w : World) (hBn : Bn < w.heap.size) (hc : w.cell? ⟨Bn, 0, none⟩ = some (.int .i64 s)) :
  SeqStopsK Fence.wide n Tryz.prog 143 #[.pointer (some ⟨Bn, 0, none⟩)] (fun x : Fin 8 => #[Value.int .i64 (x.val : Nat)]) (fe Bn) (fun ys => ys = aX s 8) (fun pre => pre <+: aX s 8) (aX s 8).length w := fun l J Jx W hW _ _ hY h0 =>
 rR n hn l Bn s J Jx hY W ((hW.cell (p := ⟨Bn, 0, none⟩) hBn).trans hc) h0
end
end
section
open Go.RowKit
def fz (o : Oper) : Bool := match o.op with | .defer _ => false | _ => true
theorem nV {o : Oper} (h : fz o = true) : ∀ c, o.op ≠ .defer c := fun c e => by unfold fz at h; rw [e] at h; cases h
theorem qV {o : Oper} (h : fz o = true) (r : Option Nat) (ρ : Operand → Value) : Oper.semAt r ρ o = execOp ρ o := by
 cases r with
 | none => exact Oper.semAt_none _ _
 | some l => exact Oper.semAt_some l _ _ (nV h)
section
variable {F : Fence} {n : Nat} {P : Program} {ops : Array Oper} {md : Region.Mode} {C : World → Prop}
theorem kg {o : Oper} {a : Act} {K : Act → Prop} {K' : Act → World → Prop} {Q' : Exit → Act → World → Prop} {w : World} (hd : fz o = true) (hw : C w) (h : ∀ a w', C w' → K a → K' a w')
  (ha : o.askedIn F P a C) (hh : o.quietIn F n P a C K) : o.wpIn F n P a w K' Q' := by
 obtain ⟨v, h1, h2⟩ := hh
 have h3 := h1 w hw
 unfold Oper.quietAtIn at h3
 unfold Oper.wpIn
 refine ⟨ha w hw, ?_⟩
 rw [qV hd]
 generalize (execOp a.eval o).run P w = r at *
 cases r with
 | ok x w' =>
  cases x <;> simp only [Oper.quietUponIn] at h3 <;> simp only [Oper.uponIn]
  case value u =>
   obtain ⟨e1, e2⟩ := h3
   rw [e1, e2]
   exact h _ _ hw h2
  case skip =>
   obtain ⟨e1, e2⟩ := h3
   rw [e1, ← e2]
   exact h _ _ hw h2
  case enter f args =>
   obtain ⟨e1, hd, hc⟩ := h3
   rw [e1]
   exact ⟨hd, hc.mono fun e w'' ⟨he, hw''⟩ => by subst he; exact h _ _ hw'' h2⟩
 | halt x w' => simp only [Oper.quietUponIn] at h3
theorem ek {i : Nat} {a : Act} {K : Act → Prop} {K' : Act → World → Prop} {Q' : Exit → Act → World → Prop} {w : World} (hd : ops.toList.all fz = true) (hC : C w) (h : ∀ a w', C w' → K a → K' a w')
  (hh : qOpIn F n P ops C i K a) : wpOpIn F n P ops Q' i K' a w := by
 unfold qOpIn at hh
 unfold wpOpIn
 split
 ·rename_i ho; simp only [ho] at hh; exact h _ _ hC hh
 ·rename_i o ho
  simp only [ho] at hh
  obtain ⟨ha, hh⟩ := hh
  have hdo : fz o = true := List.all_eq_true.1 hd o (List.mem_of_getElem? (i := i) (by rw [Array.getElem?_toList]; exact ho))
  split
  ·rename_i hw; simp only [hw, if_true] at hh; exact kg hdo hC h ha hh
  ·rename_i hw; simp only [hw] at hh; exact ⟨ha w hC, h _ _ hC hh⟩
theorem dW {Q : Act → Prop} {Q' : Exit → Act → World → Prop} (hd : ops.toList.all fz = true) (hQ : ∀ a w, C w → Q a → Q' .normal a w) : ∀ (fuel : Nat) (listed : Array Bool) (a : Act) (w : World), C w →
  wpAnyQIn F n P md ops C Q fuel listed a → wpAnyIn F n P md ops Q' fuel listed a w
 | 0, _, _, _, hw, h => ⟨h.1, hQ _ _ hw h.2⟩
 | fuel + 1, _, _, _, hw, h => ⟨fun h0 => hQ _ _ hw (h.1 h0), fun i hi => ek hd hw (fun a' w' hw' => dW hd hQ fuel _ a' w' hw') (h.2 i hi)⟩
end
theorem iv {F : Fence} {n : Nat} {P : Program} {ops : Array Oper} {rest : List Oper} {op : Oper} {a : Act} {w : World} {Q : Exit → Act → World → Prop} {x : Operand} {ty : TypeId} {b o : Nat} {v : Value} (hgd : op.guard = none) (ho : op.op = .load ty x) (hx : a.eval x = .pointer (some ⟨b, o, none⟩))
  (hrun : Sem.run P (Instr.loadAt ty (.pointer (some ⟨b, o, none⟩))) w = .ok v w) (h : wpListIn F n P ops Q rest (a.put op.dst v) w) : wpListIn F n P ops Q (op :: rest) a w := by
 refine wpListIn_plain hgd fun _ hK => ?_
 unfold Oper.wpIn
 refine ⟨by simp [Oper.about, ho], ?_⟩
 rw [Oper.semAt_plain F _ _ (by rw [ho]; intro c hc'; cases hc')]
 unfold execOp
 simp only [ho, hx]
 generalize Instr.loadAt ty (Value.pointer (some ⟨b, o, none⟩)) = L at hrun ⊢
 simp [go_sem, hrun]
 exact hK _ _ h
end
section
open Go.RowKit
section
variable {F : Fence} {m : Nat} {P : Program} {ops : Array Oper} {md : Region.Mode} {C : World → Prop}
def mT (F : Fence) (m : Nat) (P : Program) (md : Region.Mode) (ops : Array Oper) (C : World → Prop) (n : Nat) (L : Array Bool → Act → Prop) : Nat → Array Bool → Act → Prop
 | 0, listed, a => L listed a
 | f + 1, listed, a =>
  Region.ready md ops listed ≠ [] ∧ ∀ i ∈ Region.ready md ops listed, i < n ∧ qOpIn F m P ops C i (mT F m P md ops C n L f (listed.setIfInBounds i true)) a
theorem ez {n g : Nat} {L : Array Bool → Act → Prop} {Q' : Exit → Act → World → Prop} (hd : ops.toList.all fz = true) (hL : ∀ listed a w, C w → L listed a → wpAnyIn F m P md ops Q' g listed a w) :
  ∀ (f : Nat) (listed : Array Bool) (a : Act) (w : World), C w → mT F m P md ops C n L f listed a → wpAnyIn F m P md ops Q' (f + g) listed a w
 | 0, listed, a, w, hw, h => by rw [Nat.zero_add]; exact hL _ _ _ hw h
 | f + 1, listed, a, w, hw, h => by
  rw [show f + 1 + g = (f + g) + 1 by omega]
  exact ⟨fun h0 => absurd h0 h.1, fun i hi => ek hd hw (fun a' w' hw' h' => ez hd hL f _ a' w' hw' h') (h.2 i hi).2⟩
theorem ng {n i : Nat} {oi : Oper} {v : Value} {L : Array Bool → Act → Prop} (hi : ops[i]? = some oi) (hsel : ∀ (j : Nat) (o : Oper) cs b, ops[j]? = some o → o.op ≠ .select cs b)
  (hs : Region.sinkB md ops n = true) (hc : Region.chainB md ops n = true) (hn : n < ops.size) (hin : i < n)
  (hdone : ∀ listed a, L listed a → ∀ j ∈ Region.ready md ops listed, n ≤ j) :
  ∀ (f : Nat) (listed : Array Bool) (a : Act), HeadInv md ops n listed →
   (∀ j oj, ops[j]? = some oj → j ≠ i → listed.getD j true = false → (∀ e ∈ oj.after, Region.binds md e = true → e.on ≠ i) → oi.apart ops oj = true) →
   i ∈ Region.ready md ops listed → YieldsQuiet F m P ops C oi v a →
   mT F m P md ops C n L f (listed.setIfInBounds i true) (a.put oi.dst v) → mT F m P md ops C n L (f + 1) listed a := by
 intro f
 induction f with
 | zero =>
  intro listed a inv _ hr hy H
  have hun := (mem_ready.1 hr).1
  refine ⟨fun h => (by rw [h] at hr; cases hr), fun j hj => ?_⟩
  have hjn : j < n := by
   rcases Nat.lt_or_ge j n with h | h
   ·exact h
   ·exact absurd hj (tail_waits hs hc hn inv _ i rfl hin hun j h)
  refine ⟨hjn, ?_⟩
  by_cases hji : j = i
  ·subst hji; exact hy.qOpIn hi H
  ·have := hdone _ _ H j (ready_mono hj hji)
   omega
 | succ f ih =>
  intro listed a inv hfree hr hy H
  have hun := (mem_ready.1 hr).1
  refine ⟨fun h => (by rw [h] at hr; cases hr), fun j hj => ?_⟩
  have hjn : j < n := by
   rcases Nat.lt_or_ge j n with h | h
   ·exact h
   ·exact absurd hj (tail_waits hs hc hn inv _ i rfl hin hun j h)
  refine ⟨hjn, ?_⟩
  by_cases hji : j = i
  ·subst hji; exact hy.qOpIn hi H
  ·have h1 := (H.2 j (ready_mono hj hji)).2
   obtain ⟨hjun, oj, hoj, hall⟩ := mem_ready.1 hj
   have hnot : ∀ e ∈ oj.after, Region.binds md e = true → e.on ≠ i := fun e he hb heq => by
    have h1 := hall e he hb
    rw [heq, getD_both hun] at h1
    cases h1
   have h2 := qOpIn_put hoj (hfree j oj hoj hji hjun hnot) (fun cs b => hsel i oi cs b hi) (fun cs b => hsel j oj cs b hoj) hy h1
   have hfree' : ∀ k ok, ops[k]? = some ok → k ≠ i → (listed.setIfInBounds j true).getD k true = false →
     (∀ e ∈ ok.after, Region.binds md e = true → e.on ≠ i) → oi.apart ops ok = true := fun k ok hk hki hun hno => by
    refine hfree k ok hk hki ?_ hno
    by_cases hjk : j = k
    ·subst hjk; exact hjun
    ·rw [getD_set_ne true hjk] at hun; exact hun
   refine qOpIn_mono (fun a' h3 => ih (listed.setIfInBounds j true) a' (inv.set hj hjn) hfree' (ready_mono hr (Ne.symm hji)) h3.1 ?_) h2
   rw [Array.setIfInBounds_comm _ _ hji]
   exact h3.2
theorem li {n g : Nat} {Lq : Act → Prop} (hsel : Region.noSelect ops = true) (hs : Region.sinkB md ops n = true) (hc : Region.chainB md ops n = true) (hn : n < ops.size) :
  ∀ (l : List Oper) (k : Nat) (listed : Array Bool) (a : Act), (∀ j, j < l.length → l[j]? = ops[k + j]?) → k + l.length = n → HeadInv md ops n listed →
  Region.lexHead md ops g l.length k listed = true → wpQuietIn F m P ops C Lq l a →
  mT F m P md ops C n (fun listed' a' => Region.seqB md ops g n listed' = true ∧ Lq a') l.length listed a
 | [], k, listed, a, _, hk, _, hB, h => by
  have : k = n := by simpa using hk
  subst this
  exact ⟨by simpa [Region.lexHead] using hB, h⟩
 | o :: l, k, listed, a, hl, hk, inv, hB, h => by
  have h0 : ops[k]? = some o := by simpa using (hl 0 (by simp)).symm
  simp only [List.length_cons, Region.lexHead, Bool.and_eq_true] at hB
  obtain ⟨⟨hr, hf⟩, hB'⟩ := hB
  have hkn : k < n := by simp only [List.length_cons] at hk; omega
  have hr' : k ∈ Region.ready md ops listed := by simpa using hr
  have hst : qOpIn F m P ops C k (wpQuietIn F m P ops C Lq l) a := by unfold qOpIn; simp only [h0]; exact h
  obtain ⟨v, hy, hK⟩ := yieldsQuiet_of_qOpIn h0 hst
  exact ng h0 (Region.noSelect_spec hsel) hs hc hn hkn (fun listed' a' hL => seqB_ready hL.1) l.length listed a inv (Region.free_spec h0 hf) hr' hy
   (li hsel hs hc hn l (k + 1) _ _ (fun j hj => by have := hl (j + 1) (by simp; omega); simpa [Nat.add_assoc, Nat.add_comm 1 j] using this) (by simp only [List.length_cons] at hk; omega) (inv.set hr' hkn) hB' hK)
theorem fS {Q' : Exit → Act → World → Prop} : ∀ (l : List Oper) (k : Nat) (listed : Array Bool) (a : Act) (w : World), (∀ j, l[j]? = ops[k + j]?) →
  Region.seqB md ops l.length k listed = true → wpListIn F m P ops Q' l a w → wpAnyIn F m P md ops Q' l.length listed a w
 | [], _, _, _, _, _, hB, h => ⟨by simpa [Region.seqB] using hB, h⟩
 | o :: l, k, listed, a, w, hl, hB, h => by
  have h0 : ops[k]? = some o := by simpa using (hl 0).symm
  simp only [List.length_cons, Region.seqB, Bool.and_eq_true, decide_eq_true_eq] at hB
  refine ⟨fun h1 => (by rw [hB.1] at h1; cases h1), fun i hi => ?_⟩
  rw [hB.1] at hi
  have hik : i = k := by simpa using hi
  subst hik
  have hw : wpOpIn F m P ops Q' i (wpListIn F m P ops Q' l) a w := by unfold wpOpIn; simp only [h0]; exact h
  exact wpOpIn_mono (fun a' w' h' => fS l (i + 1) _ a' w' (fun j => by have := hl (j + 1); simpa [Nat.add_assoc, Nat.add_comm 1 j] using this) hB.2 h') hw
theorem eP {id : Nat} {Q : Exit → Act → World → Prop} {a : Act} {w : World} {l : List Oper} (n : Nat) (hd : l.all fz = true) (hm : P.follows .mixedOrders = true) (hB : Region.lexTailB .any l.toArray n = true) (hC : C { w with drawn := w.drawn + 1 })
  (h : wpQuietIn F m P l.toArray C (fun a' => ∀ w', C w' → wpListIn F m P l.toArray Q (l.drop n) a' w') (l.take n) a) : (Code.region id l.toArray true).wpIn F m P Q a w := by
 simp only [Region.lexTailB, Bool.and_eq_true, decide_eq_true_eq] at hB
 obtain ⟨⟨⟨⟨hsel, hn⟩, hs⟩, hc⟩, hlex⟩ := hB
 have hn' : n < l.length := by simpa using hn
 have htl : (l.take n).length = n := by simp; omega
 have hdl : (l.drop n).length = l.toArray.size - n := by simp
 have inv0 : HeadInv .any l.toArray n (Array.replicate l.toArray.size false) :=
  ⟨by simp, fun j oj _ hl => (by rw [getD_replicate_false] at hl; cases hl), fun t _ ht => getD_in (by simpa using ht) (getD_replicate_false _ _)⟩
 have H := li (md := .any) (g := l.toArray.size - n) hsel hs hc hn (l.take n) 0 _ a (fun j hj => by
  have hj' : j < n := by rw [htl] at hj; exact hj
  simp [hj']) (by simpa using htl) inv0 (by rw [htl]; exact hlex) h
 refine wpIn_region_any hm ?_
 have := ez (Q' := Q) (g := l.toArray.size - n) (by simpa using hd) (fun listed a' w' hw' hL => by
  have := fS (md := .any) (Q' := Q) (l.drop n) n listed a' w' (fun j => by simp [List.getElem?_drop]) (by rw [hdl]; exact hL.1) (hL.2 w' hw')
  rwa [hdl] at this) _ _ _ { w with drawn := w.drawn + 1 } hC H
 rw [htl, show n + (l.toArray.size - n) = l.toArray.size by omega] at this
 exact this
theorem dC {id : Nat} {Q : Exit → Act → World → Prop} {a : Act} {w : World} {l : List Oper} (n : Nat) (hd : l.all fz = true) (hm : P.follows .mixedOrders = true) (hB : Region.lexTailB .any l.toArray n = true)
  (h : wpQuietIn F m P l.toArray (fun w' => ∃ u : Up w, w' = u.w) (fun a' => ∀ w', (∃ u : Up w, w' = u.w) → wpListIn F m P l.toArray Q (l.drop n) a' w') (l.take n) a) : (Code.region id l.toArray true).wpIn F m P Q a w :=
 eP (C := fun w' => ∃ u : Up w, w' = u.w) n hd hm hB ⟨⟨_, (Below.refl _ w).drew⟩, rfl⟩ h
end
end
section
open Go.RowKit
section
variable {P : Program} {ops : Array Oper} {md : Region.Mode} {S : World → Prop}
def gA (P : Program) (md : Region.Mode) (ops : Array Oper) (Q : Exit → Act → World → Prop) (S : World → Prop) (z : Nat) : Nat → Array Bool → Act → World → Prop
 | 0, listed, a, w => Region.ready md ops listed = [] ∧ Q .normal a w
 | fuel + 1, listed, a, w =>
  (Region.ready md ops listed = [] → Q .normal a w) ∧
  ∀ i ∈ Region.ready md ops listed, wpOp P ops Q i (fun a' w' => (i ≠ z → S w') ∧ gA P md ops Q S z fuel (listed.setIfInBounds i true) a' w') a w
theorem j9 {Q : Exit → Act → World → Prop} {z : Nat} : ∀ (fuel : Nat) (listed : Array Bool) (a : Act) (w : World), gA P md ops Q S z fuel listed a w → wpAny P md ops Q fuel listed a w
 | 0, _, _, _, h => h
 | fuel + 1, _, _, _, h => ⟨h.1, fun i hi => wpOp_mono (fun a' w' h' => j9 fuel _ a' w' h'.2) (h.2 i hi)⟩
theorem lv {Q : Exit → Act → World → Prop} {z i : Nat} {oi : Oper} {v : Value} (hi : ops[i]? = some oi) (hsel : ∀ (j : Nat) (o : Oper) cs b, ops[j]? = some o → o.op ≠ .select cs b)
  (hQ : ∀ c a w, Q (.panic c) (a.put oi.dst v) w → Q (.panic c) a w) (hz : Reach md ops i z) :
  ∀ (fuel : Nat) (listed : Array Bool) (a : Act) (w : World), ClosedL md ops listed →
   (∀ j oj, ops[j]? = some oj → j ≠ i → listed.getD j true = false → (∀ e ∈ oj.after, Region.binds md e = true → e.on ≠ i) → oi.apart ops oj = true) →
   i ∈ Region.ready md ops listed → YieldsIf P ops S oi v a → S w →
   gA P md ops Q S z fuel (listed.setIfInBounds i true) (a.put oi.dst v) w → gA P md ops Q S z (fuel + 1) listed a w := by
 intro fuel
 induction fuel with
 | zero =>
  intro listed a w inv _ hr hy hS H
  refine ⟨fun h => (by rw [h] at hr; cases hr), fun j hj => ?_⟩
  by_cases hji : j = i
  ·subst hji; exact hy.wpOp hi hS ⟨fun _ => hS, H⟩
  ·have := ready_mono hj hji
   rw [H.1] at this
   cases this
 | succ fuel ih =>
  intro listed a w inv hfree hr hy hS H
  have hun := (mem_ready.1 hr).1
  refine ⟨fun h => (by rw [h] at hr; cases hr), fun j hj => ?_⟩
  by_cases hji : j = i
  ·subst hji; exact hy.wpOp hi hS ⟨fun _ => hS, H⟩
  ·have hjz : j ≠ z := fun e => by
    subst e
    have h1 := hz.ready inv hj
    rw [getD_both hun] at h1
    cases h1
   have h1 := H.2 j (ready_mono hj hji)
   obtain ⟨hjun, oj, hoj, hall⟩ := mem_ready.1 hj
   have hnot : ∀ e ∈ oj.after, Region.binds md e = true → e.on ≠ i := fun e he hb heq => by
    have h1 := hall e he hb
    rw [heq, getD_both hun] at h1
    cases h1
   have h2 := wpOp_putIf hoj (hfree j oj hoj hji hjun hnot) (fun cs b => hsel i oi cs b hi) (fun cs b => hsel j oj cs b hoj) hQ hy h1
   have hfree' : ∀ k ok, ops[k]? = some ok → k ≠ i → (listed.setIfInBounds j true).getD k true = false →
     (∀ e ∈ ok.after, Region.binds md e = true → e.on ≠ i) → oi.apart ops ok = true := fun k ok hk hki hun hno => by
    refine hfree k ok hk hki ?_ hno
    by_cases hjk : j = k
    ·subst hjk; exact hjun
    ·rw [getD_set_ne true hjk] at hun; exact hun
   refine wpOp_mono (fun a' w' h3 => ⟨h3.2.1, ih (listed.setIfInBounds j true) a' w' (inv.set hj) hfree' (ready_mono hr (Ne.symm hji)) h3.1 (h3.2.1 hjz) ?_⟩) h2
   rw [Array.setIfInBounds_comm _ _ hji]
   exact h3.2.2
def cC (P : Program) (ops : Array Oper) (Q : Exit → Act → World → Prop) (S : World → Prop) : List Oper → Act → World → Prop
 | [], a, w => Q .normal a w
 | o :: l, a, w => Region.wanted o (yielded ops a.tmps) = true ∧ (Oper.wp P o a w (fun a' w' => (l ≠ [] → S w') ∧ cC P ops Q S l a' w') Q ∨ (o.asks P a w ∧ LetsOut Q))
def Qx (K : Act → World → Prop) (Q : Exit → Act → World → Prop) : Exit → Act → World → Prop
 | .normal, a, w => K a w
 | .panic c, a, w => Q (.panic c) a w
 | .outgrown, a, w => Q .outgrown a w
 | _, _, _ => False
theorem cN {K : Act → World → Prop} {Q : Exit → Act → World → Prop} {a : Act} {w : World} : Qx K Q .normal a w = K a w := rfl
theorem ay {Q : Exit → Act → World → Prop} {o : Oper} {l : List Oper} {a : Act} {w : World} (hw : Region.wanted o (yielded ops a.tmps) = true)
  (h : ∀ K : Act → World → Prop, Shut (∀ a w, (l ≠ [] → S w) → cC P ops Q S l a w → K a w) → wpList P ops (Qx K Q) [o] a w) : cC P ops Q S (o :: l) a w := by
 refine ⟨hw, ?_⟩
 have := h (fun a' w' => (l ≠ [] → S w') ∧ cC P ops Q S l a' w') (fun _ _ h1 h2 => ⟨h1, h2⟩)
 unfold wpList at this
 rw [if_pos hw] at this
 exact this
theorem fC {Q' : Exit → Act → World → Prop} {z : Nat} : ∀ (l : List Oper) (ts : List Nat) (listed : Array Bool) (a : Act) (w : World), l.length = ts.length → (∀ (j : Nat) (hj : j < ts.length), l[j]? = ops[ts[j]]?) →
  ts.getLast? = some z ∨ ts = [] → fA md ops ts listed = true → cC P ops Q' S l a w → gA P md ops Q' S z l.length listed a w
 | [], [], _, _, _, _, _, _, hB, h => ⟨by simpa [fA] using hB, h⟩
 | [], _ :: _, _, _, _, hl, _, _, _, _ => by simp at hl
 | _ :: _, [], _, _, _, hl, _, _, _, _ => by simp at hl
 | o :: l, t :: ts, listed, a, w, hlen, hl, hz, hB, h => by
  have h0 : ops[t]? = some o := (hl 0 (by simp)).symm
  simp only [fA, Bool.and_eq_true, decide_eq_true_eq] at hB
  refine ⟨fun h1 => (by rw [hB.1] at h1; cases h1), fun i hi => ?_⟩
  rw [hB.1] at hi
  have hik : i = t := by simpa using hi
  subst hik
  have hw : wpOp P ops Q' i (fun a' w' => (l ≠ [] → S w') ∧ cC P ops Q' S l a' w') a w := by unfold wpOp; simp only [h0, h.1, if_true]; exact h.2
  have hz' : ts.getLast? = some z ∨ ts = [] := by
   rcases hz with hz | hz
   ·cases ts with
    | nil => exact .inr rfl
    | cons t2 ts2 => left; simpa [List.getLast?_cons_cons] using hz
   ·cases hz
  refine wpOp_mono (fun a' w' h' => ⟨fun hne => h'.1 fun e => hne ?_, fC l ts _ a' w' (by simpa using hlen) (fun j hj => by have := hl (j + 1) (by simpa using hj); simpa using this) hz' hB.2 h'.2⟩) hw
  subst e
  have : ts = [] := List.eq_nil_of_length_eq_zero (by simpa using hlen.symm)
  subst this
  rcases hz with hz | hz
  ·simpa using hz
  ·cases hz
theorem ff {W : World} {z : Nat} (hSW : S W) {Q' : Exit → Act → World → Prop} (hQ : ∀ d v c a w, Q' (.panic c) (Act.put a d v) w → Q' (.panic c) a w) (hsel : Region.noSelect ops = true) {K : Act → Prop} {kB : Array Bool → Bool} {g : Nat}
  (hK : ∀ listed a, ClosedL md ops listed → kB listed = true → K a → gA P md ops Q' S z g listed a W) :
  ∀ (l : List Oper) (is : List Nat) (listed : Array Bool) (a : Act), l.length = is.length → (∀ (j : Nat) (hj : j < is.length), l[j]? = ops[is[j]]?) → (∀ i ∈ is, Reach md ops i z) → ClosedL md ops listed →
  fj md ops kB is listed = true → gh P ops S K l a → gA P md ops Q' S z (l.length + g) listed a W
 | [], [], listed, a, _, _, _, inv, hB, h => by simp only [List.length_nil, Nat.zero_add]; exact hK _ _ inv (by simpa [fj] using hB) h
 | [], _ :: _, _, _, hl, _, _, _, _, _ => by simp at hl
 | _ :: _, [], _, _, hl, _, _, _, _, _ => by simp at hl
 | o :: l, i :: is, listed, a, hlen, hl, hre, inv, hB, h => by
  have h0 : ops[i]? = some o := (hl 0 (by simp)).symm
  simp only [fj, Bool.and_eq_true] at hB
  obtain ⟨⟨hr, hf⟩, hB'⟩ := hB
  have hr' : i ∈ Region.ready md ops listed := by simpa using hr
  obtain ⟨v, hy, hk⟩ := h
  have := lv (Q := Q') h0 (Region.noSelect_spec hsel) (fun c a w h => hQ _ _ c a w h) (hre i (by simp)) (l.length + g) listed a W inv (Region.free_spec h0 hf) hr' hy hSW
   (ff hSW hQ hsel hK l is _ _ (by simpa using hlen) (fun j hj => by have := hl (j + 1) (by simpa using hj); simpa using this) (fun i hi => hre i (by simp [hi])) (inv.set hr') hB' hk)
  rw [show (o :: l).length + g = l.length + g + 1 by simp; omega]
  exact this
def xD (md : Region.Mode) (l : List Oper) (F ts : List Nat) (z : Nat) : Bool :=
 let ops := l.toArray
 Region.noSelect ops && sx md l [z] F && decide (ts.getLast? = some z) && decide (F.length + ts.length = ops.size) && (F.all fun i => decide (i < ops.size)) && (ts.all fun i => decide (i < ops.size))
  && fj md ops (fA md ops ts) F (Array.replicate ops.size false)
theorem dr {id : Nat} {Q : Exit → Act → World → Prop} {a : Act} {w : World} {l : List Oper} (S : World → Prop) (F ts : List Nat) (z : Nat) (hm : P.follows .mixedOrders = true) (hB : xD .any l F ts z = true)
  (hQ : ∀ d v c a w, Q (.panic c) (Act.put a d v) w → Q (.panic c) a w) (hS : S w.drew)
  (h : gh P l.toArray S (fun a' => cC P l.toArray Q S (bD l ts) a' w.drew) (bD l F) a) : (Code.region id l.toArray true).wp P Q a w := by
 simp only [xD, Bool.and_eq_true, decide_eq_true_eq] at hB
 obtain ⟨⟨⟨⟨⟨⟨hsel, hw⟩, hl⟩, hlen⟩, hF⟩, hT⟩, hlex⟩ := hB
 have eF := cG (l := l) (is := F) (by simpa using hF)
 have eT := cG (l := l) (is := ts) (by simpa using hT)
 refine wp_region_any hm (j9 (S := S) (z := z) _ _ _ _ ?_)
 have inv0 : ClosedL .any l.toArray (Array.replicate l.toArray.size false) := ⟨by simp, fun j oj _ hl => (by rw [getD_replicate_false] at hl; cases hl)⟩
 have := ff (md := .any) (Q' := Q) (S := S) (z := z) (W := w.drew) hS hQ hsel (K := fun a' => cC P l.toArray Q S (bD l ts) a' w.drew) (kB := fA .any l.toArray ts) (g := ts.length) (fun listed a _ hb hq => by
  have := fC (md := .any) (Q' := Q) (S := S) (z := z) (bD l ts) ts listed a w.drew eT.1 (fun j hj => by simpa using eT.2 j hj) (.inl hl) hb hq
  rwa [eT.1] at this) (bD l F) F _ a eF.1 (fun j hj => by simpa using eF.2 j hj) (fun i hi => jF hw (List.mem_singleton.2 rfl) hi) inv0 hlex h
 rwa [eF.1, show F.length + ts.length = l.toArray.size from hlen] at this
end
end
section
open Go.RowKit
section
variable {P : Program} {ops : Array Oper} {md : Region.Mode} {S : World → Prop}
theorem ey {W : World} (hSW : S W) {Q' : Exit → Act → World → Prop} (hsel : Region.noSelect ops = true) {K : Act → Prop} {kB : Array Bool → Bool} {g : Nat}
  (hK : ∀ listed a, kB listed = true → K a → wpAnyH P md ops Q' S g listed a W) :
  ∀ (l : List Oper) (is : List Nat) (listed : Array Bool) (a : Act), l.length = is.length → (∀ (j : Nat) (hj : j < is.length), l[j]? = ops[is[j]]?) → (∀ o ∈ l, ∀ v c a w, Q' (.panic c) (Act.put a o.dst v) w → Q' (.panic c) a w) →
  fj md ops kB is listed = true → gh P ops S K l a → wpAnyH P md ops Q' S (l.length + g) listed a W
 | [], [], listed, a, _, _, _, hB, h => by simp only [List.length_nil, Nat.zero_add]; exact hK _ _ (by simpa [fj] using hB) h
 | [], _ :: _, _, _, hl, _, _, _, _ => by simp at hl
 | _ :: _, [], _, _, hl, _, _, _, _ => by simp at hl
 | o :: l, i :: is, listed, a, hlen, hl, hQ, hB, h => by
  have h0 : ops[i]? = some o := (hl 0 (by simp)).symm
  simp only [fj, Bool.and_eq_true] at hB
  obtain ⟨⟨hr, hf⟩, hB'⟩ := hB
  have hr' : i ∈ Region.ready md ops listed := by simpa using hr
  obtain ⟨v, hy, hk⟩ := h
  have := wpAnyH_first (Q := Q') h0 (Region.noSelect_spec hsel) (fun c a w h => hQ o (by simp) _ c a w h) (l.length + g) listed a W (Region.free_spec h0 hf) hr' hy hSW
   (ey hSW hsel hK l is _ _ (by simpa using hlen) (fun j hj => by have := hl (j + 1) (by simpa using hj); simpa using this) (fun o ho => hQ o (List.mem_cons_of_mem _ ho)) hB' hk)
  rw [show (o :: l).length + g = l.length + g + 1 by simp; omega]
  exact this
def tE (md : Region.Mode) (l : List Oper) (F : List Nat) (L : List Bool) : Bool :=
 Region.noSelect l.toArray && (F.all fun i => decide (i < l.toArray.size)) && fj md l.toArray (fun listed => listed == L.toArray) F (Array.replicate l.toArray.size false)
theorem zb {id : Nat} {Q : Exit → Act → World → Prop} {a : Act} {w : World} {l : List Oper} (S : World → Prop) (F : List Nat) (L : List Bool) (g : Nat) (hm : P.follows .mixedOrders = true) (hB : tE .any l F L = true) (hg : F.length + g = l.toArray.size)
  (hQ : ∀ o ∈ bD l F, ∀ v c a w, Q (.panic c) (Act.put a o.dst v) w → Q (.panic c) a w) (hS : S w.drew)
  (h : gh P l.toArray S (fun a' => wpAnyH P .any l.toArray Q S g L.toArray a' w.drew) (bD l F) a) : (Code.region id l.toArray true).wp P Q a w := by
 simp only [tE, Bool.and_eq_true] at hB
 obtain ⟨⟨hsel, hF⟩, hlex⟩ := hB
 have eF := cG (l := l) (is := F) (by simpa using hF)
 refine wp_region_any hm (wpAny_of_held (S := S) _ _ _ _ ?_)
 have := ey (md := .any) (Q' := Q) (S := S) (W := w.drew) hS hsel (K := fun a' => wpAnyH P .any l.toArray Q S g L.toArray a' w.drew) (kB := fun listed => listed == L.toArray) (g := g) (fun listed a hb hq => by
  have : listed = L.toArray := by simpa using hb
  rw [this]; exact hq) (bD l F) F _ a eF.1 (fun j hj => by simpa using eF.2 j hj) hQ hlex h
 rwa [eF.1, hg] at this
theorem yA {Q : Exit → Act → World → Prop} {o : Oper} {i fuel : Nat} {listed : Array Bool} {a : Act} {w : World} (h0 : ops[i]? = some o) (hw : Region.wanted o (yielded ops a.tmps) = true)
  (h : ∀ K : Act → World → Prop, Shut (∀ a w, S w → wpAnyH P md ops Q S fuel (listed.setIfInBounds i true) a w → K a w) → wpList P ops (Qx K Q) [o] a w) : wpOp P ops Q i (fun a' w' => S w' ∧ wpAnyH P md ops Q S fuel (listed.setIfInBounds i true) a' w') a w := by
 unfold wpOp
 simp only [h0, hw, if_true]
 have := h (fun a' w' => S w' ∧ wpAnyH P md ops Q S fuel (listed.setIfInBounds i true) a' w') (fun _ _ h1 h2 => ⟨h1, h2⟩)
 unfold wpList at this
 rw [if_pos hw] at this
 exact this
theorem bG {Q : Exit → Act → World → Prop} {i fuel : Nat} {listed : Array Bool} {a : Act} {w : World} (hr : Region.ready md ops listed = [i]) (h : wpOp P ops Q i (fun a' w' => S w' ∧ wpAnyH P md ops Q S fuel (listed.setIfInBounds i true) a' w') a w) : wpAnyH P md ops Q S (fuel + 1) listed a w :=
  wpAnyH_all hr (by simp) (fun j hj => by have : j = i := by simpa using hj
                                          subst this; exact h)
theorem oS {Q : Exit → Act → World → Prop} {i k fuel : Nat} {listed : Array Bool} {a : Act} {w : World} (hr : Region.ready md ops listed = [i, k]) (h : wpOp P ops Q i (fun a' w' => S w' ∧ wpAnyH P md ops Q S fuel (listed.setIfInBounds i true) a' w') a w)
  (h2 : wpOp P ops Q k (fun a' w' => S w' ∧ wpAnyH P md ops Q S fuel (listed.setIfInBounds k true) a' w') a w) : wpAnyH P md ops Q S (fuel + 1) listed a w :=
 wpAnyH_all hr (by simp) (fun j hj => by
  have : j = i ∨ j = k := by simpa using hj
  rcases this with rfl | rfl
  ·exact h
  ·exact h2)
end
theorem fy {P : Program} {fn : Func} {tmps tmps' : Array Value} {R : Ending → World → Prop} (ht : ∀ w, (results fn tmps).run P w = (results fn tmps').run P w) : ∀ (ds : List Deferred) (u : FrameMode) (w : World), Leaves P fn tmps R ds u w → Leaves P fn tmps' R ds u w
 | [], .returning, w, h => by obtain ⟨v, h1, h2⟩ := h; exact ⟨v, by rw [← ht]; exact h1, h2⟩
 | [], .panicking chain, w, h => h
 | [], .run, _, h => h
 | d :: ds, u, w, h => by
  obtain ⟨hu, fv, cap, f, args, h1, h2, h3⟩ := h
  refine ⟨hu, fv, cap, f, args, h1, h2, h3.mono ?_⟩
  intro e u' w' he
  cases e with
  | returned v => exact fy ht ds _ _ he
  | panicked c => exact fy ht ds _ _ he
  | outgrown => exact he
theorem jb {fn : Func} {p1 p2 d : Tmp} {t1 t2 : TypeId} (h : fn.results = #[.cell p1 t1, .cell p2 t2]) (h1 : d ≠ p1) (h2 : d ≠ p2) (tmps : Array Value) (v : Value) : results fn (tmps.setIfInBounds d v) = results fn tmps := by
 simp [results, h, Array.getElem?_setIfInBounds, h1, h2]
theorem o5 {P : Program} {fn : Func} {p1 p2 d : Tmp} {t1 t2 : TypeId} {R : Ending → World → Prop} (h : fn.results = #[.cell p1 t1, .cell p2 t2]) (h1 : d ≠ p1) (h2 : d ≠ p2) {a : Act} {v : Value} {u : FrameMode} {w : World} (hl : Leaves P fn (a.put (some d) v).tmps R (a.put (some d) v).defers u w) : Leaves P fn a.tmps R a.defers u w :=
 fy (fun w => by rw [show (a.put (some d) v).tmps = a.tmps.setIfInBounds d v from rfl, jb h h1 h2]) _ _ _ hl
end
end Go.Proofs.YtodgfjgljcinlaaGreat
