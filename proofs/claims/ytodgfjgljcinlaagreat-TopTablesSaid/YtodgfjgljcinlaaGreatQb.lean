/- Part Qb of the proof: EnvF, TabC, TabF, Rsat, TabG, TabH, TabI, TabJ, TabK, TabL, TabN, Flo, ChkM, Psat, PlnM, PlnA. -/
import Derived.Test.YtodgfjgljcinlaaGreatQa
import Derived.RangeFuncBox
import Derived.WalkSpells
import Derived.WalkLawsBesides
import Derived.Lib.Hide
import Derived.Handy
import Derived.Maps.AppendAt
import Derived.WalkMore
import Derived.Deep.LoopGhost
namespace Go.Proofs.YtodgfjgljcinlaaGreat
set_option maxHeartbeats 8000000
set_option maxRecDepth 100000
set_option linter.unusedVariables false
section
open Go.RowKit
section
variable {P : Program} {ops : Array Oper} {md : Region.Mode} {W : World}
def ed (P : Program) (ops : Array Oper) (W : World) (odd : List Nat) (deps : List (Nat × Nat)) (Rc : RcT) (Q : yu → Act → Prop) : List Oper → List Nat → yu → Act → Prop
 | o :: l, k :: is, e, a =>
  if odd.contains k then kx P ops W Rc (e.on (mA deps k)).inv o a ∧ ∀ v, (∃ u : Up W, RS P W Rc (execOp a.eval o) v u.w) → ed P ops W odd deps Rc Q l is (e.upd k (RS P W Rc (execOp a.eval o) v)) (a.put o.dst v)
  else if Region.wanted o (yielded ops a.tmps) then sQ P W (e.on (mA deps k)).inv o a (ed P ops W odd deps Rc Q l is e)
  else ed P ops W odd deps Rc Q l is e (a.put o.dst undef)
 | _, _, e, a => Q e a
theorem gX {odd : List Nat} {deps : List (Nat × Nat)} {Rc : RcT} {Q : yu → Act → Prop} {e : yu} {a : Act} (h : Q e a) : ed P ops W odd deps Rc Q [] [] e a := h
theorem cL {odd : List Nat} {deps : List (Nat × Nat)} {Rc : RcT} {Q : yu → Act → Prop} {o : Oper} {l : List Oper} {k : Nat} {is : List Nat} {e : yu} {a : Act} (ho : odd.contains k = false) (hw : Region.wanted o (yielded ops a.tmps) = false)
  (h : ed P ops W odd deps Rc Q l is e (a.put o.dst undef)) : ed P ops W odd deps Rc Q (o :: l) (k :: is) e a := by
 unfold ed
 rw [if_neg (by rw [ho]; exact Bool.false_ne_true), if_neg (by rw [hw]; exact Bool.false_ne_true)]
 exact h
theorem cM {odd : List Nat} {deps : List (Nat × Nat)} {Rc : RcT} {Q : yu → Act → Prop} {o : Oper} {l : List Oper} {k : Nat} {is : List Nat} {e : yu} {a : Act} (ho : odd.contains k = false) (hw : Region.wanted o (yielded ops a.tmps) = true)
  (h : ∀ Z : World → Prop, cw Z → (∀ w, Z w → (e.on (mA deps k)).inv w) → Nonempty (eZ W Z) → ∀ K : Act → Prop, (∀ a, ed P ops W odd deps Rc Q l is e a → K a) → o.quiet P a (fun w' => ∃ u : eZ W Z, w' = u.up.w) K) : ed P ops W odd deps Rc Q (o :: l) (k :: is) e a := by
 unfold ed
 rw [if_neg (by rw [ho]; exact Bool.false_ne_true), if_pos hw]
 exact fun Z h1 h2 h3 => h Z h1 h2 h3 _ fun _ h => h
theorem r6 {odd : List Nat} {deps : List (Nat × Nat)} {Rc : RcT} {Q : yu → Act → Prop} {o : Oper} {l : List Oper} {k : Nat} {is : List Nat} {e : yu} {a : Act} (ho : odd.contains k = true) (hw : Region.wanted o (yielded ops a.tmps) = true)
  (h1 : ∀ u : Up W, (e.on (mA deps k)).inv u.w → aao P Rc u.w ((execOp a.eval o).run P u.w))
  (h : ∀ v, (∃ u : Up W, RS P W Rc (execOp a.eval o) v u.w) → ed P ops W odd deps Rc Q l is (e.upd k (RS P W Rc (execOp a.eval o) v)) (a.put o.dst v)) : ed P ops W odd deps Rc Q (o :: l) (k :: is) e a := by
 unfold ed
 rw [if_pos ho]
 exact ⟨⟨hw, h1⟩, h⟩
theorem kc {deps : List (Nat × Nat)} (hd : adt md ops deps = true) {listed : Array Bool} (inv : ClosedL md ops listed) {j h : Nat} (hr : j ∈ Region.ready md ops listed) (hu : listed.getD h false = false) : mA deps j h = false := by
 cases hc : mA deps j h with
 | false => rfl
 | true =>
  unfold mA at hc
  have hm := List.contains_iff_mem.1 hc
  have := List.all_eq_true.1 hd _ hm
  have := aa0 inv hr this
  rw [hu] at this
  cases this
def g9 (P : Program) (md : Region.Mode) (ops : Array Oper) (W : World) (odd : List Nat) (deps : List (Nat × Nat)) (Rc : RcT) (hs : List Nat) (L : yu → Array Bool → Act → Prop) : Nat → yu → Array Bool → Act → Prop
 | 0, e, listed, a => L e listed a
 | f + 1, e, listed, a => Region.ready md ops listed ≠ [] ∧ ∀ i ∈ Region.ready md ops listed, i ∈ hs ∧
   (odd.contains i = true → ∀ oi, ops[i]? = some oi → kx P ops W Rc (e.on (mA deps i)).inv oi a ∧
    ∀ v, (∃ u : Up W, (e.upd i (RS P W Rc (execOp a.eval oi) v)).inv u.w) → g9 P md ops W odd deps Rc hs L f (e.upd i (RS P W Rc (execOp a.eval oi) v)) (listed.setIfInBounds i true) (a.put oi.dst v)) ∧
   (odd.contains i = false → gP P ops W deps e i (g9 P md ops W odd deps Rc hs L f e (listed.setIfInBounds i true)) a)
theorem ct {odd : List Nat} {deps : List (Nat × Nat)} {Rc : RcT} (hRc : ∀ f args v, cw (Rc f args v)) {hs : List Nat} {g : Nat} {L : yu → Array Bool → Act → Prop} {Q' : Exit → Act → World → Prop}
  (hL : ∀ e listed a w, Below W.heap.size W w → e.inv w → L e listed a → wpAny P md ops Q' g listed a w) :
  ∀ (f : Nat) (e : yu) (listed : Array Bool) (a : Act) (w : World), Below W.heap.size W w → e.stable → e.inv w → g9 P md ops W odd deps Rc hs L f e listed a → wpAny P md ops Q' (f + g) listed a w
 | 0, e, listed, a, w, hw, _, hv, hh => by rw [Nat.zero_add]; exact hL e _ _ _ hw hv hh
 | f + 1, e, listed, a, w, hw, hst, hv, hh => by
  rw [show f + 1 + g = (f + g) + 1 by omega]
  refine ⟨fun h0 => absurd h0 hh.1, fun i hi => ?_⟩
  obtain ⟨_, h1, h2⟩ := hh.2 i hi
  obtain ⟨_, oi, hoi, _⟩ := mem_ready.1 hi
  cases hodd : odd.contains i with
  | true =>
   obtain ⟨⟨hwant, ho⟩, hnext⟩ := h1 hodd oi hoi
   have ho' := ho ⟨w, hw⟩ (yu.inv_on hv)
   unfold wpOp
   simp only [hoi, hwant, if_true]
   refine .inl ?_
   unfold Oper.wp
   have ho2 : aao P Rc w ((execOp a.eval oi).run P w) := ho'
   generalize hr : (execOp a.eval oi).run P w = r at *
   cases r with
   | ok nx w' =>
    cases nx <;> simp only [aao] at ho2 <;> simp only [Oper.upon]
    case value x =>
     have hw' := hw.trans (ho2.mono hw.size)
     have hrs : RS P W Rc (execOp a.eval oi) x w' := ⟨⟨w, hw⟩, by
      show match (execOp a.eval oi).run P w with
       | .ok (.value x') w1 => x' = x ∧ Below w1.heap.size w1 w'
       | .ok (.enter f args) _ => Rc f args x w'
       | _ => False
      rw [hr]; exact ⟨rfl, Below.refl _ _⟩⟩
     have hi' := yu.inv_upd (i := i) (yu.inv_stable hst _ _ hv ho2) hrs
     exact ct hRc hL f _ _ _ _ hw' (yu.stable_upd hst (RS.stable hRc _ _)) hi' (hnext x ⟨⟨w', hw'⟩, hi'⟩)
    case enter f' args =>
     obtain ⟨rfl, hc⟩ := ho2
     refine hc.mono fun en w'' ⟨v, he, hrc, hb⟩ => ?_
     subst he
     have hw' := hw.trans (hb.mono hw.size)
     have hrs : RS P W Rc (execOp a.eval oi) v w'' := ⟨⟨w', hw⟩, by
      show match (execOp a.eval oi).run P w' with
       | .ok (.value x') w1 => x' = v ∧ Below w1.heap.size w1 w''
       | .ok (.enter f args) _ => Rc f args v w''
       | _ => False
      rw [hr]; exact hrc⟩
     have hi' := yu.inv_upd (i := i) (yu.inv_stable hst _ _ hv hb) hrs
     exact ct hRc hL f _ _ _ _ hw' (yu.stable_upd hst (RS.stable hRc _ _)) hi' (hnext v ⟨⟨w'', hw'⟩, hi'⟩)
   | halt x w' => simp only [aao] at ho2
  | false =>
   have h3 := h2 hodd
   unfold gP at h3
   unfold wpOp
   simp only [hoi] at h3 ⊢
   split
   ·rename_i hwt
    simp only [hwt, if_true] at h3
    refine .inl ?_
    refine Oper.wp_of_quiet (C := fun w' => ∃ u : eZ W e.inv, w' = u.up.w) (K := g9 P md ops W odd deps Rc hs L f e (listed.setIfInBounds i true)) ⟨⟨⟨w, hw⟩, hv⟩, rfl⟩ (fun a' w' hw' hk => ?_) (h3 e.inv (yu.inv_stable hst) (fun w' h => yu.inv_on h) ⟨⟨⟨w, hw⟩, hv⟩⟩)
    obtain ⟨u, rfl⟩ := hw'
    exact ct hRc hL f e _ _ _ u.up.bel hst u.z hk
   ·rename_i hwt; simp only [hwt] at h3
    exact ct hRc hL f e _ _ _ hw hst hv h3
structure FirstH (md : Region.Mode) (ops : Array Oper) (listed : Array Bool) (hs : List Nat) (i : Nat) (oi : Oper) : Prop where
 here : ops[i]? = some oi
 low : i ∈ hs
 free : ∀ j oj, ops[j]? = some oj → j ≠ i → listed.getD j true = false → (∀ e ∈ oj.after, Region.binds md e = true → e.on ≠ i) → oi.apart ops oj = true
 ready : i ∈ Region.ready md ops listed
theorem FirstH.set {listed : Array Bool} {hs : List Nat} {i j : Nat} {oi : Oper} (h : FirstH md ops listed hs i oi) (hj : j ∈ Region.ready md ops listed) (hji : j ≠ i) : FirstH md ops (listed.setIfInBounds j true) hs i oi :=
 ⟨h.here, h.low, fun k ok hk hki hun hno => by
  refine h.free k ok hk hki ?_ hno
  by_cases hjk : j = k
  ·subst hjk; exact (mem_ready.1 hj).1
  ·rw [getD_set_ne true hjk] at hun; exact hun, ready_mono h.ready (Ne.symm hji)⟩
theorem FirstH.apart {listed : Array Bool} {hs : List Nat} {i j : Nat} {oi oj : Oper} (h : FirstH md ops listed hs i oi) (hj : j ∈ Region.ready md ops listed) (hji : j ≠ i) (hoj : ops[j]? = some oj) : oi.apart ops oj = true := by
 refine h.free j oj hoj hji (mem_ready.1 hj).1 fun e he hb heq => ?_
 obtain ⟨_, oj', hoj', hall⟩ := mem_ready.1 hj
 rw [hoj] at hoj'
 obtain rfl := Option.some.inj hoj'
 have h1 := hall e he hb
 rw [heq, getD_both (mem_ready.1 h.ready).1] at h1
 cases h1
theorem fD {listed : Array Bool} {i : Nat} (inv : ClosedL md ops listed) (hi : i ∈ Region.ready md ops listed) : i < listed.size := by
 obtain ⟨_, o, ho, _⟩ := mem_ready.1 hi
 rw [inv.size]; exact (Array.getElem?_eq_some_iff.1 ho).1
theorem nm {odd : List Nat} {deps : List (Nat × Nat)} {Rc : RcT} (hRc : ∀ f args v, cw (Rc f args v)) {hs ts : List Nat} {i : Nat} {oi : Oper} {v : Value} {L : yu → Array Bool → Act → Prop} (hd : adt md ops deps = true) (hio : odd.contains i = false) (hsel : ∀ (j : Nat) (o : Oper) cs b, ops[j]? = some o → o.op ≠ .select cs b)
  (hw : ∀ (t : Nat), t ∈ ts → ∀ (h : Nat), h ∈ hs → Reach md ops h t) (hdone : ∀ e listed a, L e listed a → ∀ j ∈ Region.ready md ops listed, j ∉ hs) :
  ∀ (f : Nat) (e : yu) (listed : Array Bool) (a : Act), ClosedL md ops listed → zc ops hs ts listed → e.stable → gZ e listed → FirstH md ops listed hs i oi → bC P ops W (e.on (mA deps i)).inv oi v a →
   g9 P md ops W odd deps Rc hs L f e (listed.setIfInBounds i true) (a.put oi.dst v) → g9 P md ops W odd deps Rc hs L (f + 1) e listed a := by
 intro f
 induction f with
 | zero =>
  intro e listed a inv hcv hst hbl fi hy H
  have hun := (mem_ready.1 fi.ready).1
  refine ⟨fun h => (by have := fi.ready; rw [h] at this; cases this), fun j hj => ?_⟩
  have hjn := eJ hw inv hcv fi.low hun hj
  by_cases hji : j = i
  ·subst hji
   exact ⟨hjn, (fun ho => by rw [hio] at ho; cases ho), fun _ => hy.qOp fi.here H⟩
  ·exact absurd hjn (hdone _ _ _ H j (ready_mono hj hji))
 | succ f ih =>
  intro e listed a inv hcv hst hbl fi hy H
  have hun := (mem_ready.1 fi.ready).1
  refine ⟨fun h => (by have := fi.ready; rw [h] at this; cases this), fun j hj => ?_⟩
  have hjn := eJ hw inv hcv fi.low hun hj
  by_cases hji : j = i
  ·subst hji
   exact ⟨hjn, (fun ho => by rw [hio] at ho; cases ho), fun _ => hy.qOp fi.here H⟩
  obtain ⟨_, oj, hoj, _⟩ := mem_ready.1 hj
  have hap := fi.apart hj hji hoj
  obtain ⟨p1, p2, p3⟩ := Oper.apart_spec hap
  have hsi := fun cs b => hsel i oi cs b fi.here
  have hsj := fun cs b => hsel j oj cs b hoj
  refine ⟨hjn, fun hjo oj' hoj' => ?_, fun hjo => ?_⟩
  ·rw [hoj] at hoj'
   obtain rfl := Option.some.inj hoj'
   obtain ⟨h1, h2⟩ := (H.2 j (ready_mono hj hji)).2.1 hjo oj hoj
   rw [execOp_put oj hsj a oi.dst v p1] at h2
   refine ⟨h1.of_same (execOp_put oj hsj a oi.dst v p1).symm (wanted_put oj a oi.dst v p1).symm, fun u hu => ?_⟩
   refine ih _ (listed.setIfInBounds j true) _ (inv.set hj) (hcv.set j) (yu.stable_upd hst (RS.stable hRc _ _)) (hbl.upd (fD inv hj) _) (fi.set hj hji)
    ((hy.of_same (execOp_put oi hsi a oj.dst u p3) (wanted_put oi a oj.dst u p3)).less fun w hw => mX (hbl j (getD_both (mem_ready.1 hj).1)) hw) ?_
   rw [Array.setIfInBounds_comm _ _ hji, ← Act.put_comm a v u p2]
   exact h2 u hu
  ·have h1 := (H.2 j (ready_mono hj hji)).2.2 hjo
   refine qf (fun a' h3 => ih e (listed.setIfInBounds j true) a' (inv.set hj) (hcv.set j) hst (hbl.set j) (fi.set hj hji) h3.1 ?_) (ti hoj hap hsi hsj hy h1)
   rw [Array.setIfInBounds_comm _ _ hji]
   exact h3.2
theorem pP {odd : List Nat} {deps : List (Nat × Nat)} {Rc : RcT} (hRc : ∀ f args v, cw (Rc f args v)) {hs ts : List Nat} {i : Nat} {oi : Oper} {L : yu → Array Bool → Act → Prop} (hd : adt md ops deps = true) (hio : odd.contains i = true) (hsel : ∀ (j : Nat) (o : Oper) cs b, ops[j]? = some o → o.op ≠ .select cs b)
  (hw : ∀ (t : Nat), t ∈ ts → ∀ (h : Nat), h ∈ hs → Reach md ops h t) (hdone : ∀ e listed a, L e listed a → ∀ j ∈ Region.ready md ops listed, j ∉ hs) :
  ∀ (f : Nat) (e : yu) (listed : Array Bool) (a : Act), ClosedL md ops listed → zc ops hs ts listed → e.stable → gZ e listed → FirstH md ops listed hs i oi → (∃ u : Up W, e.inv u.w) →
   (kx P ops W Rc (e.on (mA deps i)).inv oi a ∧ ∀ v, (∃ u : Up W, (e.upd i (RS P W Rc (execOp a.eval oi) v)).inv u.w) →
    g9 P md ops W odd deps Rc hs L f (e.upd i (RS P W Rc (execOp a.eval oi) v)) (listed.setIfInBounds i true) (a.put oi.dst v)) → g9 P md ops W odd deps Rc hs L (f + 1) e listed a := by
 intro f
 have some_v : ∀ (e : yu) (a : Act), e.stable → (∃ u : Up W, e.inv u.w) → kx P ops W Rc (e.on (mA deps i)).inv oi a → ∃ v, ∃ u : Up W, (e.upd i (RS P W Rc (execOp a.eval oi) v)).inv u.w := by
  rintro e a hst ⟨u, hu⟩ ho
  obtain ⟨v, u', hb, hr⟩ := ho.some u (yu.inv_on hu)
  exact ⟨v, u', yu.inv_upd (yu.inv_stable hst _ _ hu hb) hr⟩
 induction f with
 | zero =>
  intro e listed a inv hcv hst hbl fi hne H
  have hun := (mem_ready.1 fi.ready).1
  obtain ⟨v0, hv0⟩ := some_v e a hst hne H.1
  refine ⟨fun h => (by have := fi.ready; rw [h] at this; cases this), fun j hj => ?_⟩
  have hjn := eJ hw inv hcv fi.low hun hj
  by_cases hji : j = i
  ·subst hji
   exact ⟨hjn, (fun _ oi' hoi' => by rw [fi.here] at hoi'; obtain rfl := Option.some.inj hoi'; exact H), fun ho => by rw [hio] at ho; cases ho⟩
  ·exact absurd hjn (hdone _ _ _ (H.2 v0 hv0) j (ready_mono hj hji))
 | succ f ih =>
  intro e listed a inv hcv hst hbl fi hne H
  have hun := (mem_ready.1 fi.ready).1
  obtain ⟨v0, hv0⟩ := some_v e a hst hne H.1
  refine ⟨fun h => (by have := fi.ready; rw [h] at this; cases this), fun j hj => ?_⟩
  have hjn := eJ hw inv hcv fi.low hun hj
  by_cases hji : j = i
  ·subst hji
   exact ⟨hjn, (fun _ oi' hoi' => by rw [fi.here] at hoi'; obtain rfl := Option.some.inj hoi'; exact H), fun ho => by rw [hio] at ho; cases ho⟩
  obtain ⟨_, oj, hoj, _⟩ := mem_ready.1 hj
  have hap := fi.apart hj hji hoj
  obtain ⟨p1, p2, p3⟩ := Oper.apart_spec hap
  have hsi := fun cs b => hsel i oi cs b fi.here
  have hsj := fun cs b => hsel j oj cs b hoj
  have dji : mA deps j i = false := kc hd inv hj (getD_both hun)
  have dij : mA deps i j = false := kc hd inv fi.ready (getD_both (mem_ready.1 hj).1)
  have ej : e j = none := hbl j (getD_both (mem_ready.1 hj).1)
  refine ⟨hjn, fun hjo oj' hoj' => ?_, fun hjo => ?_⟩
  ·rw [hoj] at hoj'
   obtain rfl := Option.some.inj hoj'
   have h1 := ((H.2 v0 hv0).2 j (ready_mono hj hji)).2.1 hjo oj hoj
   rw [yu.upd_on dji] at h1
   refine ⟨h1.1.of_same (execOp_put oj hsj a oi.dst v0 p1).symm (wanted_put oj a oi.dst v0 p1).symm, fun u hu => ?_⟩
   refine ih _ (listed.setIfInBounds j true) _ (inv.set hj) (hcv.set j) (yu.stable_upd hst (RS.stable hRc _ _)) (hbl.upd (fD inv hj) _) (fi.set hj hji) hu ⟨?_, fun v hv => ?_⟩
   ·rw [yu.upd_on dij]
    exact H.1.of_same (execOp_put oi hsi a oj.dst u p3) (wanted_put oi a oj.dst u p3)
   ·rw [execOp_put oi hsi a oj.dst u p3] at hv ⊢
    rw [yu.upd_comm hji] at hv ⊢
    obtain ⟨x, hx⟩ := hv
    have hx1 : (e.upd i (RS P W Rc (execOp a.eval oi) v)).inv x.w := yu.inv_of_upd (by unfold yu.upd; rw [if_neg hji]; exact ej) hx
    have h2 := (((H.2 v ⟨x, hx1⟩).2 j (ready_mono hj hji)).2.1 hjo oj hoj).2 u
    rw [execOp_put oj hsj a oi.dst v p1] at h2
    rw [Array.setIfInBounds_comm _ _ hji, ← Act.put_comm a v u p2]
    exact h2 ⟨x, hx⟩
  ·have q0 := ((H.2 v0 hv0).2 j (ready_mono hj hji)).2.2 hjo
   obtain ⟨u, hu, _⟩ := dP (yu.stable_upd hst (RS.stable hRc _ _)) hv0 hoj q0
   rw [yu.upd_on dji] at hu
   have hu' := hu.of_same (execOp_put oj hsj a oi.dst v0 p1).symm (wanted_put oj a oi.dst v0 p1).symm
   refine hu'.qOp hoj ?_
   refine ih e (listed.setIfInBounds j true) _ (inv.set hj) (hcv.set j) hst (hbl.set j) (fi.set hj hji) hne ⟨H.1.of_same (execOp_put oi hsi a oj.dst u p3) (wanted_put oi a oj.dst u p3), fun v hv => ?_⟩
   rw [execOp_put oi hsi a oj.dst u p3] at hv ⊢
   have q1 := ((H.2 v hv).2 j (ready_mono hj hji)).2.2 hjo
   obtain ⟨u', hy1, hK⟩ := dP (yu.stable_upd hst (RS.stable hRc _ _)) hv hoj q1
   rw [yu.upd_on dji] at hy1
   have hy2 := hy1.of_same (execOp_put oj hsj a oi.dst v p1).symm (wanted_put oj a oi.dst v p1).symm
   obtain ⟨x, hx⟩ := hne
   obtain rfl := bC.one (yu.inv_stable (yu.stable_on hst)) x (yu.inv_on hx) hu' hy2
   rw [Array.setIfInBounds_comm _ _ hji, ← Act.put_comm a v u p2]
   exact hK
theorem ia {odd : List Nat} {deps : List (Nat × Nat)} {Rc : RcT} (hRc : ∀ f args v, cw (Rc f args v)) {hs ts : List Nat} {Lq : yu → Act → Prop} (hd : adt md ops deps = true) (hsel : Region.noSelect ops = true)
  (hw : ∀ (t : Nat), t ∈ ts → ∀ (h : Nat), h ∈ hs → Reach md ops h t) (hdt : (ts.all fun t => !hs.contains t) = true) :
  ∀ (l : List Oper) (is : List Nat) (e : yu) (listed : Array Bool) (a : Act), l.length = is.length → (∀ (j : Nat) (hj : j < is.length), l[j]? = ops[is[j]]?) → (∀ i ∈ is, i ∈ hs) → ClosedL md ops listed → zc ops hs ts listed → e.stable → gZ e listed → (∃ u : Up W, e.inv u.w) →
  fj md ops (fA md ops ts) is listed = true → ed P ops W odd deps Rc Lq l is e a →
  g9 P md ops W odd deps Rc hs (fun e' listed' a' => fA md ops ts listed' = true ∧ e'.stable ∧ Lq e' a') l.length e listed a
 | [], [], e, listed, a, _, _, _, inv, _, hst, _, _, hB, h => ⟨by simpa [fj] using hB, hst, h⟩
 | [], _ :: _, _, _, _, hl, _, _, _, _, _, _, _, _, _ => by simp at hl
 | _ :: _, [], _, _, _, hl, _, _, _, _, _, _, _, _, _ => by simp at hl
 | o :: l, i :: is, e, listed, a, hlen, hl, hin, inv, hcv, hst, hbl, hne, hB, h => by
  have h0 : ops[i]? = some o := (hl 0 (by simp)).symm
  simp only [fj, Bool.and_eq_true] at hB
  obtain ⟨⟨hr, hf⟩, hB'⟩ := hB
  have hr' : i ∈ Region.ready md ops listed := by simpa using hr
  have fi : FirstH md ops listed hs i o := ⟨h0, hin i (by simp), Region.free_spec h0 hf, hr'⟩
  have hlen' : l.length = is.length := by simpa using hlen
  have hl' : ∀ (j : Nat) (hj : j < is.length), l[j]? = ops[is[j]]? := fun j hj => by have := hl (j + 1) (by simpa using hj); simpa using this
  have hin' : ∀ i ∈ is, i ∈ hs := fun i hi => hin i (by simp [hi])
  have hdone : ∀ (e : yu) (listed : Array Bool) (a : Act), (fA md ops ts listed = true ∧ e.stable ∧ Lq e a) → ∀ j ∈ Region.ready md ops listed, j ∉ hs := fun e listed' a' hL j hj hjs => by
   have h1 := nU hL.1 j hj
   have h2 := List.all_eq_true.1 hdt j h1
   rw [List.contains_iff_mem.2 hjs] at h2
   cases h2
  cases ho : odd.contains i with
  | true =>
   unfold ed at h
   rw [if_pos ho] at h
   refine pP hRc hd ho (Region.noSelect_spec hsel) hw hdone l.length e listed a inv hcv hst hbl fi hne ⟨h.1, fun v hv => ?_⟩
   obtain ⟨x, hx⟩ := hv
   exact ia hRc hd hsel hw hdt l is _ _ _ hlen' hl' hin' (inv.set hr') (hcv.set i) (yu.stable_upd hst (RS.stable hRc _ _)) (hbl.upd (fD inv hr') _) ⟨x, hx⟩ hB' (h.2 v ⟨x, yu.upd_inv hx⟩)
  | false =>
   have hq : gP P ops W deps e i (ed P ops W odd deps Rc Lq l is e) a := by
    unfold ed at h
    rw [if_neg (by rw [ho]; exact Bool.false_ne_true)] at h
    unfold gP
    simp only [h0]
    exact h
   obtain ⟨v, hy, hK⟩ := dP hst hne h0 hq
   exact nm hRc hd ho (Region.noSelect_spec hsel) hw hdone l.length e listed a inv hcv hst hbl fi hy
    (ia hRc hd hsel hw hdt l is e _ _ hlen' hl' hin' (inv.set hr') (hcv.set i) hst (hbl.set i) hne hB' hK)
theorem cX {id : Nat} {Q : Exit → Act → World → Prop} {a : Act} {w : World} {l : List Oper} (F hs ts : List Nat) (odd : List Nat) (deps : List (Nat × Nat)) (Rc : RcT) (hm : P.follows .mixedOrders = true) (hB : (nP .any l F hs ts && adt .any l.toArray deps) = true)
  (hQ : ∀ d v c a w, Q (.panic c) (Act.put a d v) w → Q (.panic c) a w) (hRc : ∀ f args v, cw (Rc f args v))
  (H : lJ P l.toArray (ed P l.toArray w odd deps Rc (fun e a' => ∀ u : Up w, e.inv u.w → wpList P l.toArray Q (bD l ts) a' u.w) (bD l hs) hs (fun _ => none)) (bD l F) a) : (Code.region id l.toArray true).wp P Q a w := by
 rw [Bool.and_eq_true] at hB
 obtain ⟨hB, hdep⟩ := hB
 simp only [nP, Bool.and_eq_true, decide_eq_true_eq] at hB
 obtain ⟨⟨⟨⟨⟨⟨⟨⟨hsel, hcov⟩, hd⟩, hw⟩, hlen⟩, hF⟩, hH⟩, hT⟩, hlex⟩ := hB
 have eF := cG (l := l) (is := F) (by simpa using hF)
 have eH := cG (l := l) (is := hs) (by simpa using hH)
 have eT := cG (l := l) (is := ts) (by simpa using hT)
 refine wp_region_any hm ?_
 have inv0 : ClosedL .any l.toArray (Array.replicate l.toArray.size false) := ⟨by simp, fun j oj _ hl => (by rw [getD_replicate_false] at hl; cases hl)⟩
 have key : ∀ (listed : Array Bool) (a : Act) (w' : World), Below w.heap.size w w' → ClosedL .any l.toArray listed → (F.all (fun i => listed.getD i false) && fj .any l.toArray (fA .any l.toArray ts) hs listed) = true →
   ed P l.toArray w odd deps Rc (fun e a' => ∀ u : Up w, e.inv u.w → wpList P l.toArray Q (bD l ts) a' u.w) (bD l hs) hs (fun _ => none) a → wpAny P .any l.toArray Q (hs.length + ts.length) listed a w' := by
  intro listed a w' hw' inv hb hq
  simp only [Bool.and_eq_true] at hb
  have hcv : zc l.toArray hs ts listed := fun j oj hj hun => by
   have hlt := (Array.getElem?_eq_some_iff.1 hj).1
   have h1 := List.all_eq_true.1 hcov j (List.mem_range.2 hlt)
   simp only [Bool.or_eq_true, List.contains_iff_mem] at h1
   rcases h1 with (h1 | h1) | h1
   ·have h2 := List.all_eq_true.1 hb.1 j h1
    rw [getD_both hun] at h2; cases h2
   ·exact .inl h1
   ·exact .inr h1
  have := ia (md := .any) hRc hdep hsel (fun t ht h hh => jF hw ht hh) hd (bD l hs) hs (fun _ => none) listed a eH.1 (fun j hj => by simpa using eH.2 j hj) (fun i hi => hi) inv hcv (fun h p hp => by cases hp) (fun h _ => rfl) ⟨⟨w, Below.refl _ _⟩, fun h p hp => by cases hp⟩ hb.2 hq
  have := ct (md := .any) (W := w) (Q' := Q) (g := ts.length) hRc (fun e listed' a' w' hw' hr hL => by
   have := gp (md := .any) (Q' := Q) (bD l ts) ts listed' a' w' eT.1 (fun j hj => by simpa using eT.2 j hj) hL.1 (hL.2.2 ⟨w', hw'⟩ hr)
   rwa [eT.1] at this) _ (fun _ => none) _ _ w' hw' (fun h p hp => by cases hp) (fun h p hp => by cases hp) this
  rwa [eH.1] at this
 have := fM (md := .any) (Q' := Q) (W := { w with drawn := w.drawn + 1 }) hQ hsel (fun listed a inv hb hq => key listed a _ (Below.refl _ w).drew inv hb hq) (bD l F) F _ a eF.1 (fun j hj => by simpa using eF.2 j hj) inv0 hlex H
 rwa [eF.1, show F.length + (hs.length + ts.length) = l.toArray.size from hlen] at this
theorem aad {K : Act → Prop} {o : Oper} {l : List Oper} {a : Act} {x : Operand} {v : Value} (ho : o.op = .move x) (hw : Region.wanted o (yielded ops a.tmps) = true) (hv : a.eval x = v) (h : lJ P ops K l (a.put o.dst v)) : lJ P ops K (o :: l) a :=
 ⟨v, .inl ⟨hw, fun w => by subst hv; unfold execOp; simp only [ho]; rfl⟩, h⟩
def oJ : RcT := fun _ _ _ _ => False
theorem dY : ∀ f args v, cw (oJ f args v) := fun _ _ _ _ _ h _ => h.elim
structure BuiltS (m : Nat) (o : Obj) (q : Nat) (w : World) : Prop where
 out : w.heap[q]? = some o
theorem BuiltS.lt {m : Nat} {o : Obj} {q : Nat} {w : World} (h : BuiltS m o q w) : q < w.heap.size := (Array.getElem?_eq_some_iff.1 h.out).1
theorem BuiltS.below {m : Nat} {o : Obj} {q : Nat} {w w' : World} (h : BuiltS m o q w) (hb : Below w.heap.size w w') : BuiltS m o q w' := ⟨by rw [hb.block _ h.lt]; exact h.out⟩
theorem eV {odd : List Nat} {deps : List (Nat × Nat)} {Q : yu → Act → Prop} {o : Oper} {l : List Oper} {k : Nat} {is : List Nat} {e : yu} {a : Act} (m : Nat) (ob : Obj) (ho : odd.contains k = true) (hw : Region.wanted o (yielded ops a.tmps) = true)
  (hrun : ∀ w : World, (execOp a.eval o).run P w = .ok (.value (.slice (some ⟨w.heap.size, 0, none⟩) m m)) (w.alloc ob))
  (h : ∀ (q : Nat) (p : World → Prop), W.heap.size ≤ q → (∀ w, p w → BuiltS m ob q w) → ed P ops W odd deps oJ Q l is (e.upd k p) (a.put o.dst (.slice (some ⟨q, 0, none⟩) m m))) : ed P ops W odd deps oJ Q (o :: l) (k :: is) e a := by
 refine r6 ho hw (fun u _ => by rw [hrun]; exact (Below.refl _ _).alloc (Nat.le_refl _) _) ?_
 rintro v ⟨u, hu⟩
 have hu0 := hu
 obtain ⟨u1, h1⟩ := hu
 rw [hrun] at h1
 obtain ⟨rfl, hb⟩ := h1
 refine h _ _ u1.bel.size fun w hr => ?_
 obtain ⟨u2, h2⟩ := hr
 rw [hrun] at h2
 obtain ⟨hv, hb2⟩ := h2
 have : u2.w.heap.size = u1.w.heap.size := by simpa using hv
 rw [← this]
 exact ⟨by rw [hb2.block _ (by simp)]; exact aq _ _⟩
end
theorem eG {m : Nat} {q : Nat} {w : World} {t : TypeId} (zs : List Int) (h : BuiltS m (.cells (zs.map (Value.int .i64)).toArray t) q w) : bQ w (some ⟨q, 0, none⟩) zs := by
 right
 refine ⟨_, 0, rfl, h.lt, fun i hi => ?_⟩
 rw [aV h.out (0 + i) (v := .int .i64 (zs.getD i 0)) (by simp [hi, List.getD])]
theorem my {e : yu} {deps : List (Nat × Nat)} {k h : Nat} {p : World → Prop} {w : World} (hi : (e.on (mA deps k)).inv w) (hd : mA deps k h = true) (he : e h = some p) : p w := hi h p (by unfold yu.on; rw [if_pos hd]; exact he)
end
section
open Go.RowKit
def atI (zs : List Int) (i : Int) : Int := if i < 0 then 0 else zs.getD i.toNat 0
def ot (zs : List Int) (i n : Int) : Int := atI zs i % n
theorem aaf (zs : List Int) (k : Nat) (n : Int) : ot zs k n = fr zs k n := by unfold ot atI fr; rw [if_neg (by omega)]; rfl
theorem yi (zs : List Int) (i : Int) (k : Nat) (n : Int) (h : i = k) : ot zs i n = fr zs k n := by rw [h, aaf]
theorem aed (a : Option Addr) (cap : Nat) (zs : List Int) (i : Int) (w : World) (hl : zs.length ≤ 9223372036854775807) (hi : bQ w a zs) :
  Calls Tryz.prog 34 #[.slice a zs.length cap, .int .i64 i] w fun e w' => e = .returned (.int .i64 (atI zs i)) ∧ w = w' := by
 by_cases h0 : i < 0
 ·go_enter Tryz.func34, Tryz.ntmps34
  go_wp2
  go_ret
  exact ⟨bU (by unfold atI; rw [if_pos h0]), rfl⟩
 ·by_cases h1 : i < zs.length
  ·obtain ⟨b, off, rfl, hb, hc⟩ := hi.cell (by omega)
   obtain ⟨k, rfl⟩ := Int.eq_ofNat_of_zero_le (show 0 ≤ i by omega)
   have hcell := hc k (by omega)
   clear hc hi
   go_enter Tryz.func34, Tryz.ntmps34
   go_wp2
   go_ret
   exact ⟨bU (by unfold atI; rw [if_neg (by omega)]; simp), rfl⟩
  ·have h2 : (zs.length : Int) ≤ i := by omega
   go_enter Tryz.func34, Tryz.ntmps34
   go_wp2
   go_ret
   refine ⟨bU ?_, rfl⟩
   unfold atI
   rw [if_neg (by omega), List.getD_eq_getElem?_getD, List.getElem?_eq_none (by omega)]; rfl
theorem yg (a : Option Addr) (cap : Nat) (zs : List Int) (i n : Int) (w : World) (hl : zs.length ≤ 9223372036854775807) (hn : 1 ≤ n) (hn2 : n ≤ 4294967296) (hi : bQ w a zs) :
  Calls Tryz.prog 86 #[.slice a zs.length cap, .int .i64 i, .int .i64 n] w fun e w' => e = .returned (.int .i64 (ot zs i n)) ∧ w = w' := by
 have HZ : Hid (∀ w', Below w.heap.size w w' → bQ w' a zs) := Lib.hid fun w' hb => bk.below hi hb (Nat.le_refl _)
 have HZL := Lib.hid hl
 clear hi hl
 go_enter Tryz.func86, Tryz.ntmps86
 go_wp2_with (first | (go_at_call 34; refine (aed _ _ _ _ _ HZL.out (HZ.out _ (by exact yd))).mono ?_; rintro e w' ⟨rfl, rfl⟩) | (go_at_call 23; refine (acW _ _ _ (by omega) (by omega)).mono ?_; rintro e w' ⟨rfl, rfl⟩))
 go_ret
 exact ⟨rfl, rfl⟩
theorem acj (a : Option Addr) (cap : Nat) (zs : List Int) (i : Nat) (w : World) (hl : zs.length ≤ 9223372036854775807) (hi : i ≤ 10000) (hz : bQ w a zs) :
  Calls Tryz.prog 84 #[.slice a zs.length cap, .int .i64 i] w fun e w' => e = .returned (.agg (cy (phM zs i)).toArray) ∧ Below w.heap.size w w' := by
 have HZ : Hid (∀ w', Below w.heap.size w w' → bQ w' a zs) := Lib.hid fun w' hb => bk.below hz hb (Nat.le_refl _)
 have HZL := Lib.hid hl
 have e0 := aaf zs i 12
 have e1 := yi zs ((i : Int) + 1) (i + 1) 9 (by omega)
 have e2 := yi zs ((i : Int) + 2) (i + 2) 6 (by omega)
 have e3 := yi zs ((i : Int) + 3) (i + 3) 4 (by omega)
 have e4 := yi zs ((i : Int) + 4) (i + 4) 5 (by omega)
 have e5 := yi zs ((i : Int) + 5) (i + 5) 25 (by omega)
 have e6 := yi zs ((i : Int) + 6) (i + 6) 15 (by omega)
 have e7 := yi zs ((i : Int) + 7) (i + 7) 2 (by omega)
 have e8 := yi zs ((i : Int) + 8) (i + 8) 10 (by omega)
 have e8' := yi zs ((i : Int) + 8) (i + 8) 97 (by omega)
 have e9 := yi zs ((i : Int) + 9) (i + 9) 7 (by omega)
 have e10 := yi zs ((i : Int) + 10) (i + 10) 3 (by omega)
 have e11 := yi zs ((i : Int) + 11) (i + 11) 4 (by omega)
 have b0 := yh zs i (n := 12) (by omega)
 have b1 := yh zs (i + 1) (n := 9) (by omega)
 have b2 := yh zs (i + 2) (n := 6) (by omega)
 have b3 := yh zs (i + 3) (n := 4) (by omega)
 have b4 := yh zs (i + 4) (n := 5) (by omega)
 have b5 := yh zs (i + 5) (n := 25) (by omega)
 have b6 := yh zs (i + 6) (n := 15) (by omega)
 have b8 := yh zs (i + 8) (n := 10) (by omega)
 have b8' := yh zs (i + 8) (n := 97) (by omega)
 have b9 := yh zs (i + 9) (n := 7) (by omega)
 have bt : 0 ≤ (fr zs (i + 8) 97).tdiv 10 ∧ (fr zs (i + 8) 97).tdiv 10 ≤ 9 := by
  rw [Int.tdiv_eq_ediv_of_nonneg b8'.1]; omega
 clear hl hz
 unfold phM
 generalize fr zs i 12 = x0 at *
 generalize fr zs (i + 1) 9 = x1 at *
 generalize fr zs (i + 2) 6 = x2 at *
 generalize fr zs (i + 3) 4 = x3 at *
 generalize fr zs (i + 4) 5 = x4 at *
 generalize fr zs (i + 5) 25 = x5 at *
 generalize fr zs (i + 6) 15 = x6 at *
 generalize fr zs (i + 7) 2 = x7 at *
 generalize fr zs (i + 8) 10 = x8 at *
 generalize fr zs (i + 8) 97 = x8' at *
 generalize fr zs (i + 9) 7 = x9 at *
 generalize fr zs (i + 10) 3 = x10 at *
 generalize fr zs (i + 11) 4 = x11 at *
 go_enter Tryz.func84, Tryz.ntmps84
 go_wp2_with (go_at_call 86; refine (yg _ _ _ _ _ _ HZL.out (by omega) (by omega) (HZ.out _ (by exact yd))).mono ?_; rintro e w' ⟨rfl, rfl⟩)
 (refine aO 8 (by kernel_rfl) (by kernel_rfl) ?_; simp only [List.take_succ_cons, List.take_zero, List.drop_succ_cons, List.drop_zero]; (repeat (first | go_big_quiet_step ((first | (go_at_call 86; exact Up.pure (yg _ _ _ _ _ _ HZL.out (by omega) (by omega) (HZ.out _ (by exact yd)))) | fail)))); refine wpQuiet_nil ?_; rintro _ ⟨u, rfl⟩)
 go_wp2
 (refine aO 8 (by kernel_rfl) (by kernel_rfl) ?_; simp only [List.take_succ_cons, List.take_zero, List.drop_succ_cons, List.drop_zero]; (repeat (first | go_big_quiet_step ((first | (go_at_call 86; exact Up.pure (yg _ _ _ _ _ _ HZL.out (by omega) (by omega) (HZ.out _ (by exact yd)))) | fail)))); refine wpQuiet_nil ?_; rintro _ ⟨u, rfl⟩)
 cases h7 : (x7 == 1)
 all_goals
  rcases (show 3 < x9 ∨ x9 = 3 ∨ (x9 < 3 ∧ (x9 == 3) = false) by rcases Int.lt_trichotomy x9 3 with h | h | h <;> simp [h] <;> omega) with h9 | h9 | ⟨h9, h9'⟩
  all_goals (try subst h9)
  all_goals
   go_wp2_with (go_at_call 86; refine (yg _ _ _ _ _ _ HZL.out (by omega) (by omega) (HZ.out _ (by exact yd))).mono ?_; rintro e w' ⟨rfl, rfl⟩)
   go_returns
   refine ⟨?_, by exact yd⟩
   simp [cy, *]
end
section
open Go.RowKit
theorem pN : (Tryz.prog.info? 60).map (fun i => (i.zero, i.size, i.bytes)) = some (some (.agg #[.slice none 0 0, .slice none 0 0]), 2, 48) := by kernel_rfl
def fI (h : Value × Value) : List Value := [h.1, h.2]
theorem pC (x : Value × Value) : (fI x).length = 2 := rfl
def ew (w : World) (base : Nat) (v : Value) (hs : List (Value × Value)) : Prop := w.ownsRow base 60 2 v hs.length (hs.flatMap fI)
def bK (w : World) (base : Nat) (hs : List (Value × Value)) (gr : List (List Int × List Int)) : Prop :=
 hs.length = gr.length ∧ ∀ (i : Nat) (h : Value × Value) (x : List Int × List Int), hs[i]? = some h → gr[i]? = some x → ae w base h.1 x.1 ∧ ae w base h.2 x.2
theorem fw {w : World} {b1 b2 k n n' m : Nat} {v u : Value} {xs : List Value} {ys : List Value} {e1 e2 : TypeId} (he : e1 ≠ e2) (h1 : w.ownsRow b1 e1 k v n xs) (h2 : w.ownsRow b2 e2 m u n' ys) : u.ownBlock = none ∨ u.ownBlock ≠ v.ownBlock := by
 rcases h2.2 with ⟨rfl, _⟩ | ⟨g, cap, cur, rfl, _, hc, _⟩
 ·exact .inl rfl
 ·rcases h1.2 with ⟨rfl, _⟩ | ⟨g', cap', cur', rfl, _, hc', _⟩
  ·right; simp [Value.ownBlock]
  ·right
   simp only [Value.ownBlock, ne_eq, Option.some.injEq]
   rintro rfl
   rw [hc] at hc'
   cases hc'
   exact he rfl
theorem ae.kept {w w' : World} {base : Nat} {v : Value} {xs : List Int} {row : Option Nat} (h : ae w base v xs) (hg : w.grownBy w' row) (hne : v.ownBlock = none ∨ v.ownBlock ≠ row) : ae w' base v xs := World.ownsRow.kept h hg hne
theorem ae.less {w : World} {base base' : Nat} {v : Value} {xs : List Int} (h : ae w base v xs) (hb : base' ≤ base) : ae w base' v xs := by
 obtain ⟨h1, h⟩ := h
 refine ⟨h1, ?_⟩
 rcases h with h | ⟨g, cap, cur, e, hg, hr⟩
 ·exact .inl h
 ·exact .inr ⟨g, cap, cur, e, by omega, hr⟩
theorem ae.slice {w : World} {base : Nat} {v : Value} {xs : List Int} (h : ae w base v xs) : ∃ a n cap, v = .slice a n cap := by
 rcases h.2 with ⟨rfl, _⟩ | ⟨g, cap, cur, rfl, _⟩
 ·exact ⟨_, _, _, rfl⟩
 ·exact ⟨_, _, _, rfl⟩
theorem ae.ne {w : World} {base b : Nat} {v : Value} {xs : List Int} (h : ae w base v xs) (hb : b < base) : v.ownBlock ≠ some b := by
 rcases h.2 with ⟨rfl, _⟩ | ⟨g, cap, cur, rfl, hg, _⟩
 ·simp [Value.ownBlock]
 ·simp [Value.ownBlock]; omega
theorem ae.lt {w : World} {base b : Nat} {v : Value} {xs : List Int} (h : ae w base v xs) (hb : w.heap.size ≤ b) : v.ownBlock ≠ some b := by
 rcases h.2 with ⟨rfl, _⟩ | ⟨g, cap, cur, rfl, hg, hc, _⟩
 ·simp [Value.ownBlock]
 ·have := (Array.getElem?_eq_some_iff.1 hc).1
  simp [Value.ownBlock]; omega
theorem bK.kept {w w' : World} {base : Nat} {hs : List (Value × Value)} {gr : List (List Int × List Int)} {row : Option Nat} (h : bK w base hs gr) (hg : w.grownBy w' row) (hne : ∀ v xs, ae w base v xs → v.ownBlock = none ∨ v.ownBlock ≠ row) : bK w' base hs gr :=
 ⟨h.1, fun i p x hp hx => ⟨(h.2 i p x hp hx).1.kept hg (hne _ _ (h.2 i p x hp hx).1), (h.2 i p x hp hx).2.kept hg (hne _ _ (h.2 i p x hp hx).2)⟩⟩
theorem bK.below {w w' : World} {base : Nat} {hs : List (Value × Value)} {gr : List (List Int × List Int)} (h : bK w base hs gr) (hb : Below w.heap.size w w') : bK w' base hs gr :=
 ⟨h.1, fun i p x hp hx => ⟨(h.2 i p x hp hx).1.below hb, (h.2 i p x hp hx).2.below hb⟩⟩
theorem bK.snoc {w : World} {base : Nat} {hs : List (Value × Value)} {gr : List (List Int × List Int)} (h : bK w base hs gr) {p : Value × Value} {x : List Int × List Int} (h1 : ae w base p.1 x.1) (h2 : ae w base p.2 x.2) : bK w base (hs ++ [p]) (gr ++ [x]) := by
 refine ⟨by simp [h.1], fun i q y hq hy => ?_⟩
 rcases Nat.lt_trichotomy i hs.length with hi | hi | hi
 ·rw [List.getElem?_append_left hi] at hq
  rw [List.getElem?_append_left (by rw [← h.1]; exact hi)] at hy
  exact h.2 i q y hq hy
 ·subst hi
  rw [List.getElem?_append_right (Nat.le_refl _)] at hq
  rw [h.1, List.getElem?_append_right (Nat.le_refl _)] at hy
  simp at hq hy
  subst hq hy
  exact ⟨h1, h2⟩
 ·rw [List.getElem?_eq_none (by simp; omega)] at hq; cases hq
structure RowsEnd (w w' : World) (bt : Nat) (C : Array Value) (gr : List (List Int × List Int)) : Prop where
 out : ∃ v hs, w'.heap[bt]? = some (.cells (C.setIfInBounds 104 v) 34) ∧ ew w' w.heap.size v hs ∧ bK w' w.heap.size hs gr
 below : Below bt w w'
theorem yW (p m : Nat) : yj p (m + 1) = yj p m ++ [((p + m : Nat) : Int)] := by
 unfold yj; rw [List.range_succ, List.map_append]; rfl
theorem zk {b : Nat} {w w' : World} {o o2 : Obj} {row : Option Nat} (h : w.heap[b]? = some o) (hg : (w.alloc o2).grownBy w' row) (hne : row ≠ some b) : w'.heap[b]? = some o := by
 have hl := (Array.getElem?_eq_some_iff.1 h).1
 rw [hg.block b (by simp; omega) (fun e => hne e.symm), Below.heap_alloc _ _ _ hl]; exact h
theorem cQ (w : World) (b i : Nat) (u : Value) : w.grownBy (w.setCell ⟨b, i, none⟩ u) (some b) :=
 ⟨rfl, rfl, rfl, by simp [World.setCell], fun k _ hk => Below.heap_setCell _ _ _ _ (by simpa using hk)⟩
theorem ae.top {w : World} {base g : Nat} {v : Value} {xs : List Int} (h : ae w base v xs) (hg : v.ownBlock = some g) : g < w.heap.size := by
 rcases h.2 with ⟨rfl, _⟩ | ⟨g', cap, cur, rfl, _, hc, _⟩
 ·simp [Value.ownBlock] at hg
 ·simp [Value.ownBlock] at hg; subst hg; exact (Array.getElem?_eq_some_iff.1 hc).1
theorem zQ {w : World} {B : Nat} {v u : Value} {xs : List Int} (h0 : ∀ g, u.ownBlock = some g → g < B) (h1 : ae w B v xs) : u.ownBlock = none ∨ u.ownBlock ≠ v.ownBlock := by
 rcases h1.2 with ⟨rfl, _⟩ | ⟨g', cap, cur, rfl, hg, hc, _⟩
 ·cases hu : u.ownBlock with
  | none => exact .inl rfl
  | some g => right; simp [Value.ownBlock]
 ·cases hu : u.ownBlock with
  | none => exact .inl rfl
  | some g =>
   have := h0 g hu
   right; simp [Value.ownBlock]; omega
theorem ae.drop {w : World} {base b i : Nat} {v u : Value} {xs : List Int} (h : ae w base v xs) (hb : v.ownBlock ≠ some b) : ae (w.setCell ⟨b, i, none⟩ u) base v xs :=
 ae.kept h (cQ w b i u) (.inr hb)
attribute [local go_sem] IsBlk.cell IsBlk.frozen
theorem acV (a : Option Addr) (cap : Nat) (zs : List Int) (bt : Nat) (C : Array Value) (w : World) (hl : zs.length ≤ 9223372036854775807) (hz : ∀ w', Below bt w w' → bQ w' a zs)
  (hC : w.heap[bt]? = some (.cells C 34)) (hbt : bt + 1 = w.heap.size) (hs : C.size = 131) (h104 : C[104]? = some (.slice none 0 0)) :
  Calls Tryz.prog 83 #[.pointer (some ⟨bt, 0, none⟩), .slice a zs.length cap] w fun e w' => e = .returned (.int .i64 (yf zs).1) ∧ RowsEnd w w' bt C (yf zs).2 := by
 have HZ := Lib.hid hz
 have HZL := Lib.hid hl
 have HBT := Lib.hid hbt
 have HSZ := Lib.hid hs
 have K := yD zs
 obtain ⟨x0, hx0⟩ : ∃ x, ot zs 0 3 = x := ⟨_, rfl⟩
 have ek2 : 1 + x0 = ((yo zs : Nat) : Int) := by have := yh zs 0 (n := 3) (by omega); rw [← hx0, yi zs 0 0 3 rfl]; unfold yo; omega
 have HG : Hid (∀ g, g ≤ yo zs → (yk zs (yo zs) g).1 ≤ 8 ∧ (yk zs (yo zs) g).2.length = g) := Lib.hid fun g hg => by have := yL zs _ K.2 g hg; omega
 unfold yf
 generalize yo zs = k at *
 clear hl hbt hs
 go_enter Tryz.func83, Tryz.ntmps83
 go_wp2_with (go_at_call 86; refine (yg _ _ _ _ _ _ HZL.out (by omega) (by omega) (HZ.out _ (Below.refl _ _))).mono ?_; rintro e w' ⟨rfl, rfl⟩)
 clear hx0 ek2
 go_loopw [6, 7] (fun p g wr => ∃ n : Nat, n ≤ k ∧ g = .int .i64 n ∧ p = .int .i64 ((yk zs k n).1 : Int) ∧ (∃ v hs, wr.heap[bt]? = some (.cells (C.setIfInBounds 104 v) 34) ∧ ew wr w.heap.size v hs ∧ bK wr w.heap.size hs (yk zs k n).2) ∧ Below bt w wr) (fun _ g _ => k - (intOf g).toNat)
 case atStart => exact ⟨0, Nat.zero_le _, rfl, rfl, ⟨.slice none 0 0, [], by rw [hC]; congr 2; refine Array.ext (by simp) fun i h1 h2 => ?_; rw [Array.getElem_setIfInBounds]; split; (rename_i he; subst he; rw [Array.getElem?_eq_getElem h1] at h104; exact Option.some.inj h104); rfl, ⟨rfl, .inl ⟨rfl, rfl⟩⟩, ⟨rfl, fun i h x hh => by simp at hh⟩⟩, Below.refl _ _⟩
 case round =>
  obtain ⟨n, hn, rfl, rfl, ⟨v, hs, hbk, hown, hpr⟩, hb⟩ := hrel
  have hB := hb.size
  by_cases hlt : n < k
  ·obtain ⟨W1, rfl⟩ : ∃ x, x = wr := ⟨_, rfl⟩
   obtain ⟨br, hbr⟩ : ∃ br, W1.heap.size = br := ⟨_, rfl⟩
   obtain ⟨q0, hq⟩ : ∃ q0, (yk zs k n).1 = q0 := ⟨_, rfl⟩
   have HQ := Lib.hid hq
   have hq8 : q0 ≤ 8 := by rw [← hq]; exact (HG.out n hn).1
   obtain ⟨lim, hlim⟩ : ∃ l, 8 - (k - 1 - n) = l := ⟨_, rfl⟩
   have hlI : (8 : Int) - ((k : Int) - 1 - n) = lim := by omega
   have HLM := Lib.hid hlim
   obtain ⟨W2, hW2⟩ : ∃ W2, W1.alloc (.cells #[.slice none 0 0, .slice none 0 0] 60) = W2 := ⟨_, rfl⟩
   have h2s : W2.heap.size = br + 1 := by rw [← hW2, ← hbr]; simp
   have h2b : W2.heap[br]? = some (.cells #[.slice none 0 0, .slice none 0 0] 60) := by rw [← hW2, ← hbr]; exact aq _ _
   have hB2 : Below br W1 W2 := by rw [← hW2, ← hbr]; exact (Below.refl _ W1).alloc (Nat.le_refl _) _
   have hbw2 : Below bt w W2 := hb.trans (hB2.mono (by have := HBT.out; omega))
   have hbtl : bt < br := by have := HBT.out; omega
   have h2t : W2.heap[bt]? = some (.cells (C.setIfInBounds 104 v) 34) := by rw [hB2.block _ hbtl]; exact hbk
   obtain ⟨n0, hn0⟩ : ∃ n0, rw0 zs n = n0 := ⟨_, rfl⟩
   have en0 : ot zs (1 + 2 * (n : Int)) 3 = (n0 : Int) := by
    rw [yi zs _ (1 + 2 * n) 3 (by omega), ← hn0]; have := yh zs (1 + 2 * n) (n := 3) (by omega); unfold rw0; omega
   have hbrw : w.heap.size ≤ br := by omega
   rw [hq]
   have HOW := Lib.hid hown
   have HPR := Lib.hid hpr
   have HB2 := Lib.hid hB2
   have HBR := Lib.hid hbr
   clear hq hlim hbk hown hpr hb hB
   go_wp2
   clear hW2 hbr
   go_loopw [6, 9] (fun p j w2 =>
    (j = .int .i64 0 ∧ p = .int .i64 (q0 : Int) ∧ w2 = W2) ∨
    (j = .int .i64 1 ∧ ∃ m0 : Nat, m0 = yr n0 q0 lim ∧ p = .int .i64 ((q0 + m0 : Nat) : Int) ∧ ∃ v0, w2.heap[br]? = some (.cells #[v0, .slice none 0 0] 60) ∧ ae w2 (br + 1) v0 (yj q0 m0) ∧ Below br W2 w2) ∨
    (j = .int .i64 2 ∧ ∃ m0 m1 : Nat, m0 = yr n0 q0 lim ∧ m1 = yr (rw1 zs n m0) (q0 + m0) lim ∧ p = .int .i64 ((q0 + m0 + m1 : Nat) : Int) ∧ ∃ v0 v1, w2.heap[br]? = some (.cells #[v0, v1] 60) ∧ ae w2 (br + 1) v0 (yj q0 m0) ∧ ae w2 (br + 1) v1 (yj (q0 + m0) m1) ∧ Below br W2 w2)) (fun _ j _ => 2 - (intOf j).toNat)
   case atStart => exact .inl ⟨rfl, rfl, rfl⟩
   case round =>
    rcases hrel with ⟨rfl, rfl, rfl⟩ | ⟨rfl, m0, hm0, rfl, v0, h3b, ho0, hb3⟩ | ⟨rfl, m0, m1, hm0, hm1, rfl, v0, v1, h3b, ho0, ho1, hb3⟩
    ·obtain ⟨W2, rfl⟩ : ∃ x, x = wr := ⟨_, rfl⟩
     go_wp2_with (go_at_call 86; refine (yg _ _ _ _ _ _ HZL.out (by omega) (by omega) (HZ.out _ hbw2)).mono ?_; rintro e w' ⟨rfl, rfl⟩)
     go_loopw [6, 11] (fun p i w3 => ∃ m : Nat, m ≤ yr n0 q0 lim ∧ i = .int .i64 m ∧ p = .int .i64 ((q0 + m : Nat) : Int) ∧ ∃ v0, w3.heap[br]? = some (.cells #[v0, .slice none 0 0] 60) ∧ ae w3 (br + 1) v0 (yj q0 m) ∧ Below br W2 w3) (fun _ i _ => n0 - (intOf i).toNat)
     case atStart => exact ⟨0, Nat.zero_le _, rfl, rfl, _, h2b, ae.nil _ _, Below.refl _ _⟩
     case round =>
      obtain ⟨m, hm, rfl, rfl, v0, h3b, ho0, hb3⟩ := hrel
      have hB3 := hb3.size
      rw [h2s] at hB3
      by_cases hml : m < yr n0 q0 lim
      ·have hm1 : m < n0 ∧ q0 + m < lim := by unfold yr at hml; omega
       obtain ⟨hm1, hm2⟩ := hm1
       haveI : IsBlk wr br #[v0, .slice none 0 0] 60 := ⟨h3b⟩
       have hfl : (yj q0 m).length ≤ 1000000 := by simp [yj]; omega
       go_wp2_with (at_builtin; refine ju rfl _ _ rfl (br + 1) rfl (ho0.alloc _) (b := wr.heap.size) (y := ((q0 + m : Nat) : Int)) rfl (by simp) hfl (by simp; omega) ?_; intro v' w1 hown' hg; obtain ⟨a', n', cap', rfl⟩ := hown'.slice; haveI : IsBlk w1 br #[v0, .slice none 0 0] 60 := ⟨zk h3b hg (ho0.ne (by omega))⟩)
       go_roundw
       case rel => exact ⟨m + 1, by omega, by go_num, by first | go_num | (congr 1; omega) | congr 1, _, (inferInstance : IsBlk (w1.setCell ⟨br, 0, none⟩ (.slice a' n' cap')) br (#[v0, .slice none 0 0].setIfInBounds 0 (.slice a' n' cap')) 60).out, by rw [yW]; exact hown'.drop (hown'.ne (by omega)), (ho0.grown hb3 (by omega) (by omega) hg).setCell (p := ⟨br, 0, none⟩) (Nat.le_refl _) _⟩
       case measure => simp [intOf]; omega
      ·have hme : m = yr n0 q0 lim := by omega
       by_cases hmn : m < n0
       ·have hm2 : lim ≤ q0 + m := by unfold yr at hme; omega
        go_wp2
        go_roundw
        case rel => exact .inr (.inl ⟨rfl, m, hme, by first | (congr 1; omega) | congr 1, v0, h3b, ho0, hb3⟩)
        case measure => simp [intOf]
       ·go_wp2
        go_roundw
        case rel => exact .inr (.inl ⟨rfl, m, hme, by first | (congr 1; omega) | congr 1, v0, h3b, ho0, hb3⟩)
        case measure => simp [intOf]
    ·obtain ⟨W3, rfl⟩ : ∃ x, x = wr := ⟨_, rfl⟩
     have hB3 := hb3.size
     rw [h2s] at hB3
     have hW3s : br + 1 ≤ W3.heap.size := hB3
     have hbw3 : Below bt w W3 := hbw2.trans (hb3.mono (by omega))
     obtain ⟨n1, hn1⟩ : ∃ n1, rw1.rw0b zs n = n1 := ⟨_, rfl⟩
     have en1 : ot zs (1 + 2 * (n : Int) + 1) 3 = (n1 : Int) := by
      rw [yi zs _ (2 + 2 * n) 3 (by omega), ← hn1]; have := yh zs (2 + 2 * n) (n := 3) (by omega); unfold rw1.rw0b; omega
     obtain ⟨N1, hN1⟩ : ∃ N1, rw1 zs n m0 = N1 := ⟨_, rfl⟩
     have hN1' : N1 = if n1 = 0 ∧ m0 = 0 then 1 else n1 := by rw [← hN1]; unfold rw1; rw [hn1]
     have HN1 := Lib.hid hN1
     clear hn1 hN1
     haveI : IsBlk W3 br #[v0, .slice none 0 0] 60 := ⟨h3b⟩
     obtain ⟨a0, cap0, hv0, hi0⟩ := ho0.opened
     rw [show (yj q0 m0).length = m0 by simp [yj]] at hv0
     subst hv0
     clear hi0
     have hq8' : q0 + m0 ≤ 8 + 8 := by rw [hm0]; unfold yr; omega
     have HM0 := Lib.hid hm0
     have hm8 : m0 ≤ 8 := by rw [hm0]; unfold yr; omega
     clear hm0
     have hV0 : ∀ g, (Value.slice a0 m0 cap0).ownBlock = some g → g < W3.heap.size := fun g hg => ho0.top hg
     have hc : (n1 = 0 ∧ m0 = 0 ∧ N1 = 1) ∨ (n1 ≠ 0 ∧ N1 = n1) ∨ (n1 = 0 ∧ m0 ≠ 0 ∧ N1 = 0) := by
      by_cases h1 : n1 = 0
      ·by_cases h2 : m0 = 0
       ·left; simp [hN1', h1, h2]
       ·right; right; simp [hN1', h1, h2]
      ·right; left; simp [hN1', h1]
     have HHV := Lib.hid hV0
     clear hN1' hV0
     rcases hc with ⟨h1, h2, h3⟩ | ⟨h1, h3⟩ | ⟨h1, h2, h3⟩
     ·have hb1 : ((n1 : Int) == 0) = true := by rw [h1]; rfl
      have hb2 : ((m0 : Int) == 0) = true := by rw [h2]; rfl
      clear h1 h2
      have hNI : (N1 : Int) = 1 := by omega
      go_wp2_with (go_at_call 86; refine (yg _ _ _ _ _ _ HZL.out (by omega) (by omega) (HZ.out _ hbw3)).mono ?_; rintro e w' ⟨rfl, rfl⟩)
      go_loopw [6, 11] (fun p i w4 => ∃ m : Nat, m ≤ yr N1 (q0 + m0) lim ∧ i = .int .i64 m ∧ p = .int .i64 ((q0 + m0 + m : Nat) : Int) ∧ ∃ v1, w4.heap[br]? = some (.cells #[.slice a0 m0 cap0, v1] 60) ∧ ae w4 W3.heap.size v1 (yj (q0 + m0) m) ∧ ae w4 (br + 1) (.slice a0 m0 cap0) (yj q0 m0) ∧ Below br W2 w4 ∧ W3.heap.size ≤ w4.heap.size) (fun _ i _ => N1 - (intOf i).toNat)
      case atStart => exact ⟨0, Nat.zero_le _, rfl, rfl, _, h3b, ae.nil _ _, ho0, hb3, Nat.le_refl _⟩
      case round =>
       clear hb3 ho0 h3b hB3
       obtain ⟨m, hm, rfl, rfl, v1, h3b, ho1, ho0, hb3, hsz⟩ := hrel
       have hB3 := hb3.size
       rw [h2s] at hB3
       by_cases hml : m < yr N1 (q0 + m0) lim
       ·have hm1 : m < N1 ∧ q0 + m0 + m < lim := by unfold yr at hml; omega
        obtain ⟨hm1, hm2⟩ := hm1
        haveI : IsBlk wr br #[.slice a0 m0 cap0, v1] 60 := ⟨h3b⟩
        have hfl : (yj (q0 + m0) m).length ≤ 1000000 := by simp [yj]; omega
        have hap := zQ HHV.out ho1
        go_wp2_with (at_builtin; refine ju rfl _ _ rfl W3.heap.size rfl (ho1.alloc _) (b := wr.heap.size) (y := ((q0 + m0 + m : Nat) : Int)) rfl (by simp) hfl (by simp; omega) ?_; intro v' w1 hown' hg; obtain ⟨a', n', cap', rfl⟩ := hown'.slice; haveI : IsBlk w1 br #[.slice a0 m0 cap0, v1] 60 := ⟨zk h3b hg (ho1.ne (by omega))⟩)
        go_roundw
        case rel => exact ⟨m + 1, by omega, by go_num, by first | go_num | (congr 1; omega) | congr 1, _, (inferInstance : IsBlk (w1.setCell ⟨br, 1, none⟩ (.slice a' n' cap')) br (#[.slice a0 m0 cap0, v1].setIfInBounds 1 (.slice a' n' cap')) 60).out, by rw [yW]; exact hown'.drop (hown'.ne (by omega)), ((ho0.alloc _).kept hg hap).drop (ho0.ne (by omega)), (ho1.grown hb3 (by omega) (by omega) hg).setCell (p := ⟨br, 1, none⟩) (Nat.le_refl _) _, by have := hg.size; simp [World.setCell] at this ⊢; omega⟩
        case measure => simp [intOf]; omega
       ·have hme : m = yr N1 (q0 + m0) lim := by omega
        have hfin : ae wr (br + 1) v1 (yj (q0 + m0) m) := ho1.less (by omega)
        have HME := Lib.hid hme
        clear hm hml
        by_cases hmn : m < N1
        ·have hm2 : lim ≤ q0 + m0 + m := by unfold yr at hme; omega
         clear hme
         go_wp2
         go_roundw
         case rel => exact .inr (.inr ⟨rfl, m0, m, HM0.out, by rw [HN1.out]; exact HME.out, by first | (congr 1; omega) | congr 1, _, v1, h3b, ho0, hfin, hb3⟩)
         case measure => simp [intOf]
        ·clear hme
         go_wp2
         go_roundw
         case rel => exact .inr (.inr ⟨rfl, m0, m, HM0.out, by rw [HN1.out]; exact HME.out, by first | (congr 1; omega) | congr 1, _, v1, h3b, ho0, hfin, hb3⟩)
         case measure => simp [intOf]
     ·have hb1 : ((n1 : Int) == 0) = false := beq_eq_false_iff_ne.2 (by omega)
      subst h3
      clear h1
      go_wp2_with (go_at_call 86; refine (yg _ _ _ _ _ _ HZL.out (by omega) (by omega) (HZ.out _ hbw3)).mono ?_; rintro e w' ⟨rfl, rfl⟩)
      go_loopw [6, 11] (fun p i w4 => ∃ m : Nat, m ≤ yr N1 (q0 + m0) lim ∧ i = .int .i64 m ∧ p = .int .i64 ((q0 + m0 + m : Nat) : Int) ∧ ∃ v1, w4.heap[br]? = some (.cells #[.slice a0 m0 cap0, v1] 60) ∧ ae w4 W3.heap.size v1 (yj (q0 + m0) m) ∧ ae w4 (br + 1) (.slice a0 m0 cap0) (yj q0 m0) ∧ Below br W2 w4 ∧ W3.heap.size ≤ w4.heap.size) (fun _ i _ => N1 - (intOf i).toNat)
      case atStart => exact ⟨0, Nat.zero_le _, rfl, rfl, _, h3b, ae.nil _ _, ho0, hb3, Nat.le_refl _⟩
      case round =>
       clear hb3 ho0 h3b hB3
       obtain ⟨m, hm, rfl, rfl, v1, h3b, ho1, ho0, hb3, hsz⟩ := hrel
       have hB3 := hb3.size
       rw [h2s] at hB3
       by_cases hml : m < yr N1 (q0 + m0) lim
       ·have hm1 : m < N1 ∧ q0 + m0 + m < lim := by unfold yr at hml; omega
        obtain ⟨hm1, hm2⟩ := hm1
        haveI : IsBlk wr br #[.slice a0 m0 cap0, v1] 60 := ⟨h3b⟩
        have hfl : (yj (q0 + m0) m).length ≤ 1000000 := by simp [yj]; omega
        have hap := zQ HHV.out ho1
        go_wp2_with (at_builtin; refine ju rfl _ _ rfl W3.heap.size rfl (ho1.alloc _) (b := wr.heap.size) (y := ((q0 + m0 + m : Nat) : Int)) rfl (by simp) hfl (by simp; omega) ?_; intro v' w1 hown' hg; obtain ⟨a', n', cap', rfl⟩ := hown'.slice; haveI : IsBlk w1 br #[.slice a0 m0 cap0, v1] 60 := ⟨zk h3b hg (ho1.ne (by omega))⟩)
        go_roundw
        case rel => exact ⟨m + 1, by omega, by go_num, by first | go_num | (congr 1; omega) | congr 1, _, (inferInstance : IsBlk (w1.setCell ⟨br, 1, none⟩ (.slice a' n' cap')) br (#[.slice a0 m0 cap0, v1].setIfInBounds 1 (.slice a' n' cap')) 60).out, by rw [yW]; exact hown'.drop (hown'.ne (by omega)), ((ho0.alloc _).kept hg hap).drop (ho0.ne (by omega)), (ho1.grown hb3 (by omega) (by omega) hg).setCell (p := ⟨br, 1, none⟩) (Nat.le_refl _) _, by have := hg.size; simp [World.setCell] at this ⊢; omega⟩
        case measure => simp [intOf]; omega
       ·have hme : m = yr N1 (q0 + m0) lim := by omega
        have hfin : ae wr (br + 1) v1 (yj (q0 + m0) m) := ho1.less (by omega)
        have HME := Lib.hid hme
        clear hm hml
        by_cases hmn : m < N1
        ·have hm2 : lim ≤ q0 + m0 + m := by unfold yr at hme; omega
         clear hme
         go_wp2
         go_roundw
         case rel => exact .inr (.inr ⟨rfl, m0, m, HM0.out, by rw [HN1.out]; exact HME.out, by first | (congr 1; omega) | congr 1, _, v1, h3b, ho0, hfin, hb3⟩)
         case measure => simp [intOf]
        ·clear hme
         go_wp2
         go_roundw
         case rel => exact .inr (.inr ⟨rfl, m0, m, HM0.out, by rw [HN1.out]; exact HME.out, by first | (congr 1; omega) | congr 1, _, v1, h3b, ho0, hfin, hb3⟩)
         case measure => simp [intOf]
     ·have hb1 : ((n1 : Int) == 0) = true := by rw [h1]; rfl
      have hb2 : ((m0 : Int) == 0) = false := beq_eq_false_iff_ne.2 (by omega)
      have h3' : N1 = n1 := by omega
      subst h3'
      clear h1 h3
      go_wp2_with (go_at_call 86; refine (yg _ _ _ _ _ _ HZL.out (by omega) (by omega) (HZ.out _ hbw3)).mono ?_; rintro e w' ⟨rfl, rfl⟩)
      go_loopw [6, 11] (fun p i w4 => ∃ m : Nat, m ≤ yr N1 (q0 + m0) lim ∧ i = .int .i64 m ∧ p = .int .i64 ((q0 + m0 + m : Nat) : Int) ∧ ∃ v1, w4.heap[br]? = some (.cells #[.slice a0 m0 cap0, v1] 60) ∧ ae w4 W3.heap.size v1 (yj (q0 + m0) m) ∧ ae w4 (br + 1) (.slice a0 m0 cap0) (yj q0 m0) ∧ Below br W2 w4 ∧ W3.heap.size ≤ w4.heap.size) (fun _ i _ => N1 - (intOf i).toNat)
      case atStart => exact ⟨0, Nat.zero_le _, rfl, rfl, _, h3b, ae.nil _ _, ho0, hb3, Nat.le_refl _⟩
      case round =>
       clear hb3 ho0 h3b hB3
       obtain ⟨m, hm, rfl, rfl, v1, h3b, ho1, ho0, hb3, hsz⟩ := hrel
       have hB3 := hb3.size
       rw [h2s] at hB3
       by_cases hml : m < yr N1 (q0 + m0) lim
       ·have hm1 : m < N1 ∧ q0 + m0 + m < lim := by unfold yr at hml; omega
        obtain ⟨hm1, hm2⟩ := hm1
        haveI : IsBlk wr br #[.slice a0 m0 cap0, v1] 60 := ⟨h3b⟩
        have hfl : (yj (q0 + m0) m).length ≤ 1000000 := by simp [yj]; omega
        have hap := zQ HHV.out ho1
        go_wp2_with (at_builtin; refine ju rfl _ _ rfl W3.heap.size rfl (ho1.alloc _) (b := wr.heap.size) (y := ((q0 + m0 + m : Nat) : Int)) rfl (by simp) hfl (by simp; omega) ?_; intro v' w1 hown' hg; obtain ⟨a', n', cap', rfl⟩ := hown'.slice; haveI : IsBlk w1 br #[.slice a0 m0 cap0, v1] 60 := ⟨zk h3b hg (ho1.ne (by omega))⟩)
        go_roundw
        case rel => exact ⟨m + 1, by omega, by go_num, by first | go_num | (congr 1; omega) | congr 1, _, (inferInstance : IsBlk (w1.setCell ⟨br, 1, none⟩ (.slice a' n' cap')) br (#[.slice a0 m0 cap0, v1].setIfInBounds 1 (.slice a' n' cap')) 60).out, by rw [yW]; exact hown'.drop (hown'.ne (by omega)), ((ho0.alloc _).kept hg hap).drop (ho0.ne (by omega)), (ho1.grown hb3 (by omega) (by omega) hg).setCell (p := ⟨br, 1, none⟩) (Nat.le_refl _) _, by have := hg.size; simp [World.setCell] at this ⊢; omega⟩
        case measure => simp [intOf]; omega
       ·have hme : m = yr N1 (q0 + m0) lim := by omega
        have hfin : ae wr (br + 1) v1 (yj (q0 + m0) m) := ho1.less (by omega)
        have HME := Lib.hid hme
        clear hm hml
        by_cases hmn : m < N1
        ·have hm2 : lim ≤ q0 + m0 + m := by unfold yr at hme; omega
         clear hme
         go_wp2
         go_roundw
         case rel => exact .inr (.inr ⟨rfl, m0, m, HM0.out, by rw [HN1.out]; exact HME.out, by first | (congr 1; omega) | congr 1, _, v1, h3b, ho0, hfin, hb3⟩)
         case measure => simp [intOf]
        ·clear hme
         go_wp2
         go_roundw
         case rel => exact .inr (.inr ⟨rfl, m0, m, HM0.out, by rw [HN1.out]; exact HME.out, by first | (congr 1; omega) | congr 1, _, v1, h3b, ho0, hfin, hb3⟩)
         case measure => simp [intOf]
    ·have hB3 := hb3.size
     rw [h2s] at hB3
     have h3t : wr.heap[bt]? = some (.cells (C.setIfInBounds 104 v) 34) := by rw [hb3.block _ (by omega)]; exact h2t
     obtain ⟨a0, l0, c0, rfl⟩ := ho0.slice
     obtain ⟨a1, l1, c1, rfl⟩ := ho1.slice
     haveI : IsBlk wr bt (C.setIfInBounds 104 v) 34 := ⟨h3t⟩
     haveI : IsBlk wr br #[.slice a0 l0 c0, .slice a1 l1 c1] 60 := ⟨h3b⟩
     have tv : (C.setIfInBounds 104 v)[104]? = some v := by simp [HSZ.out]
     have hlen : hs.length ≤ 1000000 := by rw [HPR.out.1, (HG.out n hn).2]; omega
     have hb13 : Below W1.heap.size W1 wr := by rw [HBR.out]; exact HB2.out.trans hb3
     have h3o : aD 60 2 fI wr w.heap.size v hs := aD.below (C := fI) HOW.out hb13
     have h3p : bK wr w.heap.size hs (yk zs k n).2 := HPR.out.below hb13
     have hbwr : Below bt w wr := hbw2.trans (hb3.mono (by omega))
     have HRG : Hid ((yk zs k (n + 1)) = (q0 + m0 + m1, (yk zs k n).2 ++ [(yj q0 m0, yj (q0 + m0) m1)])) := Lib.hid (by
      simp only [yk, HQ.out, HLM.out]
      rw [hm1, hm0, ← hn0])
     clear hm0 hm1
     go_wp2
     (refine wp_region_noPanic ?_; refine cX [0] [1, 2, 3, 4, 5, 6] [7, 8, 9, 10] [6] [] oJ (by kernel_rfl) (by kernel_rfl) (fun _ _ _ _ _ h => (h : False).elim) dY ?_; simp only [bD, List.filterMap_cons, List.filterMap_nil, List.getElem?_cons_succ, List.getElem?_cons_zero]; (repeat (first | (refine aad rfl rfl rfl ?_; simp only [Act.put, List.setIfInBounds_toArray, List.set_cons_succ, List.set_cons_zero]) | (refine ⟨_, Or.inl ⟨rfl, fun w => ?_⟩, ?_⟩; (focus (simp [go_sem]; rfl))))); refine eS ?_; (try simp only [Act.put, List.setIfInBounds_toArray, List.set_cons_succ, List.set_cons_zero]))
     (repeat (first | (refine cL rfl rfl ?_; simp only [Act.put, List.setIfInBounds_toArray, List.set_cons_succ, List.set_cons_zero]) | (refine cM rfl rfl ?_; intro Z hZs hZi hZn K hK; (first | (go_big_quiet_op; (first | go_big_quiet_on | go_big_quiet_call ((first | fail))))); clear hZs hZi hZn Z)))
     (refine eV 1 (.cells #[.slice a0 l0 c0, .slice a1 l1 c1] 60) rfl rfl (fun w => (by simp [go_sem] <;> rfl)) ?_; intro q6 p6 hq6 hp6; simp only [Act.put, List.setIfInBounds_toArray, List.set_cons_succ, List.set_cons_zero])
     (refine gX ?_; intro u hinv; have hO6 := (hp6 _ (hinv 6 _ rfl)).out; have lO6 := yR hO6; clear hinv; clear hp6 p6; go_simp)
     have o3 : aD 60 2 fI u.w w.heap.size v hs := h3o.up u
     have hv3 : v.ownBlock ≠ some bt := o3.ne (by have := HBT.out; omega)
     have hty : 60 ≠ 3 := by decide
     have p3 : bK u.w w.heap.size hs (yk zs k n).2 := h3p.below u.bel
     have r0 : ae u.w w.heap.size (.slice a0 l0 c0) (yj q0 m0) := (ho0.less (by omega)).below u.bel
     have r1 : ae u.w w.heap.size (.slice a1 l1 c1) (yj (q0 + m0) m1) := (ho1.less (by omega)).below u.bel
     have hbu : Below bt w u.w := hbwr.trans (u.bel.mono (by omega))
     have hut : u.w.heap[bt]? = some (.cells (C.setIfInBounds 104 v) 34) := by rw [u.bel.block _ (by omega)]; exact h3t
     have hsu := u.bel.size
     refine bo pC 48 _ 28 Tryz.underlying28 pN rfl (by decide) (by decide) rfl _ _ rfl w.heap.size rfl o3 (b := q6) ((.slice a0 l0 c0, .slice a1 l1 c1) : Value × Value) (by simp [fI, Value.oneCell']) rfl (fun j x hj => aV hO6 j (by simpa [fI] using hj)) hlen (by omega) ?_
     intro v' w1 hown' hg
     obtain ⟨a', n', cap', rfl⟩ := hown'.slice
     have hb1 : w1.heap[bt]? = some (.cells (C.setIfInBounds 104 v) 34) := by rw [hg.block bt (by omega) (fun e => hv3 e.symm)]; exact hut
     haveI : IsBlk w1 bt (C.setIfInBounds 104 v) 34 := ⟨hb1⟩
     go_wp2
     refine NoPanic.normal ?_
     have hv' : (Value.slice a' n' cap').ownBlock ≠ some bt := hown'.ne (by have := HBT.out; omega)
     have p4 : bK w1 w.heap.size hs (yk zs k n).2 := p3.kept hg fun _ _ h => fw hty o3 h
     have p5 : bK w1 w.heap.size (hs ++ [(.slice a0 l0 c0, .slice a1 l1 c1)]) (yk zs k (n + 1)).2 := by
      rw [HRG.out]; exact p4.snoc (r0.kept hg (fw hty o3 r0)) (r1.kept hg (fw hty o3 r1))
     have hb2 : Below bt w w1 := o3.grown0 hbu (by omega) (by have := HBT.out; omega) hg
     have HP5 := Lib.hid p5
     have HO5 := Lib.hid hown'
     have HB5 := Lib.hid hb2
     clear p3 p4 p5 r0 r1 hg hown' hb2 hbu hut
     go_wp2
     go_roundw
     case rel => exact ⟨n + 1, by omega, by go_num, by rw [HRG.out]; first | go_num | (congr 1; omega) | congr 1, ⟨.slice a' n' cap', _, by (have := (inferInstance : IsBlk (w1.setCell ⟨bt, 104, none⟩ (.slice a' n' cap')) bt ((C.setIfInBounds 104 v).setIfInBounds 104 (.slice a' n' cap')) 34).out; simpa using this), aD.kept (C := fI) HO5.out (cQ w1 bt 104 (.slice a' n' cap')) (.inr hv'), HP5.out.kept (cQ w1 bt 104 (.slice a' n' cap')) fun v xs h => .inr (h.ne (by have := HBT.out; omega))⟩, HB5.out.setCell (p := ⟨bt, 104, none⟩) (Nat.le_refl _) _⟩
     case measure => simp [intOf]; omega
  ·obtain rfl : n = k := by omega
   have HX : Hid (RowsEnd w wr bt C (yk zs n n).2) := Lib.hid ⟨⟨v, hs, hbk, hown, hpr⟩, hb⟩
   clear hbk hown hpr
   go_wp2
   go_ret
   exact ⟨rfl, HX.out⟩
end
section
open Go.RowKit
def aU (n : Int) : Int := min (max n 0) 2147483647
theorem cg (n : Int) : 0 ≤ aU n ∧ aU n ≤ 2147483647 := by unfold aU; omega
def aP (a b : Int) : Int := aU (aU a + aU b)
def dG (a b : Int) : Int := aU (aU a * aU b)
theorem vh {a b : Int} (ha : 0 ≤ a ∧ a ≤ 2147483647) (hb : 0 ≤ b ∧ b ≤ 2147483647) : 0 ≤ a * b ∧ a * b ≤ 4611686014132420609 := by
 have h1 := Int.mul_nonneg ha.1 hb.1
 have h2 := Int.mul_le_mul ha.2 hb.2 hb.1 (by omega)
 omega
theorem ro (a b c : Int) (w : World) :
  Calls Tryz.prog 117 #[.int .i64 a, .int .i64 b, .int .i64 c] w fun e w' => e = .returned (.int .i64 (if a < b then b else if c < a then c else a)) ∧ w = w' := by
 go_enter Tryz.func117, Tryz.ntmps117
 go_wp2
 all_goals
  go_ret
  exact ⟨bU (by simp [*]; try omega), rfl⟩
theorem zj (a : Int) (w : World) :
  Calls Tryz.prog 158 #[.int .i64 a] w fun e w' => e = .returned (.int .i64 (aU a)) ∧ w = w' := by
 go_enter Tryz.func158, Tryz.ntmps158
 go_wp2_with (go_at_call 117; refine (ro _ _ _ _).mono ?_; rintro e w' ⟨rfl, rfl⟩)
 all_goals
  go_ret
  exact ⟨bU (by unfold aU; omega), rfl⟩
theorem adY (a b : Int) (w : World) :
  Calls Tryz.prog 199 #[.int .i64 a, .int .i64 b] w fun e w' => e = .returned (.int .i64 (aP a b)) ∧ w = w' := by
 have ha := cg a
 have hb := cg b
 go_enter Tryz.func199, Tryz.ntmps199
 go_wp2_with (go_at_call 158; refine (zj _ _).mono ?_; rintro e w' ⟨rfl, rfl⟩)
 go_ret
 exact ⟨rfl, rfl⟩
theorem adZ (a b : Int) (w : World) :
  Calls Tryz.prog 98 #[.int .i64 a, .int .i64 b] w fun e w' => e = .returned (.int .i64 (dG a b)) ∧ w = w' := by
 have hm := vh (cg a) (cg b)
 go_enter Tryz.func98, Tryz.ntmps98
 go_wp2_with (go_at_call 158; refine (zj _ _).mono ?_; rintro e w' ⟨rfl, rfl⟩)
 go_ret
 exact ⟨rfl, rfl⟩
def ch (l : List Int) : Int := l.foldl aP 0
theorem lp (l : List Int) (x : Int) : ch (l ++ [x]) = aP (ch l) x := by simp [ch]
theorem ad0 (a : Option Addr) (cap : Nat) (zs : List Int) (w : World) (hm : zs.length ≤ 9223372036854775807) (hi : bQ w a zs) :
  Calls Tryz.prog 157 #[.slice a zs.length cap] w fun e w' => e = .returned (.int .i64 (ch zs)) ∧ w = w' := by
 have HI := Lib.hid hi
 clear hi
 go_enter Tryz.func157, Tryz.ntmps157
 go_wp2
 go_loop [3, 4] (fun n i => ∃ k : Nat, k ≤ zs.length ∧ i = .int .i64 k ∧ n = .int .i64 (ch (zs.take k))) (fun _ i => zs.length - (intOf i).toNat)
 case atStart => exact ⟨0, Nat.zero_le _, rfl, rfl⟩
 case round =>
  obtain ⟨k, hk, rfl, rfl⟩ := hrel
  by_cases hlt : k < zs.length
  ·obtain ⟨b, off, rfl, _, hc⟩ := HI.out.cell (by omega)
   have hcell := hc k hlt
   clear hc
   have hs : Hid (ch (zs.take (k + 1)) = aP (ch (zs.take k)) (zs.getD k 0)) := by
    rw [← lp, List.take_succ_eq_append_getElem (by omega)]
    simp [List.getD, show k < zs.length by omega, Hid]
   go_wp2_with (go_at_call 199; refine (adY _ _ _).mono ?_; rintro e w' ⟨rfl, rfl⟩)
   go_round
   case rel => exact ⟨k + 1, by omega, by go_num, by rw [hs.out]; simp [hlt]⟩
   case measure => simp [intOf]; omega
  ·obtain rfl : k = zs.length := by omega
   go_wp2
   go_ret
   exact ⟨bU (by first | rfl | rw [List.take_length]), rfl⟩
theorem yC (a : Option Addr) (cap : Nat) (zs : List Int) (w : World) (hm : zs.length ≤ 1000) (hi : bQ w a zs) :
  Calls Tryz.prog 97 #[.slice a zs.length cap] w fun e w' => e = .returned (.int .i64 (ch zs)) ∧ w = w' := by
 go_enter Tryz.func97, Tryz.ntmps97
 go_wp2_with (go_at_call 157; refine (ad0 _ _ _ _ (by omega) (by assumption)).mono ?_; rintro e w' ⟨rfl, rfl⟩)
 go_ret
 exact ⟨rfl, rfl⟩
def cd (l : List Int) : Int := l.foldl max 0
theorem acm (l : List Int) (x : Int) : cd (l ++ [x]) = max (cd l) x := by simp [cd]
theorem zn (a : Option Addr) (cap : Nat) (zs : List Int) (w : World) (hm : zs.length ≤ 1000) (hi : bQ w a zs) :
  Calls Tryz.prog 160 #[.slice a zs.length cap] w fun e w' => e = .returned (.int .i64 (cd zs)) ∧ w = w' := by
 have HI := Lib.hid hi
 clear hi
 go_enter Tryz.func160, Tryz.ntmps160
 go_wp2
 go_loop [3, 4] (fun n i => ∃ k : Nat, k ≤ zs.length ∧ i = .int .i64 k ∧ n = .int .i64 (cd (zs.take k))) (fun _ i => zs.length - (intOf i).toNat)
 case atStart => exact ⟨0, Nat.zero_le _, rfl, rfl⟩
 case round =>
  obtain ⟨k, hk, rfl, rfl⟩ := hrel
  by_cases hlt : k < zs.length
  ·obtain ⟨b, off, rfl, _, hc⟩ := HI.out.cell (by omega)
   have hcell := hc k hlt
   clear hc
   have hs : Hid (cd (zs.take (k + 1)) = max (cd (zs.take k)) (zs.getD k 0)) := by
    rw [← acm, List.take_succ_eq_append_getElem (by omega)]
    simp [List.getD, show k < zs.length by omega, Hid]
   go_wp2
   go_round
   case rel => exact ⟨k + 1, by omega, by go_num, by rw [hs.out]; simp [hlt]; try omega⟩
   case measure => simp [intOf]; omega
  ·obtain rfl : k = zs.length := by omega
   go_wp2
   go_ret
   exact ⟨bU (by first | rfl | rw [List.take_length]), rfl⟩
end
section
open Go.RowKit
attribute [local go_sem] IsBlk.cell IsBlk.frozen
theorem ae.grown0 {B : Nat} {w0 wr w1 : World} {v : Value} {xs : List Int} {base : Nat} (hown : ae wr base v xs) (hb : Below B w0 wr) (hB : B ≤ wr.heap.size) (hbase : B ≤ base) (hg : wr.grownBy w1 v.ownBlock) : Below B w0 w1 := by
 refine hb.grown hg (by omega) (fun j hj => ?_)
 rcases hown.2 with ⟨rfl, _⟩ | ⟨g, cap, cur, rfl, hg, _⟩
 ·simp [Value.ownBlock] at hj
 ·simp [Value.ownBlock] at hj; omega
theorem ab5 (s : Int) (w : World) :
  Calls Tryz.prog 111 #[.int .i64 s] w fun e w' => ∃ a cap, ∃ u : Up w, e = .returned (.slice a (ci s).length cap) ∧ w' = u.w ∧ bQ u.w a (ci s) := by
 refine (abf s w).mono ?_
 rintro e w' ⟨v, rfl, hown, hb⟩
 obtain ⟨a, cap, rfl, hi⟩ := hown.opened
 exact ⟨a, cap, ⟨w', hb⟩, rfl, rfl, hi⟩
def xd (t : Tab) (xs : List Int) : List Int := xs.map fun p => ch [(t.ph p.toNat).yel, (t.ph p.toNat).red]
def cE (t : Tab) : Int := cd (xd t (ci (eB t)))
theorem z8 {s x : Int} {i : Nat} (h : (ci s)[i]? = some x) : ∃ p : Nat, x = p ∧ p < 8 := by
 have hm := List.mem_of_getElem? h
 obtain ⟨h0, h1, _⟩ := tT.1 hm
 exact ⟨x.toNat, by omega, by omega⟩
theorem acL (t : Tab) (xs : List Int) (k : Nat) (p : Nat) (h : xs[k]? = some (p : Int)) : xd t (xs.take (k + 1)) = xd t (xs.take k) ++ [ch [(t.ph p).yel, (t.ph p).red]] := by
 unfold xd; rw [List.take_add_one, h]; simp
theorem aas (T : Array Value) (t : Tab) (w : World) (hT : ag w T t) :
  Calls Tryz.prog 161 #[.agg T] w fun e w' => e = .returned (.int .i64 (cE t)) ∧ Below w.heap.size w w' := by
 haveI : Sz131 T := ⟨hT.size⟩
 have HT : Hid (∀ w', Below w.heap.size w w' → ag w' T t) := Lib.hid fun w' hb => hT.below hb (Nat.le_refl _)
 have HP : Hid (∀ p j v, p < 8 → j < 13 → (cy (t.ph p)).getD j undef = v → T[p * 13 + j]? = some v) := Lib.hid fun p j v hp hj hv => hT.phx p j v hp hj hv
 clear hT
 unfold cE
 have hlen : (ci (eB t)).length ≤ 8 := yS (eB t) 8
 have HM : Hid (∀ (i : Nat) (x : Int), (ci (eB t))[i]? = some x → ∃ p : Nat, x = p ∧ p < 8) := Lib.hid fun i x h => z8 h
 obtain ⟨R, hR⟩ : ∃ R, cd (xd t (ci (eB t))) = R := ⟨_, rfl⟩
 rw [hR]
 have HR := Lib.hid hR
 clear hR
 go_enter Tryz.func161, Tryz.ntmps161
 go_wp2_with (first | (refine aJ rfl rfl rfl ?_; go_simp) | (go_at_call 155; refine (Up.run (zm _ _ _ (HT.out _ (by exact yd)))).mono ?_; rintro e w' ⟨rfl, uo, rfl⟩) | (go_at_call 111; refine (ab5 _ _).mono ?_; rintro e w' ⟨la, lcap, ul, rfl, rfl, hli⟩))
 generalize ci (eB t) = xs at *
 have HL := Lib.hid hli
 clear hli
 go_loopw [3, 10] (fun l i wr => ∃ k : Nat, k ≤ xs.length ∧ i = .int .i64 k ∧ ∃ ur : Up ul.w, wr = ur.w ∧ ae wr ul.w.heap.size l (xd t (xs.take k))) (fun _ i _ => xs.length - (intOf i).toNat)
 case atStart => exact ⟨0, Nat.zero_le _, rfl, ⟨_, Below.refl _ _⟩, rfl, ae.nil _ _⟩
 case round =>
  obtain ⟨k, hk, rfl, ur, rfl, hown⟩ := hrel
  by_cases hlt : k < xs.length
  ·have hx : xs[k]? = some xs[k] := List.getElem?_eq_getElem hlt
   obtain ⟨p, hp, hp8⟩ := HM.out k _ hx
   rw [hp] at hx
   obtain ⟨b, off, rfl, hbl, hc⟩ := (bk.up ur HL.out).cell (by omega)
   have hck := hc k hlt
   rw [show xs.getD k 0 = (p : Int) by rw [List.getD_eq_getElem?_getD, hx]; rfl] at hck
   have hct := acL t xs k p hx
   have t6 := HP.out p 6 _ hp8 (by omega) rfl
   have t7 := HP.out p 7 _ hp8 (by omega) rfl
   simp only [cy, List.getD_cons_succ, List.getD_cons_zero] at t6 t7
   generalize (t.ph p).yel = yl at *
   generalize (t.ph p).red = rd at *
   have HCT := Lib.hid hct
   have hpI : (p : Int) < 8 := by omega
   clear hc hx hct hp
   have hfl : (xd t (xs.take k)).length ≤ 1000000 := by unfold xd; simp; omega
   obtain ⟨la, ll, lc, rfl⟩ := hown.slice
   go_wp2
   (refine wp_region_noPanic ?_; refine cX [] [0, 1, 2, 3, 4, 5, 6, 7, 8, 9, 10, 11, 12, 13] [14, 15] [11, 13] [(12, 11)] oJ (by kernel_rfl) (by kernel_rfl) (fun _ _ _ _ _ h => (h : False).elim) dY ?_; simp only [bD, List.filterMap_cons, List.filterMap_nil, List.getElem?_cons_succ, List.getElem?_cons_zero]; refine eS ?_)
   (repeat (first | (refine cL rfl rfl ?_; simp only [Act.put, List.setIfInBounds_toArray, List.set_cons_succ, List.set_cons_zero]) | (refine cM rfl rfl ?_; intro Z hZs hZi hZn K hK; (first | (go_big_quiet_op; (first | go_big_quiet_on | go_big_quiet_call ((first | fail))))); clear hZs hZi hZn Z)))
   (refine eV 2 (.cells #[.int .i64 yl, .int .i64 rd] 3) rfl rfl (fun w => (by simp [go_sem] <;> rfl)) ?_; intro q11 p11 hq11 hp11; simp only [Act.put, List.setIfInBounds_toArray, List.set_cons_succ, List.set_cons_zero])
   (repeat (first | (refine cL rfl rfl ?_; simp only [Act.put, List.setIfInBounds_toArray, List.set_cons_succ, List.set_cons_zero]) | (refine cM rfl rfl ?_; intro Z hZs hZi hZn K hK; (first | (go_big_quiet_op; (first | go_big_quiet_on | go_big_quiet_call ((first | (go_at_call 97; exact eZ.pure (yC _ _ [yl, rd] _ (by simp) (eG [yl, rd] (hp11 _ (my (h := 11) (hZi _ (eZ.z _)) rfl rfl))))) | fail))))); clear hZs hZi hZn Z)))
   (refine eV 1 (.cells #[.int .i64 (ch [yl, rd])] 3) rfl rfl (fun w => (by simp [go_sem] <;> rfl)) ?_; intro q13 p13 hq13 hp13; simp only [Act.put, List.setIfInBounds_toArray, List.set_cons_succ, List.set_cons_zero])
   (refine gX ?_; intro u hinv; have hO13 := (hp13 _ (hinv 13 _ rfl)).out; have lO13 := yR hO13; clear hinv; clear hp13 p13; go_simp)
   have o3 := hown.up u
   have hbu : Below ul.w.heap.size ul.w u.w := ur.bel.trans (u.bel.mono ur.bel.size)
   refine ju rfl _ _ rfl ul.w.heap.size rfl o3 (b := q13) (y := ch [yl, rd]) rfl (aV hO13 0 rfl) hfl hbu.size ?_
   intro v' w1 hown' hg
   have hb1 := o3.grown0 hbu hbu.size (Nat.le_refl _) hg
   clear o3 hg hown
   go_wp2
   refine NoPanic.normal ?_
   go_wp2
   go_roundw
   case rel => exact ⟨k + 1, by omega, by go_num, ⟨w1, hb1⟩, rfl, by rw [HCT.out]; exact hown'⟩
   case measure => simp [intOf]; omega
  ·obtain rfl : k = xs.length := by omega
   rw [List.take_length] at hown
   obtain ⟨a, cap, rfl, hi⟩ := hown.opened
   have hfl : (xd t xs).length ≤ 1000 := by unfold xd; simp; omega
   generalize xd t xs = zs at *
   go_wp2_with (go_at_call 160; refine (zn _ _ _ _ hfl hi).mono ?_; rintro e w' ⟨rfl, rfl⟩)
   go_ret
   exact ⟨bU HR.out, by exact yd⟩
end
section
open Go.RowKit
attribute [local go_sem] IsBlk.cell IsBlk.frozen
class IsPh (T : Array Value) (o : Nat) (p : outParam Phs) : Prop where
 out : ∀ j, j < 13 → T[o + j]? = some ((cy p).getD j undef)
theorem ag.isPh {w : World} {T : Array Value} {t : Tab} (h : ag w T t) (p : Nat) (hp : p < 8) : IsPh T (p * 13) (t.ph p) := ⟨fun j hj => by rw [Nat.mul_comm]; exact h.ph p j hp hj⟩
theorem o8 {w : World} {b o : Nat} {C : Array Value} {t : TypeId} {p : Phs} [h : IsBlk w b C t] [hp : IsPh C o p] : Sem.run Tryz.prog (Instr.loadAt 26 (.pointer (some ⟨b, o, none⟩))) w = .ok (.agg #[.bool p.on, .int .i64 p.min, .int .i64 p.gap, .int .i64 p.max, .int .i64 p.top, .int .i64 p.step, .int .i64 p.yel, .int .i64 p.red, .int .i64 p.walk, .int .i64 p.blinks, .int .i64 p.recl, .bool p.lock, .bool p.rest]) w := by
 have := run_loadAt_mid (P := Tryz.prog) w b o 26 (cy p) _ (gi h.out o (cy p) fun j hj => by
  rw [hp.out j (by simpa [cy] using hj), List.getD_eq_getElem?_getD, List.getElem?_eq_getElem hj]; rfl) Tryz.underlying26 rfl (by kernel_rfl)
 exact this
theorem xr {ops : Array Oper} {rest : List Oper} {op : Oper} {a : Act} {w : World} {Q : Exit → Act → World → Prop} {x : Operand} {b o : Nat} {C : Array Value} {t : TypeId} {p : Phs} (hgd : op.guard = none) (ho : op.op = .load 26 x) (hx : a.eval x = .pointer (some ⟨b, o, none⟩)) [h : IsBlk w b C t] [hp : IsPh C o p]
  (hk : wpList Tryz.prog ops Q rest (a.put op.dst (.agg #[.bool p.on, .int .i64 p.min, .int .i64 p.gap, .int .i64 p.max, .int .i64 p.top, .int .i64 p.step, .int .i64 p.yel, .int .i64 p.red, .int .i64 p.walk, .int .i64 p.blinks, .int .i64 p.recl, .bool p.lock, .bool p.rest])) w) : wpList Tryz.prog ops Q (op :: rest) a w := cR hgd ho hx o8 hk
theorem pa {s p : Int} (h : aT s p = true) : ∃ k : Nat, p = k ∧ k < 8 := by
 unfold aT at h
 simp at h
 exact ⟨p.toNat, by omega, by omega⟩
def se (t : Tab) (x : Phs) : Int := ch [cd [aU x.min, ch [x.walk, x.blinks], aU x.top], t.ext, x.yel, x.red, t.rev, 8]
def cZ (t : Tab) (p : Int) : Int := if aT (eB t) p then se t (t.ph p.toNat) else 0
theorem acs (T : Array Value) (t : Tab) (p : Int) (w : World) (hT : ag w T t) :
  Calls Tryz.prog 198 #[.agg T, .int .i64 p] w fun e w' => e = .returned (.int .i64 (cZ t p)) ∧ Below w.heap.size w w' := by
 haveI : Sz131 T := ⟨hT.size⟩
 have HT : Hid (∀ w', Below w.heap.size w w' → ag w' T t) := Lib.hid fun w' hb => hT.below hb (Nat.le_refl _)
 cases hh : aT (eB t) p
 ·rw [show cZ t p = 0 by simp [cZ, hh]]
  clear hT
  go_enter Tryz.func198, Tryz.ntmps198
  go_wp2_with (first | (refine aJ rfl rfl rfl ?_; go_simp) | (go_at_call 155; refine (Up.run (zm _ _ _ (HT.out _ (by exact yd)))).mono ?_; rintro e w' ⟨rfl, uo, rfl⟩) | (go_at_call 28; refine (yU _ _ _).mono ?_; rintro e w' ⟨rfl, rfl⟩))
  go_ret
  exact ⟨rfl, by exact yd⟩
 ·obtain ⟨k, rfl, hk⟩ := pa hh
  have hkI : (k : Int) < 8 := by omega
  haveI := hT.isPh k hk
  have t116 : T[116]? = some (.int .i64 t.ext) := by obtain ⟨g, d, r, b, rfl, _⟩ := hT; rw [ab _ _ _ (by omega)]; rfl
  have t119 : T[119]? = some (.int .i64 t.rev) := by obtain ⟨g, d, r, b, rfl, _⟩ := hT; rw [ab _ _ _ (by omega)]; rfl
  obtain ⟨R, hR⟩ : ∃ R, cZ t k = R := ⟨_, rfl⟩
  have HR := Lib.hid (show ch [cd [aU (t.ph k).min, ch [(t.ph k).walk, (t.ph k).blinks], aU (t.ph k).top], t.ext, (t.ph k).yel, (t.ph k).red, t.rev, 8] = R by rw [← hR]; simp [cZ, hh, se])
  rw [hR]
  clear hR
  generalize t.ph k = x at *
  generalize t.ext = ext at *
  generalize t.rev = rev at *
  clear hT
  go_enter Tryz.func198, Tryz.ntmps198
  go_wp2_with (first | (refine aJ rfl rfl rfl ?_; go_simp) | (go_at_call 155; refine (Up.run (zm _ _ _ (HT.out _ (by exact yd)))).mono ?_; rintro e w' ⟨rfl, uo, rfl⟩) | (go_at_call 28; refine (yU _ _ _).mono ?_; rintro e w' ⟨rfl, rfl⟩) | (refine xr rfl rfl rfl ?_; go_simp))
  (refine wp_region_noPanic ?_; refine cX [] [0, 1, 2, 3, 4, 5, 6, 7, 8, 9, 10, 11, 12, 13, 14, 15, 16, 17, 18, 19, 20, 21, 22, 23] [24] [7, 12, 22] [(8, 7), (13, 12), (23, 22)] oJ (by kernel_rfl) (by kernel_rfl) (fun _ _ _ _ _ h => (h : False).elim) dY ?_; simp only [bD, List.filterMap_cons, List.filterMap_nil, List.getElem?_cons_succ, List.getElem?_cons_zero]; refine eS ?_)
  (repeat (first | (refine cL rfl rfl ?_; simp only [Act.put, List.setIfInBounds_toArray, List.set_cons_succ, List.set_cons_zero]) | (refine cM rfl rfl ?_; intro Z hZs hZi hZn K hK; (first | (go_big_quiet_op; (first | go_big_quiet_on | go_big_quiet_call ((first | (go_at_call 158; exact eZ.pure (zj _ _)) | fail))))); clear hZs hZi hZn Z)))
  (refine eV 2 (.cells #[.int .i64 x.walk, .int .i64 x.blinks] 3) rfl rfl (fun w => (by simp [go_sem] <;> rfl)) ?_; intro q7 p7 hq7 hp7; simp only [Act.put, List.setIfInBounds_toArray, List.set_cons_succ, List.set_cons_zero])
  (repeat (first | (refine cL rfl rfl ?_; simp only [Act.put, List.setIfInBounds_toArray, List.set_cons_succ, List.set_cons_zero]) | (refine cM rfl rfl ?_; intro Z hZs hZi hZn K hK; (first | (go_big_quiet_op; (first | go_big_quiet_on | go_big_quiet_call ((first | (go_at_call 158; exact eZ.pure (zj _ _)) | (go_at_call 97; exact eZ.pure (yC _ _ [x.walk, x.blinks] _ (by simp) (eG [x.walk, x.blinks] (hp7 _ (my (h := 7) (hZi _ (eZ.z _)) rfl rfl))))) | fail))))); clear hZs hZi hZn Z)))
  (refine eV 3 (.cells #[.int .i64 (aU x.min), .int .i64 (ch [x.walk, x.blinks]), .int .i64 (aU x.top)] 3) rfl rfl (fun w => (by simp [go_sem] <;> rfl)) ?_; intro q12 p12 hq12 hp12; simp only [Act.put, List.setIfInBounds_toArray, List.set_cons_succ, List.set_cons_zero])
  (repeat (first | (refine cL rfl rfl ?_; simp only [Act.put, List.setIfInBounds_toArray, List.set_cons_succ, List.set_cons_zero]) | (refine cM rfl rfl ?_; intro Z hZs hZi hZn K hK; (first | (go_big_quiet_op; (first | go_big_quiet_on | go_big_quiet_call ((first | (go_at_call 160; exact eZ.pure (zn _ _ [aU x.min, ch [x.walk, x.blinks], aU x.top] _ (by simp) (eG [aU x.min, ch [x.walk, x.blinks], aU x.top] (hp12 _ (my (h := 12) (hZi _ (eZ.z _)) rfl rfl))))) | fail))))); clear hZs hZi hZn Z)))
  (refine eV 6 (.cells #[.int .i64 (cd [aU x.min, ch [x.walk, x.blinks], aU x.top]), .int .i64 ext, .int .i64 x.yel, .int .i64 x.red, .int .i64 rev, .int .i64 8] 3) rfl rfl (fun w => (by simp [go_sem] <;> rfl)) ?_; intro q22 p22 hq22 hp22; simp only [Act.put, List.setIfInBounds_toArray, List.set_cons_succ, List.set_cons_zero])
  (repeat (first | (refine cL rfl rfl ?_; simp only [Act.put, List.setIfInBounds_toArray, List.set_cons_succ, List.set_cons_zero]) | (refine cM rfl rfl ?_; intro Z hZs hZi hZn K hK; (first | (go_big_quiet_op; (first | go_big_quiet_on | go_big_quiet_call ((first | (go_at_call 97; exact eZ.pure (yC _ _ [cd [aU x.min, ch [x.walk, x.blinks], aU x.top], ext, x.yel, x.red, rev, 8] _ (by simp) (eG [cd [aU x.min, ch [x.walk, x.blinks], aU x.top], ext, x.yel, x.red, rev, 8] (hp22 _ (my (h := 22) (hZi _ (eZ.z _)) rfl rfl))))) | fail))))); clear hZs hZi hZn Z)))
  (refine gX ?_; intro u hinv; clear hinv; go_simp)
  go_wp2
  refine NoPanic.normal ?_
  go_wp2
  go_ret
  exact ⟨bU HR.out, by exact yd⟩
end
section
open Go.RowKit
attribute [local go_sem] IsBlk.cell IsBlk.frozen
theorem ae.one {w : World} {q base : Nat} {x : Int} (h : w.heap[q]? = some (.cells #[.int .i64 x] 3)) (hb : base ≤ q) : ae w base (.slice (some ⟨q, 0, none⟩) 1 1) [x] :=
 ⟨rfl, .inr ⟨q, 1, #[.int .i64 x], rfl, hb, h, by simp, by decide, rfl, rfl⟩⟩
theorem adS (T : Array Value) (t : Tab) (w : World) (hT : ag w T t) :
  Calls Tryz.prog 197 #[.agg T] w fun e w' => ∃ a cap, ∃ u : Up w, e = .returned (.slice a (io t.gr).length cap) ∧ w' = u.w ∧ bB u.w a 4 (io t.gr).length (aF aac (io t.gr)) ∧ ∀ b off, a = some ⟨b, off, none⟩ → w.heap.size ≤ b := by
 refine (abl T t w hT).mono ?_
 rintro e w' ⟨v, rfl, hown, hb⟩
 have hown0 := hown
 obtain ⟨a, cap, rfl, _, _, _, hr⟩ := aD.opened zR hown
 refine ⟨a, cap, ⟨w', hb⟩, rfl, rfl, hr, fun b off e => ?_⟩
 rcases hown0.2 with ⟨h, _⟩ | ⟨g, _, _, h, hg, _⟩
 ·injection h with h1; rw [e] at h1; cases h1
 ·injection h with h1; rw [e] at h1; cases h1; exact hg
theorem bB.grown {w w' : World} {a : Option Addr} {k len : Nat} {V : Nat → Nat → Value} {row : Option Nat} (h : bB w a k len V) (hg : w.grownBy w' row) (hn : ∀ b off, a = some ⟨b, off, none⟩ → row ≠ some b) : bB w' a k len V := by
 rcases h with h | ⟨b, off, rfl, hb, hc⟩
 ·exact .inl h
 ·exact .inr ⟨b, off, rfl, Nat.lt_of_lt_of_le hb hg.size, fun i hi j hj => by
   rw [World.cell?_of_block (a := ⟨b, off + i * k + j, none⟩) (hg.block b hb (fun e => hn b off rfl e.symm))]; exact hc i hi j hj⟩
theorem zJ {ops : Array Oper} {rest : List Oper} {o : Oper} {a : Act} {w : World} {Q : Exit → Act → World → Prop} (hgd : o.guard = none) (s x : Operand)
  (ho : o.op = .call { callee := .builtin .append, args := #[s, x], argTypes := #[51, 51] })
  (base : Nat) {v : Value} {zs : List Int} (hs : a.eval s = v) (hown : ae w base v zs)
  {b : Nat} {y : Int} (hx : a.eval x = .slice (some ⟨b, 0, none⟩) 1 1) (hc : w.cell? ⟨b, 0, none⟩ = some (.int .i64 y)) (hn : zs.length ≤ 1000000) (hbase : base ≤ w.heap.size)
  (h : ∀ v' w', ae w' base v' (zs ++ [y]) → w.grownBy w' v.ownBlock → (v'.ownBlock = v.ownBlock ∨ v'.ownBlock = some w.heap.size) → wpList Tryz.prog ops Q rest (a.put o.dst v') w') : wpList Tryz.prog ops Q (o :: rest) a w := by
 obtain ⟨i0, hinfo, hz0, hz1, hz2⟩ := info_parts m9
 refine wpList_append_own_at w hgd s x 51 ho base 3 i0 (.int .i64 0) 1 8 Tryz.underlying51 hinfo hz0 hz1 hz2 rfl (by decide) v zs.length _ hs hown ⟨b, 0, none⟩ 1 1 [.int .i64 y] hx rfl ?_ ?_ ?_ ?_ hbase (fun v' w' h1 h2 _ h4 => h v' w' ?_ h2 h4)
 ·intro j u hj; match j, hj with | 0, hj => simp at hj; subst hj; simp [Addr.add]; exact hc
 ·simp [Value.oneCell']
 ·unfold maxLen; omega
 ·omega
 ·unfold ae; simpa using h1
theorem ac7 {w : World} {T : Array Value} {t : Tab} (hT : ag w T t) : (io t.gr).length ≤ 200 := by
 obtain ⟨g, d, r, b, _, hI⟩ := hT
 have := yX hI.lr t.gr.length
 have := hI.lg
 unfold io; omega
def xW (t : Tab) (g : Int) (sp : List Spot) : List Int := (sp.filter fun s => (s.g : Int) == g).map fun s => cZ t s.p
def cK (t : Tab) (g : Int) : Int := if 0 ≤ g ∧ g < t.gr.length then ch (8 :: xW t g (io t.gr)) else 0
theorem adM (t : Tab) (g : Int) (sp : List Spot) (k : Nat) (s : Spot) (h : sp[k]? = some s) : xW t g (sp.take (k + 1)) = xW t g (sp.take k) ++ (if (s.g : Int) == g then [cZ t s.p] else []) := by
 unfold xW; rw [List.take_add_one, h, List.filter_append, List.map_append]
 cases hc : ((s.g : Int) == g) <;> simp [hc]
theorem acE (t : Tab) (g : Int) (sp : List Spot) : (xW t g sp).length ≤ sp.length := by
 unfold xW; rw [List.length_map]; exact List.length_filter_le _ _
theorem ac4 (T : Array Value) (t : Tab) (g : Int) (w : World) (hT : ag w T t) :
  Calls Tryz.prog 156 #[.agg T, .int .i64 g] w fun e w' => e = .returned (.int .i64 (cK t g)) ∧ Below w.heap.size w w' := by
 haveI : Sz131 T := ⟨hT.size⟩
 have HT : Hid (∀ w', Below w.heap.size w w' → ag w' T t) := Lib.hid fun w' hb => hT.below hb (Nat.le_refl _)
 have hsl := ac7 hT
 obtain ⟨ga, gcap, t104, hlg⟩ : ∃ ga gcap, T[104]? = some (.slice ga t.gr.length gcap) ∧ t.gr.length ≤ 8 := by
  obtain ⟨g, d, r, b, hTe, hI⟩ := hT
  obtain ⟨ga, gcap, H, rfl, _, _⟩ := hI.gr
  exact ⟨ga, gcap, by rw [hTe, ab _ _ _ (by omega)]; rfl, hI.lg⟩
 clear hT
 by_cases h0 : g < 0
 ·rw [show cK t g = 0 by unfold cK; rw [if_neg (by omega)]]
  go_enter Tryz.func156, Tryz.ntmps156
  go_wp2
  go_ret
  exact ⟨rfl, by exact yd⟩
 by_cases h1 : (t.gr.length : Int) ≤ g
 ·rw [show cK t g = 0 by unfold cK; rw [if_neg (by omega)]]
  go_enter Tryz.func156, Tryz.ntmps156
  go_wp2
  go_ret
  exact ⟨rfl, by exact yd⟩
 obtain ⟨R, hR⟩ : ∃ R, cK t g = R := ⟨_, rfl⟩
 have HR := Lib.hid (show ch (8 :: xW t g (io t.gr)) = R by rw [← hR]; unfold cK; rw [if_pos (by omega)])
 rw [hR]
 clear hR
 go_enter Tryz.func156, Tryz.ntmps156
 go_wp2_with (first | (refine aJ rfl rfl rfl ?_; go_simp) | (go_at_call 197; refine (adS _ _ _ (HT.out _ (by exact yd))).mono ?_; rintro e w' ⟨sa, scap, us, rfl, rfl, hsp, hsa⟩))
 generalize io t.gr = sp at *
 have HSP := Lib.hid hsp
 have HSA := Lib.hid hsa
 clear hsp hsa
 go_loopw [5, 21] (fun l i wr => ∃ k : Nat, k ≤ sp.length ∧ i = .int .i64 k ∧ ae wr (w.heap.size + 1) l (8 :: xW t g (sp.take k)) ∧ Below (w.heap.size + 1) (w.alloc (.cells T 34)) wr ∧ bB wr sa 4 sp.length (aF aac sp) ∧ ∀ b off, sa = some ⟨b, off, none⟩ → l.ownBlock ≠ some b) (fun _ i _ => sp.length - (intOf i).toNat)
 case atStart => exact ⟨0, Nat.zero_le _, rfl, (ae.one (q := w.heap.size + 1) (x := 8) (by have := aq (w.alloc (.cells T 34)) (.cells #[.int .i64 8] 3); simpa using this) (Nat.le_refl _)).up us, Below.trans ((Below.refl _ _).alloc (by simp) _) (us.bel.mono (by simp)), HSP.out, fun b off e => by have := HSA.out b off e; simp [Value.ownBlock] at this ⊢; omega⟩
 case round =>
  obtain ⟨k, hk, rfl, hown, hb, hrow, hne⟩ := hrel
  obtain ⟨ur, rfl⟩ : ∃ ur : Up (w.alloc (.cells T 34)), wr = ur.w := ⟨⟨wr, hb.mono (by simp)⟩, rfl⟩
  have hpl := acE t g (sp.take k)
  have hfl : (8 :: xW t g (sp.take k)).length ≤ 1000000 := by simp at hpl ⊢; omega
  by_cases hlt : k < sp.length
  ·obtain ⟨s, hx⟩ : ∃ s, sp[k]? = some s := ⟨_, List.getElem?_eq_getElem hlt⟩
   obtain ⟨b, off, rfl, hbl, hc⟩ := hrow.resolve_left (by omega)
   have c0 := hc k hlt 0 (by omega)
   have c1 := hc k hlt 1 (by omega)
   have c2 := hc k hlt 2 (by omega)
   have c3 := hc k hlt 3 (by omega)
   simp only [aF, hx, Option.bind_some, aac, List.getElem?_cons_zero, List.getElem?_cons_succ, Option.getD_some, Nat.add_zero] at c0 c1 c2 c3
   have hct := adM t g sp k s hx
   obtain ⟨la, ll, lc, rfl⟩ := hown.slice
   clear hc hx
   by_cases hg : (s.g : Int) = g
   ·rw [show ((s.g : Int) == g) = true by simp [hg], if_pos rfl] at hct
    have HCT := Lib.hid hct
    clear hct
    have HG := Lib.hid hg
    have hg' : ((s.g : Int) == g) = true := by simp [hg]
    clear hg
    obtain ⟨S, hS⟩ : ∃ S, cZ t s.p = S := ⟨_, rfl⟩
    have HSV : ∀ w', Below w.heap.size w w' → Calls Tryz.prog 198 #[.agg T, .int .i64 s.p] w' fun e w'' => e = .returned (.int .i64 S) ∧ Below w'.heap.size w' w'' := fun w' h => by rw [← hS]; exact acs T t s.p w' (HT.out _ h)
    rw [hS] at HCT
    clear hS
    go_wp2_with (first | (refine aJ rfl rfl rfl ?_; go_simp) | (go_at_call 198; refine (Up.run (HSV _ (by exact yd))).mono ?_; rintro e w' ⟨rfl, use, rfl⟩) | (at_builtin; go_loud (have o3 := Lib.hid (hown.below (show Below ur.w.heap.size ur.w (use.w.alloc (.cells #[.int .i64 S] 3)) by exact yd)); have hr3 := Lib.hid (hrow.below (show Below ur.w.heap.size ur.w (use.w.alloc (.cells #[.int .i64 S] 3)) by exact yd) (Nat.le_refl _)); have hb3 := Lib.hid (hb.trans (show Below (w.heap.size + 1) ur.w (use.w.alloc (.cells #[.int .i64 S] 3)) by exact yd)); refine zJ rfl _ _ rfl (w.heap.size + 1) rfl o3.out (b := use.w.heap.size) (y := S) rfl (by simp) hfl (by have := hb3.out.size; simp only [World.size_alloc] at this ⊢; exact this) ?_; intro v' w1 hown' hg hat)))
    have hb4 := o3.out.grown0 hb3.out (by have := hb3.out.size; simp only [World.size_alloc] at this ⊢; exact this) (Nat.le_refl _) hg
    have hr4 := hr3.out.grown hg hne
    have hn4 : ∀ b2 off2, some (⟨b, off, none⟩ : Addr) = some ⟨b2, off2, none⟩ → v'.ownBlock ≠ some b2 := fun b2 off2 e => by
     cases e
     rcases hat with h | h
     ·rw [h]; exact hne b off rfl
     ·rw [h]; simp; have := (use.bel.size); simp at this; omega
    clear hg
    go_roundw
    case rel => exact ⟨k + 1, by omega, by go_num, by rw [HCT.out]; exact hown', hb4, hr4, hn4⟩
    case measure => simp [intOf]; omega
   ·rw [show ((s.g : Int) == g) = false by simp [hg], if_neg (by simp), List.append_nil] at hct
    have HCT := Lib.hid hct
    have hg' : ((s.g : Int) == g) = false := by simp [hg]
    clear hct hg
    go_wp2
    go_roundw
    case rel => exact ⟨k + 1, by omega, by go_num, by rw [HCT.out]; exact hown.below (by exact yd), hb.trans (by exact yd), hrow.below (by exact yd) (Nat.le_refl _), hne⟩
    case measure => simp [intOf]; omega
  ·obtain rfl : k = sp.length := by omega
   rw [List.take_length] at hown
   obtain ⟨a, cap, rfl, hi⟩ := hown.opened
   have hzl : (8 :: xW t g sp).length ≤ 1000 := by have := acE t g sp; simp; omega
   generalize 8 :: xW t g sp = zs at *
   go_wp2_with (go_at_call 97; refine (yC _ _ _ _ hzl hi).mono ?_; rintro e w' ⟨rfl, rfl⟩)
   go_ret
   exact ⟨bU HR.out, by exact yd⟩
end
section
open Go.RowKit
attribute [local go_sem] IsBlk.cell IsBlk.frozen
theorem dp {ops : Array Oper} {rest : List Oper} {op : Oper} {a : Act} {w : World} {Q : Exit → Act → World → Prop} {x : Operand} {ty : TypeId} {b o : Nat} {v : Value} (hw : Region.wanted op (yielded ops a.tmps) = true) (ho : op.op = .load ty x) (hx : a.eval x = .pointer (some ⟨b, o, none⟩))
  (hrun : Sem.run Tryz.prog (Instr.loadAt ty (.pointer (some ⟨b, o, none⟩))) w = .ok v w) (h : wpList Tryz.prog ops Q rest (a.put op.dst v) w) : wpList Tryz.prog ops Q (op :: rest) a w := by
 refine wpList_step fun K hK => ?_
 simp only [hw, if_true]
 unfold Oper.wp execOp
 simp only [ho, hx]
 generalize Instr.loadAt ty (Value.pointer (some ⟨b, o, none⟩)) = L at hrun ⊢
 simp [go_sem, hrun]
 exact hK _ _ h
theorem jn {ops : Array Oper} {rest : List Oper} {op : Oper} {a : Act} {w : World} {Q : Exit → Act → World → Prop} {x : Operand} {b : Nat} {C : Array Value} {t : TypeId} (hw : Region.wanted op (yielded ops a.tmps) = true) (ho : op.op = .load 34 x) (hx : a.eval x = .pointer (some ⟨b, 0, none⟩)) [h : IsBlk w b C t] [hz : Sz131 C]
  (hk : wpList Tryz.prog ops Q rest (a.put op.dst (.agg C)) w) : wpList Tryz.prog ops Q (op :: rest) a w := dp hw ho hx cA hk
def u9 (t : Tab) (n : Nat) : List Int := (List.range n).map fun g : Nat => cK t (g : Int)
theorem tP (t : Tab) (n : Nat) : u9 t (n + 1) = u9 t n ++ [cK t (n : Int)] := by unfold u9; rw [List.range_succ, List.map_append]; rfl
theorem aea (t : Tab) (n : Nat) : (u9 t n).length = n := by simp [u9]
def dg (t : Tab) (p : Int) : Int := match bh t.gr p with | none => 0 | some x => if aT (eB t) p then ch (cK t x.g :: u9 t t.gr.length) else 0
theorem ac1 (T : Array Value) (t : Tab) (p : Int) (w : World) (hT : ag w T t) :
  Calls Tryz.prog 96 #[.agg T, .int .i64 p] w fun e w' => e = .returned (.int .i64 (dg t p)) ∧ Below w.heap.size w w' := by
 haveI : Sz131 T := ⟨hT.size⟩
 have HT : Hid (∀ w', Below w.heap.size w w' → ag w' T t) := Lib.hid fun w' hb => hT.below hb (Nat.le_refl _)
 obtain ⟨ga, gcap, t104, hlg⟩ : ∃ ga gcap, T[104]? = some (.slice ga t.gr.length gcap) ∧ t.gr.length ≤ 8 := by
  obtain ⟨g, d, r, b, hTe, hI⟩ := hT
  obtain ⟨ga, gcap, H, rfl, _, _⟩ := hI.gr
  exact ⟨ga, gcap, by rw [hTe, ab _ _ _ (by omega)]; rfl, hI.lg⟩
 clear hT
 have HW : ∀ w', ag w' T t → Calls Tryz.prog 150 #[.agg T, .int .i64 p] w' fun e w'' => e = .returned (.tuple #[.agg (spA (bh t.gr p)), .bool (bh t.gr p).isSome]) ∧ Below w'.heap.size w' w'' := fun w' h => abm T t p w' h
 cases hw : bh t.gr p with
 | none =>
  rw [show dg t p = 0 by simp [dg, hw]]
  rw [hw] at HW
  simp only [spA, Option.isSome] at HW
  have HW := Lib.hid HW
  go_enter Tryz.func96, Tryz.ntmps96
  go_wp2_with (first | (refine aJ rfl rfl rfl ?_; go_simp) | (go_at_call 150; refine (Up.run (HW.out _ (HT.out _ (by exact yd)))).mono ?_; rintro e w' ⟨rfl, uw, rfl⟩))
  go_ret
  exact ⟨rfl, by exact yd⟩
 | some x =>
  rw [hw] at HW
  simp only [spA, Option.isSome] at HW
  have HW := Lib.hid HW
  cases hh : aT (eB t) p
  ·rw [show dg t p = 0 by simp [dg, hw, hh]]
   clear hw
   go_enter Tryz.func96, Tryz.ntmps96
   go_wp2_with (first | (refine aJ rfl rfl rfl ?_; go_simp) | (refine jn rfl rfl rfl ?_; go_simp) | (go_at_call 155; refine (Up.run (zm _ _ _ (HT.out _ (by exact yd)))).mono ?_; rintro e w' ⟨rfl, uo, rfl⟩) | (go_at_call 28; refine (yU _ _ _).mono ?_; rintro e w' ⟨rfl, rfl⟩) | (go_at_call 150; refine (Up.run (HW.out _ (HT.out _ (by exact yd)))).mono ?_; rintro e w' ⟨rfl, uw, rfl⟩))
   go_ret
   exact ⟨rfl, by exact yd⟩
  ·obtain ⟨R, hR⟩ : ∃ R, dg t p = R := ⟨_, rfl⟩
   have HR := Lib.hid (show ch (cK t x.g :: u9 t t.gr.length) = R by rw [← hR]; simp [dg, hw, hh])
   rw [hR]
   clear hR hw
   obtain ⟨P0, hP0⟩ : ∃ P0, cK t x.g = P0 := ⟨_, rfl⟩
   have HPA : Hid (∀ w', Below w.heap.size w w' → ∀ g, Calls Tryz.prog 156 #[.agg T, .int .i64 g] w' fun e w'' => e = .returned (.int .i64 (cK t g)) ∧ Below w'.heap.size w' w'') := Lib.hid fun w' h g => ac4 T t g w' (HT.out _ h)
   have HP0 : Hid (∀ w', Below w.heap.size w w' → Calls Tryz.prog 156 #[.agg T, .int .i64 x.g] w' fun e w'' => e = .returned (.int .i64 P0) ∧ Below w'.heap.size w' w'') := Lib.hid fun w' h => by rw [← hP0]; exact HPA.out w' h x.g
   rw [hP0] at HR
   clear hP0
   go_enter Tryz.func96, Tryz.ntmps96
   go_wp2_with (first | (refine aJ rfl rfl rfl ?_; go_simp) | (refine jn rfl rfl rfl ?_; go_simp) | (go_at_call 155; refine (Up.run (zm _ _ _ (HT.out _ (by exact yd)))).mono ?_; rintro e w' ⟨rfl, uo, rfl⟩) | (go_at_call 28; refine (yU _ _ _).mono ?_; rintro e w' ⟨rfl, rfl⟩) | (go_at_call 150; refine (Up.run (HW.out _ (HT.out _ (by exact yd)))).mono ?_; rintro e w' ⟨rfl, uw, rfl⟩) | (go_at_call 156; refine (Up.run (HP0.out _ (by exact yd))).mono ?_; rintro e w' ⟨rfl, up, rfl⟩))
   go_loopw [7, 8] (fun l i wr => ∃ k : Nat, k ≤ t.gr.length ∧ i = .int .i64 k ∧ ae wr (w.heap.size + 1) l (P0 :: u9 t k) ∧ Below (w.heap.size + 1) (w.alloc (.cells T 34)) wr) (fun _ i _ => t.gr.length - (intOf i).toNat)
   case atStart => exact ⟨0, Nat.zero_le _, rfl, ae.one (aq _ _) LeSize.out, by exact yd⟩
   case round =>
    clear HP0 HW
    obtain ⟨k, hk, rfl, hown, hb⟩ := hrel
    obtain ⟨ur, rfl⟩ : ∃ ur : Up (w.alloc (.cells T 34)), wr = ur.w := ⟨⟨wr, hb.mono (by simp)⟩, rfl⟩
    have hpl := aea t k
    have hfl : (P0 :: u9 t k).length ≤ 1000000 := by simp; omega
    by_cases hlt : k < t.gr.length
    ·obtain ⟨S, hS⟩ : ∃ S, cK t (k : Int) = S := ⟨_, rfl⟩
     have HS : Hid (∀ w', Below w.heap.size w w' → Calls Tryz.prog 156 #[.agg T, .int .i64 k] w' fun e w'' => e = .returned (.int .i64 S) ∧ Below w'.heap.size w' w'') := Lib.hid fun w' h => by rw [← hS]; exact HPA.out w' h k
     have hct := tP t k
     rw [hS] at hct
     have HCT := Lib.hid hct
     clear hct hS HPA
     obtain ⟨la, ll, lc, rfl⟩ := hown.slice
     go_wp2_with (first | (refine aJ rfl rfl rfl ?_; go_simp) | (go_at_call 156; refine (Up.run (HS.out _ (by exact yd))).mono ?_; rintro e w' ⟨rfl, use, rfl⟩) | (at_builtin; have o3 := Lib.hid (hown.below (show Below ur.w.heap.size ur.w (use.w.alloc (.cells #[.int .i64 S] 3)) by exact yd)); have hb3 := Lib.hid (hb.trans (show Below (w.heap.size + 1) ur.w (use.w.alloc (.cells #[.int .i64 S] 3)) by exact yd)); refine ju rfl _ _ rfl (w.heap.size + 1) rfl o3.out (b := use.w.heap.size) (y := S) rfl (by simp) hfl (by have := hb3.out.size; simp only [World.size_alloc] at this ⊢; exact this) ?_; intro v' w1 hown' hg))
     have hb4 := o3.out.grown0 hb3.out (by have := hb3.out.size; simp only [World.size_alloc] at this ⊢; exact this) (Nat.le_refl _) hg
     clear hg
     go_roundw
     case rel => exact ⟨k + 1, by omega, by go_num, by rw [HCT.out]; exact hown', hb4⟩
     case measure => simp [intOf]; omega
    ·obtain rfl : k = t.gr.length := by omega
     obtain ⟨a, cap, rfl, hi⟩ := hown.opened
     have hzl : (P0 :: u9 t t.gr.length).length ≤ 1000 := by simp; omega
     generalize P0 :: u9 t t.gr.length = zs at *
     go_wp2_with (go_at_call 97; refine (yC _ _ _ _ hzl hi).mono ?_; rintro e w' ⟨rfl, rfl⟩)
     go_ret
     exact ⟨bU HR.out, by exact yd⟩
end
section
open Go.RowKit
attribute [local go_sem] IsBlk.cell IsBlk.frozen
def dL (t : Tab) (r : Rl) : Int := ch [r.dly, r.hold, r.grn, r.grn, r.foot, r.foot, r.foot, cE t, cE t, cE t, cE t, cE t, t.rev, t.rev, t.rev, 60]
theorem ag.rails {w : World} {T : Array Value} {t : Tab} (h : ag w T t) : ∃ a cap, T[114]? = some (.slice a t.ra.length cap) ∧ bB w a 11 t.ra.length (aF dq t.ra) ∧ t.ra.length ≤ 64 := by
 obtain ⟨g, d, r, b, rfl, hI⟩ := h
 obtain ⟨a, cap, rfl, hr⟩ := hI.ra
 exact ⟨a, cap, by rw [ab _ _ _ (by omega)]; rfl, hr, hI.la⟩
theorem ag.rev' {w : World} {T : Array Value} {t : Tab} (h : ag w T t) : T[119]? = some (.int .i64 t.rev) := by
 obtain ⟨g, d, r, b, rfl, _⟩ := h; rw [ab _ _ _ (by omega)]; rfl
theorem acr (T : Array Value) (t : Tab) (k : Nat) (r : Rl) (w : World) (hT : ag w T t) (hk : t.ra[k]? = some r) :
  Calls Tryz.prog 159 #[.agg T, .int .i64 k] w fun e w' => e = .returned (.int .i64 (dL t r)) ∧ Below w.heap.size w w' := by
 haveI : Sz131 T := ⟨hT.size⟩
 have HT : Hid (∀ w', Below w.heap.size w w' → ag w' T t) := Lib.hid fun w' hb => hT.below hb (Nat.le_refl _)
 obtain ⟨ra, rcap, t114, hrow, hl64⟩ := hT.rails
 have t119 := hT.rev'
 have hlt := (List.getElem?_eq_some_iff.1 hk).1
 obtain ⟨b, off, rfl, hbl, hc⟩ := hrow.resolve_left (by omega)
 have c0 := hc k hlt 0 (by omega)
 have c1 := hc k hlt 1 (by omega)
 have c2 := hc k hlt 2 (by omega)
 have c3 := hc k hlt 3 (by omega)
 have c4 := hc k hlt 4 (by omega)
 have c5 := hc k hlt 5 (by omega)
 have c6 := hc k hlt 6 (by omega)
 have c7 := hc k hlt 7 (by omega)
 have c8 := hc k hlt 8 (by omega)
 have c9 := hc k hlt 9 (by omega)
 have c10 := hc k hlt 10 (by omega)
 simp only [aF, hk, Option.bind_some, dq, List.getElem?_cons_zero, List.getElem?_cons_succ, Option.getD_some, Nat.add_zero] at c0 c1 c2 c3 c4 c5 c6 c7 c8 c9 c10
 clear hc hrow hT hk
 have hltI : (k : Int) < t.ra.length := by omega
 haveI : LeSize (b + 1) w := ⟨hbl⟩
 obtain ⟨R, hR⟩ : ∃ R, dL t r = R := ⟨_, rfl⟩
 obtain ⟨cl, hcl⟩ : ∃ cl, cE t = cl := ⟨_, rfl⟩
 have HR := Lib.hid (show ch [r.dly, r.hold, r.grn, r.grn, r.foot, r.foot, r.foot, cl, cl, cl, cl, cl, t.rev, t.rev, t.rev, 60] = R by rw [← hR, ← hcl]; rfl)
 have HC : Hid (∀ w', Below w.heap.size w w' → Calls Tryz.prog 161 #[.agg T] w' fun e w'' => e = .returned (.int .i64 cl) ∧ Below w'.heap.size w' w'') := Lib.hid fun w' h => by rw [← hcl]; exact aas T t w' (HT.out _ h)
 rw [hR]
 clear hR hcl
 go_enter Tryz.func159, Tryz.ntmps159
 go_wp2_with (first | (refine aJ rfl rfl rfl ?_; go_simp) | (go_at_call 161; refine (Up.run (HC.out _ (by exact yd))).mono ?_; rintro e w' ⟨rfl, ucl, rfl⟩) | (go_at_call 97; refine (yC _ _ [r.dly, r.hold, r.grn, r.grn, r.foot, r.foot, r.foot, cl, cl, cl, cl, cl, t.rev, t.rev, t.rev, 60] _ (by simp) (cU _ rfl rfl)).mono ?_; rintro e w' ⟨rfl, rfl⟩))
 go_ret
 exact ⟨bU HR.out, by exact yd⟩
theorem aaA {ops : Array Oper} {rest : List Oper} {o : Oper} {a : Act} {w : World} {Q : Exit → Act → World → Prop} (hgd : o.guard = none) (s x : Operand)
  (ho : o.op = .call { callee := .builtin .append, args := #[s, x], argTypes := #[51, 51] })
  (base : Nat) {v : Value} {zs : List Int} (hs : a.eval s = v) (hown : ae w base v zs)
  {b : Nat} {y z : Int} (hx : a.eval x = .slice (some ⟨b, 0, none⟩) 2 2) (hc : w.cell? ⟨b, 0, none⟩ = some (.int .i64 y)) (hc1 : w.cell? ⟨b, 1, none⟩ = some (.int .i64 z)) (hn : zs.length ≤ 1000000) (hbase : base ≤ w.heap.size)
  (h : ∀ v' w', ae w' base v' (zs ++ [y, z]) → w.grownBy w' v.ownBlock → wpList Tryz.prog ops Q rest (a.put o.dst v') w') : wpList Tryz.prog ops Q (o :: rest) a w := by
 obtain ⟨i0, hinfo, hz0, hz1, hz2⟩ := info_parts m9
 refine wpList_append_own w hgd s x 51 ho base 3 i0 (.int .i64 0) 1 8 Tryz.underlying51 hinfo hz0 hz1 hz2 rfl (by decide) v zs.length _ hs hown ⟨b, 0, none⟩ 2 2 [.int .i64 y, .int .i64 z] hx rfl ?_ ?_ ?_ ?_ hbase (fun v' w' h1 h2 _ => h v' w' ?_ h2)
 ·intro j u hj; match j, hj with
  | 0, hj => simp at hj; subst hj; simp [Addr.add]; exact hc
  | 1, hj => simp at hj; subst hj; simp [Addr.add]; exact hc1
 ·simp [Value.oneCell']
 ·unfold maxLen; omega
 ·omega
 ·unfold ae; simpa using h1
def vt (t : Tab) (rs : List Rl) : List Int := rs.map fun r => ch [dL t r, r.stay]
def xH (t : Tab) (xs : List Int) : List Int := xs.flatMap fun p => [aU (t.ph p.toNat).min, ch [(t.ph p.toNat).walk, (t.ph p.toNat).blinks]]
def iV (t : Tab) : Int := if t.ra.length = 0 then 0 else ch [cd (vt t t.ra), cd (xH t (ci (eB t))), cE t, t.rev, 30]
theorem adH (t : Tab) (rs : List Rl) (k : Nat) (r : Rl) (h : rs[k]? = some r) : vt t (rs.take (k + 1)) = vt t (rs.take k) ++ [ch [dL t r, r.stay]] := by
 unfold vt; rw [List.take_add_one, h]; simp
theorem adD (t : Tab) (xs : List Int) (k : Nat) (p : Nat) (h : xs[k]? = some (p : Int)) : xH t (xs.take (k + 1)) = xH t (xs.take k) ++ [aU (t.ph p).min, ch [(t.ph p).walk, (t.ph p).blinks]] := by
 unfold xH; rw [List.take_add_one, h]; simp
theorem acC (t : Tab) (rs : List Rl) : (vt t rs).length = rs.length := by simp [vt]
theorem abG (t : Tab) : ∀ xs : List Int, (xH t xs).length = 2 * xs.length
 | [] => rfl
 | x :: xs => by have := abG t xs; unfold xH at *; rw [List.flatMap_cons, List.length_append, this]; simp; omega
end
section
open Go.RowKit
attribute [local go_sem] IsBlk.cell IsBlk.frozen
theorem ac2 (T : Array Value) (t : Tab) (w : World) (hT : ag w T t) :
  Calls Tryz.prog 99 #[.agg T] w fun e w' => e = .returned (.int .i64 (iV t)) ∧ Below w.heap.size w w' := by
 haveI : Sz131 T := ⟨hT.size⟩
 have HT : Hid (∀ w', Below w.heap.size w w' → ag w' T t) := Lib.hid fun w' hb => hT.below hb (Nat.le_refl _)
 obtain ⟨ra, rcap, t114, hrow, hl64⟩ := hT.rails
 have t119 := hT.rev'
 have HP : Hid (∀ p, p < 8 → IsPh T (p * 13) (t.ph p)) := Lib.hid fun p hp => hT.isPh p hp
 by_cases hz : t.ra.length = 0
 ·rw [show iV t = 0 by simp [iV, hz]]
  rw [hz] at t114
  clear hrow hT
  go_enter Tryz.func99, Tryz.ntmps99
  go_wp2
  go_ret
  exact ⟨rfl, by exact yd⟩
 have hz' : ((t.ra.length : Int) == 0) = false := beq_eq_false_iff_ne.2 (by omega)
 obtain ⟨rb, roff, rfl, hbl, hc⟩ := hrow.resolve_left (by omega)
 haveI : LeSize (rb + 1) w := ⟨hbl⟩
 have HR8 : Hid (∀ k r, t.ra[k]? = some r → w.cell? ⟨rb, roff + k * 11 + 8, none⟩ = some (.int .i64 r.stay)) := Lib.hid fun k r h => by
  have := hc k (List.getElem?_eq_some_iff.1 h).1 8 (by omega)
  simpa [aF, h, dq] using this
 obtain ⟨R, hR⟩ : ∃ R, iV t = R := ⟨_, rfl⟩
 have HR := Lib.hid (show ch [cd (vt t t.ra), cd (xH t (ci (eB t))), cE t, t.rev, 30] = R by rw [← hR]; simp [iV, hz])
 rw [hR]
 have hlen : (ci (eB t)).length ≤ 8 := yS (eB t) 8
 have HM : Hid (∀ (i : Nat) (x : Int), (ci (eB t))[i]? = some x → ∃ p : Nat, x = p ∧ p < 8) := Lib.hid fun i x h => z8 h
 clear hR hrow hc hz hT
 go_enter Tryz.func99, Tryz.ntmps99
 go_wp2
 go_loopw [3, 5] (fun l i wr => ∃ k : Nat, k ≤ t.ra.length ∧ i = .int .i64 k ∧ ae wr (w.heap.size + 1) l (vt t (t.ra.take k)) ∧ Below (w.heap.size + 1) (w.alloc (.cells T 34)) wr) (fun _ i _ => t.ra.length - (intOf i).toNat)
 case atStart => exact ⟨0, Nat.zero_le _, rfl, ae.nil _ _, Below.refl _ _⟩
 case round =>
  obtain ⟨k, hk, rfl, hown, hb⟩ := hrel
  obtain ⟨ur, rfl⟩ : ∃ ur : Up (w.alloc (.cells T 34)), wr = ur.w := ⟨⟨wr, hb.mono (by simp)⟩, rfl⟩
  have hpl := acC t (t.ra.take k)
  have hfl : (vt t (t.ra.take k)).length ≤ 1000000 := by simp at hpl; omega
  by_cases hlt : k < t.ra.length
  ·obtain ⟨r, hr⟩ : ∃ r, t.ra[k]? = some r := ⟨_, List.getElem?_eq_getElem hlt⟩
   have hct := adH t t.ra k r hr
   have hc8 := HR8.out k r hr
   obtain ⟨er, her⟩ : ∃ er, dL t r = er := ⟨_, rfl⟩
   have HE : Hid (∀ w', Below w.heap.size w w' → Calls Tryz.prog 159 #[.agg T, .int .i64 k] w' fun e w'' => e = .returned (.int .i64 er) ∧ Below w'.heap.size w' w'') := Lib.hid fun w' h => by rw [← her]; exact acr T t k r w' (HT.out _ h) hr
   rw [her] at hct
   generalize r.stay = sy at *
   have HCT := Lib.hid hct
   have hltI : (k : Int) < t.ra.length := by omega
   clear hct her hr
   obtain ⟨la, ll, lc, rfl⟩ := hown.slice
   go_wp2
   (refine wp_region_noPanic ?_; refine cX [] [0, 1, 2, 3, 4, 5, 6, 7, 8, 9, 10, 11, 12] [13, 14] [10, 12] [(11, 10)] oJ (by kernel_rfl) (by kernel_rfl) (fun _ _ _ _ _ h => (h : False).elim) dY ?_; simp only [bD, List.filterMap_cons, List.filterMap_nil, List.getElem?_cons_succ, List.getElem?_cons_zero]; refine eS ?_)
   (repeat (first | (refine cL rfl rfl ?_; simp only [Act.put, List.setIfInBounds_toArray, List.set_cons_succ, List.set_cons_zero]) | (refine cM rfl rfl ?_; intro Z hZs hZi hZn K hK; (first | (refine oK rfl rfl ?_; simp only [Act.put, List.setIfInBounds_toArray, List.set_cons_succ, List.set_cons_zero]; go_big_quiet_on) | (go_big_quiet_op; (first | go_big_quiet_on | go_big_quiet_call ((first | (go_at_call 159; exact eZ.calls hZs (HE.out _ (by exact yd))) | fail))))); clear hZs hZi hZn Z)))
   (refine eV 2 (.cells #[.int .i64 er, .int .i64 sy] 3) rfl rfl (fun w => (by simp [go_sem] <;> rfl)) ?_; intro q10 p10 hq10 hp10; simp only [Act.put, List.setIfInBounds_toArray, List.set_cons_succ, List.set_cons_zero])
   (repeat (first | (refine cL rfl rfl ?_; simp only [Act.put, List.setIfInBounds_toArray, List.set_cons_succ, List.set_cons_zero]) | (refine cM rfl rfl ?_; intro Z hZs hZi hZn K hK; (first | (go_big_quiet_op; (first | go_big_quiet_on | go_big_quiet_call ((first | (go_at_call 97; exact eZ.pure (yC _ _ [er, sy] _ (by simp) (eG [er, sy] (hp10 _ (my (h := 10) (hZi _ (eZ.z _)) rfl rfl))))) | fail))))); clear hZs hZi hZn Z)))
   (refine eV 1 (.cells #[.int .i64 (ch [er, sy])] 3) rfl rfl (fun w => (by simp [go_sem] <;> rfl)) ?_; intro q12 p12 hq12 hp12; simp only [Act.put, List.setIfInBounds_toArray, List.set_cons_succ, List.set_cons_zero])
   (refine gX ?_; intro u hinv; have hO12 := (hp12 _ (hinv 12 _ rfl)).out; have lO12 := yR hO12; clear hinv; clear hp12 p12; go_simp)
   have o3 := hown.up u
   have hbu : Below (w.heap.size + 1) (w.alloc (.cells T 34)) u.w := hb.trans (u.bel.mono (by have := hb.size; simpa using this))
   have hbs : w.heap.size + 1 ≤ u.w.heap.size := by have := hbu.size; simpa using this
   refine ju rfl _ _ rfl (w.heap.size + 1) rfl o3 (b := q12) (y := ch [er, sy]) rfl (aV hO12 0 rfl) hfl hbs ?_
   intro v' w1 hown' hg
   have hb1 := o3.grown0 hbu hbs (Nat.le_refl _) hg
   clear o3 hg hown
   go_wp2
   refine NoPanic.normal ?_
   go_wp2
   go_roundw
   case rel => exact ⟨k + 1, by omega, by go_num, by rw [HCT.out]; exact hown', hb1⟩
   case measure => simp [intOf]; omega
  ·obtain rfl : k = t.ra.length := by omega
   rw [List.take_length] at hown
   have hovl := acC t t.ra
   generalize vt t t.ra = ov at *
   have HOVL := Lib.hid hovl
   clear hovl hpl
   obtain ⟨oa, ocap, rfl, hoi⟩ := hown.opened
   clear hown
   go_wp2_with (first | (refine aJ rfl rfl rfl ?_; go_simp) | (go_at_call 155; refine (Up.run (zm _ _ _ (HT.out _ (by exact yd)))).mono ?_; rintro e w' ⟨rfl, uo, rfl⟩) | (go_at_call 111; refine (ab5 _ _).mono ?_; rintro e w' ⟨la, lcap, ul, rfl, rfl, hli⟩))
   generalize ci (eB t) = xs at *
   have HL := Lib.hid hli
   clear hli
   go_loopw [4, 37] (fun l i wr => ∃ k : Nat, k ≤ xs.length ∧ i = .int .i64 k ∧ ae wr ul.w.heap.size l (xH t (xs.take k)) ∧ Below ul.w.heap.size ul.w wr) (fun _ i _ => xs.length - (intOf i).toNat)
   case atStart => exact ⟨0, Nat.zero_le _, rfl, ae.nil _ _, Below.refl _ _⟩
   case round =>
    obtain ⟨k, hk, rfl, hown, hb2⟩ := hrel
    obtain ⟨u2, rfl⟩ : ∃ u2 : Up ul.w, wr = u2.w := ⟨⟨wr, hb2⟩, rfl⟩
    have hpl := abG t (xs.take k)
    have hfl2 : (xH t (xs.take k)).length ≤ 1000000 := by simp at hpl; omega
    by_cases hlt : k < xs.length
    ·have hx : xs[k]? = some xs[k] := List.getElem?_eq_getElem hlt
     obtain ⟨p, hp, hp8⟩ := HM.out k _ hx
     rw [hp] at hx
     obtain ⟨b, off, rfl, hbl2, hc⟩ := (bk.up u2 HL.out).cell (by omega)
     have hck := hc k hlt
     rw [show xs.getD k 0 = (p : Int) by rw [List.getD_eq_getElem?_getD, hx]; rfl] at hck
     have hct := adD t xs k p hx
     have hph := HP.out p hp8
     generalize t.ph p = x at *
     have p1 := hph.out 1 (by omega)
     have p8 := hph.out 8 (by omega)
     have p9 := hph.out 9 (by omega)
     simp only [cy, List.getD_cons_succ, List.getD_cons_zero] at p1 p8 p9
     have HCT := Lib.hid hct
     have hpI : (p : Int) < 8 := by omega
     clear hc hx hct hp hph
     obtain ⟨la2, ll2, lc2, rfl⟩ := hown.slice
     go_wp2
     (refine wp_region_noPanic ?_; refine cX [] [0, 1, 2, 3, 4, 5, 6, 7, 8, 9, 10, 11, 12, 13, 14, 15, 16, 17, 18, 19] [20, 21] [17, 19] [(18, 17)] oJ (by kernel_rfl) (by kernel_rfl) (fun _ _ _ _ _ h => (h : False).elim) dY ?_; simp only [bD, List.filterMap_cons, List.filterMap_nil, List.getElem?_cons_succ, List.getElem?_cons_zero]; refine eS ?_)
     (repeat (first | (refine cL rfl rfl ?_; simp only [Act.put, List.setIfInBounds_toArray, List.set_cons_succ, List.set_cons_zero]) | (refine cM rfl rfl ?_; intro Z hZs hZi hZn K hK; (first | (go_big_quiet_op; (first | go_big_quiet_on | go_big_quiet_call ((first | (go_at_call 158; exact eZ.pure (zj _ _)) | fail))))); clear hZs hZi hZn Z)))
     (refine eV 2 (.cells #[.int .i64 x.walk, .int .i64 x.blinks] 3) rfl rfl (fun w => (by simp [go_sem] <;> rfl)) ?_; intro q17 p17 hq17 hp17; simp only [Act.put, List.setIfInBounds_toArray, List.set_cons_succ, List.set_cons_zero])
     (repeat (first | (refine cL rfl rfl ?_; simp only [Act.put, List.setIfInBounds_toArray, List.set_cons_succ, List.set_cons_zero]) | (refine cM rfl rfl ?_; intro Z hZs hZi hZn K hK; (first | (go_big_quiet_op; (first | go_big_quiet_on | go_big_quiet_call ((first | (go_at_call 97; exact eZ.pure (yC _ _ [x.walk, x.blinks] _ (by simp) (eG [x.walk, x.blinks] (hp17 _ (my (h := 17) (hZi _ (eZ.z _)) rfl rfl))))) | fail))))); clear hZs hZi hZn Z)))
     (refine eV 2 (.cells #[.int .i64 (aU x.min), .int .i64 (ch [x.walk, x.blinks])] 3) rfl rfl (fun w => (by simp [go_sem] <;> rfl)) ?_; intro q19 p19 hq19 hp19; simp only [Act.put, List.setIfInBounds_toArray, List.set_cons_succ, List.set_cons_zero])
     (refine gX ?_; intro u hinv; have hO19 := (hp19 _ (hinv 19 _ rfl)).out; have lO19 := yR hO19; clear hinv; clear hp19 p19; go_simp)
     have o3 := hown.up u
     have hbu : Below ul.w.heap.size ul.w u.w := hb2.trans (u.bel.mono hb2.size)
     refine aaA rfl _ _ rfl ul.w.heap.size rfl o3 (b := q19) (y := aU x.min) (z := ch [x.walk, x.blinks]) rfl (aV hO19 0 rfl) (aV hO19 1 rfl) hfl2 hbu.size ?_
     intro v' w1 hown' hg
     have hb1 := o3.grown0 hbu hbu.size (Nat.le_refl _) hg
     clear o3 hg hown
     go_wp2
     refine NoPanic.normal ?_
     go_wp2
     go_roundw
     case rel => exact ⟨k + 1, by omega, by go_num, by rw [HCT.out]; exact hown', hb1⟩
     case measure => simp [intOf]; omega
    ·obtain rfl : k = xs.length := by omega
     rw [List.take_length] at hown
     have hml := abG t xs
     generalize xH t xs = mn at *
     have HML := Lib.hid hml
     clear hml hpl
     obtain ⟨ma, mcap, rfl, hmi⟩ := hown.opened
     clear hown
     obtain ⟨cl, hcl⟩ : ∃ cl, cE t = cl := ⟨_, rfl⟩
     have HC : Hid (∀ w', Below w.heap.size w w' → Calls Tryz.prog 161 #[.agg T] w' fun e w'' => e = .returned (.int .i64 cl) ∧ Below w'.heap.size w' w'') := Lib.hid fun w' h => by rw [← hcl]; exact aas T t w' (HT.out _ h)
     rw [hcl] at HR
     generalize t.rev = rv at *
     have hi1 : bQ u2.w oa ov := bk.up u2 (bk.up ul (bk.up uo hoi))
     have HM1 : Hid (∀ w', Below u2.w.heap.size u2.w w' → Calls Tryz.prog 160 #[.slice oa ov.length ocap] w' fun e w'' => e = .returned (.int .i64 (cd ov)) ∧ w' = w'') := Lib.hid fun w' h => zn _ _ _ _ (by have := HOVL.out; omega) (bk.below hi1 h (Nat.le_refl _))
     have HM2 : Hid (∀ w', Below u2.w.heap.size u2.w w' → Calls Tryz.prog 160 #[.slice ma mn.length mcap] w' fun e w'' => e = .returned (.int .i64 (cd mn)) ∧ w' = w'') := Lib.hid fun w' h => zn _ _ _ _ (by have := HML.out; omega) (bk.below hmi h (Nat.le_refl _))
     generalize cd ov = m1 at *
     generalize cd mn = m2 at *
     generalize ov.length = ol at *
     generalize mn.length = ml at *
     clear hi1 hmi hoi hb hb2
     go_wp2
     (refine wp_region_noPanic ?_; refine cX [] [0, 1, 2, 3, 4, 5, 6, 7, 8, 9] [10] [8] [(9, 8)] oJ (by kernel_rfl) (by kernel_rfl) (fun _ _ _ _ _ h => (h : False).elim) dY ?_; simp only [bD, List.filterMap_cons, List.filterMap_nil, List.getElem?_cons_succ, List.getElem?_cons_zero]; refine eS ?_)
     (repeat (first | (refine cL rfl rfl ?_; simp only [Act.put, List.setIfInBounds_toArray, List.set_cons_succ, List.set_cons_zero]) | (refine cM rfl rfl ?_; intro Z hZs hZi hZn K hK; (first | (refine oK rfl rfl ?_; simp only [Act.put, List.setIfInBounds_toArray, List.set_cons_succ, List.set_cons_zero]; go_big_quiet_on) | (go_big_quiet_op; (first | go_big_quiet_on | go_big_quiet_call ((first | (go_at_call 160; first | with_reducible exact eZ.pure (HM1.out _ (eZ.up _).bel) | with_reducible exact eZ.pure (HM2.out _ (eZ.up _).bel)) | (go_at_call 161; exact eZ.calls hZs (HC.out _ (by exact yd))) | fail))))); clear hZs hZi hZn Z)))
     (refine eV 5 (.cells #[.int .i64 m1, .int .i64 m2, .int .i64 cl, .int .i64 rv, .int .i64 30] 3) rfl rfl (fun w => (by simp [go_sem] <;> rfl)) ?_; intro q8 p8 hq8 hp8; simp only [Act.put, List.setIfInBounds_toArray, List.set_cons_succ, List.set_cons_zero])
     (repeat (first | (refine cL rfl rfl ?_; simp only [Act.put, List.setIfInBounds_toArray, List.set_cons_succ, List.set_cons_zero]) | (refine cM rfl rfl ?_; intro Z hZs hZi hZn K hK; (first | (go_big_quiet_op; (first | go_big_quiet_on | go_big_quiet_call ((first | (go_at_call 97; exact eZ.pure (yC _ _ [m1, m2, cl, rv, 30] _ (by simp) (eG [m1, m2, cl, rv, 30] (hp8 _ (my (h := 8) (hZi _ (eZ.z _)) rfl rfl))))) | fail))))); clear hZs hZi hZn Z)))
     (refine gX ?_; intro u hinv; clear hinv; go_simp)
     go_wp2
     refine NoPanic.normal ?_
     go_wp2
     go_ret
     exact ⟨bU HR.out, by exact yd⟩
end
section
open Go.RowKit
attribute [local go_sem] IsBlk.cell IsBlk.frozen
def cm (t : Tab) (p : Int) : Int := if dg t p = 0 ∨ t.ra.length = 0 then dg t p else ch [dG (ch [t.share, 1]) (ch [iV t, dg t p, 2]), t.share]
theorem uH (a b : Int) : 0 ≤ aP a b ∧ aP a b ≤ 2147483647 := cg _
theorem pk (l : List Int) : 0 ≤ ch l ∧ ch l ≤ 2147483647 := by
 rcases List.eq_nil_or_concat l with rfl | ⟨l', x, rfl⟩
 ·decide
 ·rw [List.concat_eq_append, lp]; exact uH _ _
theorem rk (t : Tab) (p : Int) : 0 ≤ dg t p ∧ dg t p ≤ 2147483647 := by
 unfold dg
 split
 ·decide
 ·split
  ·exact pk _
  ·decide
theorem tR (t : Tab) (p : Int) : 0 ≤ cm t p ∧ cm t p ≤ 2147483647 := by
 unfold cm
 split
 ·exact rk t p
 ·exact pk _
theorem ac5 (T : Array Value) (t : Tab) (p : Int) (w : World) (hT : ag w T t) :
  Calls Tryz.prog 26 #[.agg T, .int .i64 p] w fun e w' => e = .returned (.int .i64 (cm t p)) ∧ Below w.heap.size w w' := by
 haveI : Sz131 T := ⟨hT.size⟩
 have HT : Hid (∀ w', Below w.heap.size w w' → ag w' T t) := Lib.hid fun w' hb => hT.below hb (Nat.le_refl _)
 obtain ⟨ra, rcap, t114, _, hl64⟩ := hT.rails
 have t130 : T[130]? = some (.int .i64 t.share) := by obtain ⟨g, d, r, b, rfl, _⟩ := hT; rw [ab _ _ _ (by omega)]; rfl
 clear hT
 obtain ⟨R, hR⟩ : ∃ R, cm t p = R := ⟨_, rfl⟩
 have hw : cm t p = if dg t p = 0 ∨ t.ra.length = 0 then dg t p else ch [dG (ch [t.share, 1]) (ch [iV t, dg t p, 2]), t.share] := rfl
 obtain ⟨f, hf⟩ : ∃ f, dg t p = f := ⟨_, rfl⟩
 have HF : Hid (∀ w', Below w.heap.size w w' → Calls Tryz.prog 96 #[.agg T, .int .i64 p] w' fun e w'' => e = .returned (.int .i64 f) ∧ Below w'.heap.size w' w'') := Lib.hid fun w' h => by rw [← hf]; exact ac1 T t p w' (HT.out _ h)
 obtain ⟨ov, hov⟩ : ∃ ov, iV t = ov := ⟨_, rfl⟩
 have HO : Hid (∀ w', Below w.heap.size w w' → Calls Tryz.prog 99 #[.agg T] w' fun e w'' => e = .returned (.int .i64 ov) ∧ Below w'.heap.size w' w'') := Lib.hid fun w' h => by rw [← hov]; exact ac2 T t w' (HT.out _ h)
 rw [hR, hf, hov] at hw
 rw [hR]
 clear hR hf hov
 generalize t.share = sh at *
 by_cases hz : t.ra.length = 0
 ·rw [if_pos (.inr hz)] at hw
  subst hw
  rw [hz] at t114
  clear hz
  cases h1 : (R == 0)
  all_goals
   go_enter Tryz.func26, Tryz.ntmps26
   go_wp2_with (first | (refine aJ rfl rfl rfl ?_; go_simp) | (go_at_call 96; refine (Up.run (HF.out _ (by exact yd))).mono ?_; rintro e w' ⟨rfl, uf, rfl⟩))
   go_ret
   exact ⟨rfl, by exact yd⟩
 have hz' : ((t.ra.length : Int) == 0) = false := beq_eq_false_iff_ne.2 (by omega)
 by_cases hf0 : f = 0
 ·rw [if_pos (.inl hf0)] at hw
  subst hw
  have h1 : (R == 0) = true := by simp [hf0]
  have hR0 := Lib.hid hf0
  clear hz hf0
  go_enter Tryz.func26, Tryz.ntmps26
  go_wp2_with (first | (refine aJ rfl rfl rfl ?_; go_simp) | (go_at_call 96; refine (Up.run (HF.out _ (by exact yd))).mono ?_; rintro e w' ⟨rfl, uf, rfl⟩))
  go_ret
  exact ⟨rfl, by exact yd⟩
 ·rw [if_neg (by simp [hz, hf0])] at hw
  have HR := Lib.hid hw.symm
  have h1 : (f == 0) = false := beq_eq_false_iff_ne.2 hf0
  clear hz hf0 hw
  go_enter Tryz.func26, Tryz.ntmps26
  go_wp2_with (first | (refine aJ rfl rfl rfl ?_; go_simp) | (go_at_call 96; refine (Up.run (HF.out _ (by exact yd))).mono ?_; rintro e w' ⟨rfl, uf, rfl⟩))
  (refine wp_region_noPanic ?_; refine cX [] [0, 1, 2, 3, 4, 5, 6, 7, 8, 9, 10, 11, 12, 13] [14] [2, 7, 12] [(3, 2), (8, 7), (13, 12)] oJ (by kernel_rfl) (by kernel_rfl) (fun _ _ _ _ _ h => (h : False).elim) dY ?_; simp only [bD, List.filterMap_cons, List.filterMap_nil, List.getElem?_cons_succ, List.getElem?_cons_zero]; refine eS ?_)
  (repeat (first | (refine cL rfl rfl ?_; simp only [Act.put, List.setIfInBounds_toArray, List.set_cons_succ, List.set_cons_zero]) | (refine cM rfl rfl ?_; intro Z hZs hZi hZn K hK; (first | (go_big_quiet_op; (first | go_big_quiet_on | go_big_quiet_call ((first | fail))))); clear hZs hZi hZn Z)))
  (refine eV 2 (.cells #[.int .i64 sh, .int .i64 1] 3) rfl rfl (fun w => (by simp [go_sem] <;> rfl)) ?_; intro q2 p2 hq2 hp2; simp only [Act.put, List.setIfInBounds_toArray, List.set_cons_succ, List.set_cons_zero])
  (repeat (first | (refine cL rfl rfl ?_; simp only [Act.put, List.setIfInBounds_toArray, List.set_cons_succ, List.set_cons_zero]) | (refine cM rfl rfl ?_; intro Z hZs hZi hZn K hK; (first | (refine oK rfl rfl ?_; simp only [Act.put, List.setIfInBounds_toArray, List.set_cons_succ, List.set_cons_zero]; go_big_quiet_on) | (go_big_quiet_op; (first | go_big_quiet_on | go_big_quiet_call ((first | (go_at_call 97; exact eZ.pure (yC _ _ [sh, 1] _ (by simp) (eG [sh, 1] (hp2 _ (my (h := 2) (hZi _ (eZ.z _)) rfl rfl))))) | (go_at_call 99; exact eZ.calls hZs (HO.out _ (by exact yd))) | fail))))); clear hZs hZi hZn Z)))
  (refine eV 3 (.cells #[.int .i64 ov, .int .i64 f, .int .i64 2] 3) rfl rfl (fun w => (by simp [go_sem] <;> rfl)) ?_; intro q7 p7 hq7 hp7; simp only [Act.put, List.setIfInBounds_toArray, List.set_cons_succ, List.set_cons_zero])
  (repeat (first | (refine cL rfl rfl ?_; simp only [Act.put, List.setIfInBounds_toArray, List.set_cons_succ, List.set_cons_zero]) | (refine cM rfl rfl ?_; intro Z hZs hZi hZn K hK; (first | (go_big_quiet_op; (first | go_big_quiet_on | go_big_quiet_call ((first | (go_at_call 97; exact eZ.pure (yC _ _ [ov, f, 2] _ (by simp) (eG [ov, f, 2] (hp7 _ (my (h := 7) (hZi _ (eZ.z _)) rfl rfl))))) | (go_at_call 98; exact eZ.pure (adZ _ _ _)) | fail))))); clear hZs hZi hZn Z)))
  (refine eV 2 (.cells #[.int .i64 (dG (ch [sh, 1]) (ch [ov, f, 2])), .int .i64 sh] 3) rfl rfl (fun w => (by simp [go_sem] <;> rfl)) ?_; intro q12 p12 hq12 hp12; simp only [Act.put, List.setIfInBounds_toArray, List.set_cons_succ, List.set_cons_zero])
  (repeat (first | (refine cL rfl rfl ?_; simp only [Act.put, List.setIfInBounds_toArray, List.set_cons_succ, List.set_cons_zero]) | (refine cM rfl rfl ?_; intro Z hZs hZi hZn K hK; (first | (go_big_quiet_op; (first | go_big_quiet_on | go_big_quiet_call ((first | (go_at_call 97; exact eZ.pure (yC _ _ [dG (ch [sh, 1]) (ch [ov, f, 2]), sh] _ (by simp) (eG [dG (ch [sh, 1]) (ch [ov, f, 2]), sh] (hp12 _ (my (h := 12) (hZi _ (eZ.z _)) rfl rfl))))) | fail))))); clear hZs hZi hZn Z)))
  (refine gX ?_; intro u hinv; clear hinv; go_simp)
  go_wp2
  refine NoPanic.normal ?_
  go_wp2
  go_ret
  exact ⟨bU HR.out, by exact yd⟩
end
section
open Go.RowKit
def xR (x y : Nat) : Bool := FloatKind.f64.format.order x y == some .lt
def vL (x y : Nat) : Bool := FloatKind.f64.format.order x y == some .gt
def xA (x y : Nat) : Bool := FloatKind.f64.format.order x y == some .eq
def xJ (x y : Nat) : Bool := xR x y || xA x y
def xL (x y : Nat) : Bool := vL x y || xA x y
theorem ru (x y : Nat) : (FloatKind.f64.format.order x y == some .lt) = xR x y := rfl
theorem tQ (x y : Nat) : (FloatKind.f64.format.order x y == some .gt) = vL x y := rfl
theorem sK (x y : Nat) : (FloatKind.f64.format.order x y == some .eq) = xA x y := rfl
theorem rl (x y : Nat) : (xR x y || xA x y) = xJ x y := rfl
theorem rN (x y : Nat) : (vL x y || xA x y) = xL x y := rfl
attribute [go_sem] ru tQ sK rl rN
end
section
open Go.RowKit
def bH (m : Int) (l : List Int) : Bool := l.all fun n => decide (0 ≤ n) && decide (n ≤ m)
def gq (p : Phs) : Bool := bH 9999 [p.min, p.gap, p.max, p.top, p.step, p.yel, p.red, p.walk, p.blinks] && bH 3 [p.recl]
def dB (l : List Int) : Bool := decide (l.length ≤ 8) && l.all fun p => bH 7 [p]
def gC (g : List Int × List Int) : Bool := dB g.1 && dB g.2
def ec (x : Nat) : Bool := vL x 0 && xJ x 4696837146684686336
def pg (x : Nat) : Bool := xL x 0 && xJ x 4652006429231887155
def rJ (x : Nat) : Bool := decide (wrap64 (x : Int) < 0)
def dE (x : Nat) : Bool := pg x && !rJ x
def eU (d : Det) : Bool := bH 7 [d.ph] && (ec d.on && (ec d.off && (dE d.dl && (dE d.ex && bH 9999 [d.mon, d.mof]))))
def iL (r : Rl) : Bool := bH 255 [r.bars, r.clr, r.dwl, r.ext] && (bH 9999 [r.dly, r.grn, r.foot, r.hold, r.stay, r.most] && bH 2147483647 [r.lim])
def fK (b : Bus) : Bool := bH 255 [b.set] && bH 9999 [b.lock]
def dS (t : Tab) : Bool :=
 ((List.range 8).all fun p => gq (t.ph p)) && (decide (t.gr.length ≤ 4) && t.gr.all gC) && bH 255 ((List.range 8).map t.cf) && (decide (t.de.length ≤ 16) && t.de.all eU) &&
  (decide (t.ra.length ≤ 4) && t.ra.all iL) && (decide (t.bu.length ≤ 4) && t.bu.all fK) && bH 9999 [t.ext, t.bud, t.start, t.rev, t.least] && bH 2 ((List.range 8).map t.fl) && bH 2147483647 [t.win, t.share]
def bL (code : Int) (n : Nat) (wrong : Nat → Bool) : Int × Int := match (List.range n).find? wrong with | some i => (code, i) | none => (0, 0)
def gW (p : Phs) : Bool := decide (p.min < 1) || decide (p.yel < 10) || decide (p.max < p.min) || decide (p.top < p.max) || (decide (p.step < 1) && decide (p.max < p.top)) || ((p.walk == 0) != (p.blinks == 0)) || (p.recl == 3 && p.walk == 0)
def pq (on : Int) : Int → List Int → Option Int
 | seen, [] => some seen
 | seen, p :: l => if (!aT on p || aT seen p) = true then none else pq on (iI seen p) l
def dd (on : Int) : Int → Nat → List (List Int × List Int) → Int × Int
 | seen, _, [] => if seen = on then (0, 0) else (8, 0)
 | seen, g, r :: l => if r.1.length + r.2.length = 0 then (8, (g : Int)) else match pq on seen (r.1 ++ r.2) with | none => (8, (g : Int)) | some s => dd on s (g + 1) l
def ka (t : Tab) (on : Int) : Int × Int := if t.gr.length = 0 then (8, 0) else dd on 0 0 t.gr
def lK (t : Tab) (p q : Int) : Bool := aT (t.cf p.toNat) q || aT (t.cf q.toNat) p
def eh (t : Tab) (s : Int) : Bool := (ci s).any fun p => (ci s).any fun q => p != q && lK t p q
def mo (t : Tab) (s : Int) : Bool := (ci s).any fun p => (ci s).any fun q => p != q && !gk t.gr p q
def jW (t : Tab) (on : Int) (p : Nat) : Bool := aT (t.cf p) p || (ci on).any fun q => (aT (t.cf p) q != aT (t.cf q.toNat) p) || (aT (t.cf p) q && gk t.gr p q)
def pB (t : Tab) (on : Int) (r : Rl) : Bool :=
 (bits .andNot .i64 (bits .or .i64 (bits .or .i64 (bits .or .i64 r.bars r.clr) r.dwl) r.ext) on != 0) || (r.dwl == 0) || (r.ext == 0) || (bits .and .i64 r.dwl r.bars != 0) || eh t r.clr || eh t r.dwl || eh t r.ext || mo t r.ext ||
  (decide (0 < r.hold) != (r.clr != 0)) || decide (r.grn < 1) || decide (r.stay < 1) || (decide (0 < r.most) && decide (r.most < r.stay)) || decide (r.lim ≤ r.dly)
def po (on : Int) (d : Det) : Bool := vL d.off d.on || !aT on d.ph
def nf (on : Int) (b : Bus) : Bool := (b.set == 0) || (bits .andNot .i64 b.set on != 0) || decide (b.lock < 1)
def jq (t : Tab) (on : Int) (p : Nat) : Bool := (t.fl p == 0) || (ci (bits .and .i64 (t.cf p) on)).any fun q => q != (p : Int) && (t.fl p == 2) && (t.fl q.toNat == 2)
def oR : Det := ⟨0, 0, 0, 0, 0, 0, 0⟩
def uI : Rl := ⟨0, 0, 0, 0, 0, 0, 0, 0, 0, 0, 0⟩
def uQ : Bus := ⟨0, 0⟩
def bi (t : Tab) (on : Int) : Nat → Int × Int
 | 0 => bL 7 8 fun p => aT on p && gW (t.ph p)
 | 1 => ka t on
 | 2 => bL 9 8 fun p => aT on p && jW t on p
 | 3 => bL 10 t.de.length fun d => po on (t.de.getD d oR)
 | 4 => bL 11 t.ra.length fun k => pB t on (t.ra.getD k uI)
 | 5 => bL 12 t.bu.length fun k => nf on (t.bu.getD k uQ)
 | _ => bL 13 8 fun p => aT on p && jq t on p
def bX (t : Tab) (on : Int) : Nat → Int × Int
 | 0 => (0, 0)
 | n + 1 => if bX t on n = (0, 0) then bi t on n else bX t on n
def aL (t : Tab) : Int × Int := if dS t = true then bX t (eB t) 7 else (4, 0)
def bq (n : Int) : Bool := decide (2147483647 ≤ n)
def eN (t : Tab) (k : Nat) : Int := match t.ra[k]? with | some r => dL t r | none => 0
def dR (t : Tab) : Int × Int :=
 if (aL t).1 ≠ 0 then aL t
 else match (ci (eB t)).find? fun p => bq (cm t p) with
 | some p => (14, p)
 | none => match (List.range t.ra.length).find? fun k => bq (eN t k) with
  | some k => (14, (k : Int))
  | none => if 0 < t.ra.length ∧ t.win < cd ((ci (eB t)).map (cm t)) then (15, 0) else (0, 0)
def pl (t : Tab) (i : Nat) : Int := if i < 8 then (if aT (eB t) i then cm t i else 0) else eN t (i - 8)
def df (t : Tab) (i : Nat) : Int := if (dR t).1 = 0 then pl t i else 0
end
section
open Go.RowKit
theorem j3 (a : Int) (w : World) :
  Calls Tryz.prog 152 #[.int .i64 a] w fun e w' => e = .returned (.int .i64 (aU a)) ∧ w = w' := by
 go_enter Tryz.func152, Tryz.ntmps152
 go_wp2
 all_goals
  go_ret
  exact ⟨bU (by unfold aU; omega), rfl⟩
theorem dx (a b : Int) (w : World) :
  Calls Tryz.prog 92 #[.int .i64 a, .int .i64 b] w fun e w' => e = .returned (.int .i64 (aP a b)) ∧ w = w' := by
 have ha := cg a
 have hb := cg b
 go_enter Tryz.func92, Tryz.ntmps92
 go_wp2_with (go_at_call 152; refine (j3 _ _).mono ?_; rintro e w' ⟨rfl, rfl⟩)
 go_ret
 exact ⟨rfl, rfl⟩
theorem mI (a b : Int) (w : World) :
  Calls Tryz.prog 93 #[.int .i64 a, .int .i64 b] w fun e w' => e = .returned (.int .i64 (dG a b)) ∧ w = w' := by
 have hm := vh (cg a) (cg b)
 go_enter Tryz.func93, Tryz.ntmps93
 go_wp2_with (go_at_call 152; refine (j3 _ _).mono ?_; rintro e w' ⟨rfl, rfl⟩)
 go_ret
 exact ⟨rfl, rfl⟩
theorem kF (a : Int) (w : World) :
  Calls Tryz.prog 57 #[.int .i64 a] w fun e w' => e = .returned (.bool (decide (2147483647 ≤ a))) ∧ w = w' := by
 go_enter Tryz.func57, Tryz.ntmps57
 by_cases h : 2147483647 ≤ a
 ·go_wp2
  go_ret
  exact ⟨by simp [h], rfl⟩
 ·go_wp2
  go_ret
  exact ⟨by simp [h], rfl⟩
theorem gT (a : Option Addr) (cap : Nat) (zs : List Int) (w : World) (hm : zs.length ≤ 9223372036854775807) (hi : bQ w a zs) :
  Calls Tryz.prog 94 #[.slice a zs.length cap] w fun e w' => e = .returned (.int .i64 (ch zs)) ∧ w = w' := by
 have HI := Lib.hid hi
 clear hi
 go_enter Tryz.func94, Tryz.ntmps94
 go_wp2
 go_loop [3, 8] (fun n i => ∃ k : Nat, k ≤ zs.length ∧ i = .int .i64 k ∧ n = .int .i64 (ch (zs.take k))) (fun _ i => zs.length - (intOf i).toNat)
 case atStart => exact ⟨0, Nat.zero_le _, rfl, rfl⟩
 case round =>
  obtain ⟨k, hk, rfl, rfl⟩ := hrel
  by_cases hlt : k < zs.length
  ·obtain ⟨b, off, rfl, _, hc⟩ := HI.out.cell (by omega)
   have hcell := hc k hlt
   clear hc
   have hs : Hid (ch (zs.take (k + 1)) = aP (ch (zs.take k)) (zs.getD k 0)) := by
    rw [← lp, List.take_succ_eq_append_getElem (by omega)]
    simp [List.getD, show k < zs.length by omega, Hid]
   go_wp2_with (go_at_call 92; refine (dx _ _ _).mono ?_; rintro e w' ⟨rfl, rfl⟩)
   go_round
   case rel => exact ⟨k + 1, by omega, by go_num, by rw [hs.out]; simp [hlt]⟩
   case measure => simp [intOf]; omega
  ·obtain rfl : k = zs.length := by omega
   go_wp2
   go_ret
   exact ⟨bU (by first | rfl | rw [List.take_length]), rfl⟩
end
section
open Go.RowKit
attribute [local go_sem] IsBlk.cell IsBlk.frozen
def ib (l : List Spot) (p : Int) : Option Spot := l.find? fun s => s.p == p
theorem gI (l m : List Spot) (p : Int) : ib (l ++ m) p = (ib l p).or (ib m p) := by unfold ib; exact List.find?_append
theorem uG (r : List Int) (g k : Nat) {j m : Nat} (h : j ≤ m) : ∃ rest, za r g k m = za r g k j ++ rest := by
 obtain ⟨d, rfl⟩ := Nat.le.dest h
 clear h
 induction d with
 | zero => exact ⟨[], by simp⟩
 | succ d ih => obtain ⟨t, ht⟩ := ih; rw [← Nat.add_assoc, fP, ht, List.append_assoc]; exact ⟨_, rfl⟩
theorem uW (gr : List (List Int × List Int)) (g : Nat) {j m : Nat} (h : j ≤ m) : ∃ rest, gB gr g m = gB gr g j ++ rest := by
 obtain ⟨d, rfl⟩ := Nat.le.dest h
 clear h
 induction d with
 | zero => exact ⟨[], by simp⟩
 | succ d ih => obtain ⟨t, ht⟩ := ih; rw [← Nat.add_assoc, gQ, ht, List.append_assoc]; exact ⟨_, rfl⟩
theorem uF (gr : List (List Int × List Int)) {j m : Nat} (h : j ≤ m) : ∃ rest, ja gr m = ja gr j ++ rest := by
 obtain ⟨d, rfl⟩ := Nat.le.dest h
 clear h
 induction d with
 | zero => exact ⟨[], by simp⟩
 | succ d ih => obtain ⟨t, ht⟩ := ih; rw [← Nat.add_assoc, fp, ht, List.append_assoc]; exact ⟨_, rfl⟩
theorem qd {gr : List (List Int × List Int)} {n k j : Nat} {p : Int} (hn : n < gr.length) (hk : k < 2) (hj : j < (ak gr n k).length) (hp : qL p = true) (hx : (ak gr n k).getD j 0 = p)
  (hN : ib (ja gr n ++ gB gr n k ++ za (ak gr n k) n k j) p = none) : bh gr p = some ⟨n, k, j, p⟩ := by
 obtain ⟨r1, h1⟩ := uF gr (show n + 1 ≤ gr.length by omega)
 obtain ⟨r2, h2⟩ := uW gr n (show k + 1 ≤ 2 by omega)
 obtain ⟨r3, h3⟩ := uG (ak gr n k) n k (show j + 1 ≤ (ak gr n k).length by omega)
 have e : io gr = (ja gr n ++ gB gr n k ++ za (ak gr n k) n k j) ++ (⟨n, k, j, p⟩ :: (r3 ++ r2 ++ r1)) := by
  unfold io
  rw [h1, fp, h2, gQ, h3, fP, hx, if_pos hp]
  simp [List.append_assoc]
 show ib (io gr) p = _
 rw [e, gI, hN]
 simp [ib]
theorem oD {gr : List (List Int × List Int)} {n k j : Nat} {p : Int} (hx : (ak gr n k).getD j 0 ≠ p)
  (hN : ib (ja gr n ++ gB gr n k ++ za (ak gr n k) n k j) p = none) : ib (ja gr n ++ gB gr n k ++ za (ak gr n k) n k (j + 1)) p = none := by
 rw [fP, ← List.append_assoc, gI, hN]
 split
 ·rw [List.getD_eq_getElem?_getD] at hx; simp [ib, hx]
 ·rfl
theorem qt {gr : List (List Int × List Int)} {n k : Nat} {p : Int} (hN : ib (ja gr n ++ gB gr n k ++ za (ak gr n k) n k (ak gr n k).length) p = none) : ib (ja gr n ++ gB gr n (k + 1)) p = none := by
 rw [gQ, ← List.append_assoc]; exact hN
theorem kN {gr : List (List Int × List Int)} {n : Nat} {p : Int} (hN : ib (ja gr n ++ gB gr n 2) p = none) : ib (ja gr (n + 1)) p = none := by
 rw [fp]; exact hN
theorem qr {gr : List (List Int × List Int)} {p : Int} (hp : qL p = false) : bh gr p = none := by
 have hI : ∀ (r : List Int) (g k m : Nat), ib (za r g k m) p = none := by
  intro r g k m
  induction m with
  | zero => rfl
  | succ m ih =>
   rw [fP, gI, ih]
   split
   ·rename_i hq
    have : r.getD m 0 ≠ p := fun h => by rw [h, hp] at hq; cases hq
    rw [List.getD_eq_getElem?_getD] at this
    simp [ib, this]
   ·rfl
 have hK : ∀ g m, ib (gB gr g m) p = none := by
  intro g m
  induction m with
  | zero => rfl
  | succ m ih => rw [gQ, gI, ih, hI]; rfl
 have hG : ∀ m, ib (ja gr m) p = none := by
  intro m
  induction m with
  | zero => rfl
  | succ m ih => rw [fp, gI, ih, hK]; rfl
 exact hG _
def wo : Option Spot → Int | some s => s.g | none => 0
def wZ : Option Spot → Int | some s => s.k | none => 0
def wY : Option Spot → Int | some s => s.i | none => 0
theorem wk (p : Int) : (tB [p] == 0) = !qL p := by
 rw [Bool.eq_iff_iff]
 simp only [beq_iff_eq, tB, gm, Bool.not_eq_true']
 constructor
 ·intro h
  cases hp : qL p
  ·rfl
  ·unfold qL at hp
   simp at hp
   have := h p.toNat (by omega)
   have e : ((p.toNat : Nat) : Int) = p := by omega
   rw [e] at this; simp at this
 ·intro h i hi
  unfold qL at h
  simp at h
  simp; omega
theorem jL {k : Nat} (hk : k < 2) (v0 v1 : Value) (w : World) : Sem.run Tryz.prog (Instr.index 60 (.agg #[v0, v1]) (.int .i64 k)) w = .ok (if k = 0 then v0 else v1) w := by
 rcases (show k = 0 ∨ k = 1 by omega) with rfl | rfl
 ·simp [Instr.index, asIntOf, Sem.run_bind, run_underlying Tryz.underlying60, part, isAgg, run_underlying Tryz.underlying51, Result.andThen]
 ·simp [Instr.index, asIntOf, Sem.run_bind, run_underlying Tryz.underlying60, part, isAgg, run_underlying Tryz.underlying51, Result.andThen]
theorem jK (T : Array Value) (t : Tab) (p : Int) (w : World) (hT : ag w T t) :
  Calls Tryz.prog 108 #[.agg T, .int .i64 p] w fun e w' => e = .returned (.tuple #[.int .i64 (wo (bh t.gr p)), .int .i64 (wZ (bh t.gr p)), .int .i64 (wY (bh t.gr p)), .bool (bh t.gr p).isSome]) ∧ Below w.heap.size w w' := by
 have h1 := wk p
 cases hp : qL p
 ·rw [hp] at h1
  rw [qr hp]
  simp only [wo, wZ, wY, Option.isSome]
  clear hT hp
  go_enter Tryz.func108, Tryz.ntmps108
  go_wp2_with (go_at_call 165; refine (jg _ 1 [p] _ (by simp) (cU _ (by simp) rfl)).mono ?_; rintro e w' ⟨rfl, rfl⟩)
  go_step3
  go_wp2_with (go_at_call 165; refine (jg _ 1 [p] _ (by simp) (cU _ (by simp) rfl)).mono ?_; rintro e w' ⟨rfl, rfl⟩)
  rw [Exit.noGoto_ret]
  show bodyPost Tryz.prog Tryz.f108 _ _ _ _
  go_returns
  exact ⟨rfl, by exact yd⟩
 rw [hp] at h1
 obtain ⟨g, d, r, b, hTe, hI⟩ := hT
 obtain ⟨ga, gcap, H, rfl, hrow, hints⟩ := hI.gr
 have lg := hI.lg
 have lr := Lib.hid hI.lr
 have t104 : T[104]? = some (.slice ga t.gr.length gcap) := by rw [hTe, ab _ _ _ (by omega)]; rfl
 have HR := Lib.hid hrow
 have HI := Lib.hid hints
 have HP := Lib.hid hp
 obtain ⟨R, hRr⟩ : ∃ R, bh t.gr p = R := ⟨_, rfl⟩
 have HRR := Lib.hid hRr
 rw [hRr]
 clear hrow hints hI hTe hRr hp
 go_enter Tryz.func108, Tryz.ntmps108
 go_wp2_with (go_at_call 165; refine (jg _ 1 [p] _ (by simp) (cU _ (by simp) rfl)).mono ?_; rintro e w' ⟨rfl, rfl⟩)
 go_step3
 go_wp2_with (go_at_call 165; refine (jg _ 1 [p] _ (by simp) (cU _ (by simp) rfl)).mono ?_; rintro e w' ⟨rfl, rfl⟩)
 go_step3
 go_wp2
 go_loopw [4, 5, 6, 7, 21] (fun x4 x5 x6 x7 i wr => ∃ n : Nat, n ≤ t.gr.length ∧ i = .int .i64 n ∧ x4 = .int .i64 0 ∧ x5 = .int .i64 0 ∧ x6 = .int .i64 0 ∧ x7 = .bool false ∧ Hid (ib (ja t.gr n) p = none) ∧ Below (w.heap.size + 1) (w.alloc (.cells T 34)) wr) (fun _ _ _ _ i _ => t.gr.length - (intOf i).toNat)
 case atStart => exact ⟨0, Nat.zero_le _, rfl, rfl, rfl, rfl, rfl, Lib.hid rfl, by exact yd⟩
 case round =>
  obtain ⟨n, hn, rfl, rfl, rfl, rfl, rfl, hN, hb⟩ := hrel
  have hB := hb.size
  rw [World.size_alloc] at hB
  have hbw : Below w.heap.size w wr := ((Below.refl w.heap.size w).alloc (Nat.le_refl _) (.cells T 34)).trans (hb.mono (by omega))
  haveI : LeSize w.heap.size wr := ⟨hbw.size⟩
  haveI : LeSize (w.heap.size + 1) wr := ⟨hB⟩
  by_cases hlt : n < t.gr.length
  ·obtain ⟨gb, goff, rfl, hgb, hgc⟩ := HR.out.resolve_left (by omega)
   have hc0 : wr.cell? ⟨gb, goff + n * 2, none⟩ = some (.slice (H n 0).1 (ak t.gr n 0).length (H n 0).2) := by
    rw [hb.cell (p := ⟨gb, goff + n * 2, none⟩) (by simp; omega), World.cell?_alloc_past _ _ _ (by omega)]; exact hgc n hlt 0 (by omega)
   have hc1 : wr.cell? ⟨gb, goff + n * 2 + 1, none⟩ = some (.slice (H n 1).1 (ak t.gr n 1).length (H n 1).2) := by
    rw [hb.cell (p := ⟨gb, goff + n * 2 + 1, none⟩) (by simp; omega), World.cell?_alloc_past _ _ _ (by omega)]; exact hgc n hlt 1 (by omega)
   haveI : LeSize (gb + 1) wr := ⟨by omega⟩
   clear hgc HR
   go_wp2
   go_loopw [4, 5, 6, 7, 27] (fun x4 x5 x6 x7 i wr' => ∃ k : Nat, k ≤ 2 ∧ i = .int .i64 k ∧ x4 = .int .i64 0 ∧ x5 = .int .i64 0 ∧ x6 = .int .i64 0 ∧ x7 = .bool false ∧ Hid (ib (ja t.gr n ++ gB t.gr n k) p = none) ∧ wr' = wr.alloc (.cells #[.slice (H n 0).1 (ak t.gr n 0).length (H n 0).2, .slice (H n 1).1 (ak t.gr n 1).length (H n 1).2] 60)) (fun _ _ _ _ i _ => 2 - (intOf i).toNat)
   case atStart => exact ⟨0, by omega, rfl, rfl, rfl, rfl, rfl, Lib.hid (by simpa [gB] using hN.out), rfl⟩
   case round =>
    obtain ⟨k, hk, rfl, rfl, rfl, rfl, rfl, hN2, rfl⟩ := hrel
    by_cases hltk : k < 2
    ·have hix := jL hltk (.slice (H n 0).1 (ak t.gr n 0).length (H n 0).2) (.slice (H n 1).1 (ak t.gr n 1).length (H n 1).2)
     have hix2 : ∀ w', Sem.run Tryz.prog (Instr.index 60 (.agg #[.slice (H n 0).1 (ak t.gr n 0).length (H n 0).2, .slice (H n 1).1 (ak t.gr n 1).length (H n 1).2]) (.int .i64 k)) w' = .ok (.slice (H n k).1 (ak t.gr n k).length (H n k).2) w' := fun w' => by
      rw [hix w']
      rcases (show k = 0 ∨ k = 1 by omega) with rfl | rfl <;> rfl
     clear hix
     have hin := HI.out n hlt k hltk
     have hrl := lr.out n k
     have HHIT : Hid (∀ j, j < (ak t.gr n k).length → (ak t.gr n k).getD j 0 = p → ib (ja t.gr n ++ gB t.gr n k ++ za (ak t.gr n k) n k j) p = none → R = some ⟨n, k, j, p⟩) := Lib.hid fun j hj hx h => by rw [← HRR.out]; exact qd hlt hltk hj HP.out hx h
     have HMISS : Hid (∀ j, (ak t.gr n k).getD j 0 ≠ p → ib (ja t.gr n ++ gB t.gr n k ++ za (ak t.gr n k) n k j) p = none → ib (ja t.gr n ++ gB t.gr n k ++ za (ak t.gr n k) n k (j + 1)) p = none) := Lib.hid fun j hx h => oD hx h
     have HROW : Hid (ib (ja t.gr n ++ gB t.gr n k ++ za (ak t.gr n k) n k (ak t.gr n k).length) p = none → ib (ja t.gr n ++ gB t.gr n (k + 1)) p = none) := Lib.hid fun h => qt h
     have HKI : (k : Int) < 2 := by omega
     generalize hS0 : (Value.slice (H n 0).1 (ak t.gr n 0).length (H n 0).2) = S0 at *
     generalize hS1 : (Value.slice (H n 1).1 (ak t.gr n 1).length (H n 1).2) = S1 at *
     generalize (H n k).1 = hd at *
     generalize (H n k).2 = hcp at *
     generalize ak t.gr n k = row at *
     clear hS0 hS1
     have HIN := Lib.hid hin
     clear hin
     go_wp2
     go_loopw [4, 5, 6, 7, 33] (fun x4 x5 x6 x7 i wr' => ∃ j : Nat, j ≤ row.length ∧ i = .int .i64 j ∧ x4 = .int .i64 0 ∧ x5 = .int .i64 0 ∧ x6 = .int .i64 0 ∧ x7 = .bool false ∧ Hid (ib (ja t.gr n ++ gB t.gr n k ++ za row n k j) p = none) ∧ wr' = wr.alloc (.cells #[S0, S1] 60)) (fun _ _ _ _ i _ => row.length - (intOf i).toNat)
     case atStart => exact ⟨0, by omega, rfl, rfl, rfl, rfl, rfl, Lib.hid (by simpa [za] using hN2.out), rfl⟩
     case round =>
      obtain ⟨j, hj, rfl, rfl, rfl, rfl, rfl, hN3, rfl⟩ := hrel
      by_cases hjl : j < row.length
      ·obtain ⟨rb, roff, rfl, hrb, hrc⟩ := HIN.out.cell (by omega)
       have hcell : wr.cell? ⟨rb, roff + j, none⟩ = some (.int .i64 (row.getD j 0)) := by
        rw [hb.cell (p := ⟨rb, roff + j, none⟩) (by simp; omega), World.cell?_alloc_past _ _ _ (by omega)]; exact hrc j hjl
       haveI : LeSize (rb + 1) wr := ⟨by omega⟩
       clear hrc
       by_cases hx : row.getD j 0 = p
       ·have HX := Lib.hid (HHIT.out j hjl hx hN3.out)
        have hx2 : (row.getD j 0 == p) = true := by simpa using hx
        clear hx
        generalize row.getD j 0 = x at *
        go_wp2
        rw [Exit.noGoto_ret]
        show bodyPost Tryz.prog Tryz.f108 _ _ _ _
        go_returns
        exact ⟨by rw [HX.out]; rfl, by exact yd⟩
       ·have HX : Hid (ib (ja t.gr n ++ gB t.gr n k ++ za row n k (j + 1)) p = none) := Lib.hid (HMISS.out j hx hN3.out)
        have hx2 : (row.getD j 0 == p) = false := by simpa using hx
        clear hx
        generalize row.getD j 0 = x at *
        go_wp2
        go_roundw
        case rel => first | exact ⟨j + 1, by omega, by go_num, HX, trivial⟩ | exact ⟨j + 1, by omega, by go_num, rfl, rfl, rfl, rfl, HX, trivial⟩
        case measure => simp [intOf]; omega
      ·obtain rfl : j = row.length := by omega
       go_wp2
       go_roundw
       case rel => first | exact ⟨k + 1, by omega, by go_num, Lib.hid (HROW.out hN3.out), trivial⟩ | exact ⟨k + 1, by omega, by go_num, rfl, rfl, rfl, rfl, Lib.hid (HROW.out hN3.out), trivial⟩
       case measure => simp [intOf]; omega
    ·obtain rfl : k = 2 := by omega
     go_wp2
     go_roundw
     case rel => first | exact ⟨n + 1, by omega, by go_num, Lib.hid (kN hN2.out), by exact yd⟩ | exact ⟨n + 1, by omega, by go_num, rfl, rfl, rfl, rfl, Lib.hid (kN hN2.out), by exact yd⟩
     case measure => simp [intOf]; omega
  ·obtain rfl : n = t.gr.length := by omega
   have HX : Hid (R = none) := Lib.hid (by rw [← HRR.out]; exact hN.out)
   go_wp2
   rw [Exit.noGoto_ret]
   show bodyPost Tryz.prog Tryz.f108 _ _ _ _
   go_returns
   exact ⟨by rw [HX.out]; rfl, by exact yd⟩
end
end Go.Proofs.YtodgfjgljcinlaaGreat
