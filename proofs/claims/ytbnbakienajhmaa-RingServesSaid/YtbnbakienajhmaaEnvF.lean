/- The general law for a region that draws its order: addresses taken first; then reads, calls that make memory at most, and operations whose value hangs on the order, walked once in the order of the text; then a forced tail. The operations are named by three lists of numbers. -/
import Derived.Test.YtbnbakienajhmaaFree
import Derived.Test.YtbnbakienajhmaaRk
namespace Go.Proofs.Ytbnbakienajhmaa
open Go.RowKit
set_option linter.unusedVariables false

section
variable {P : Program} {ops : Array Oper} {md : Region.Mode} {W : World}
/-- The head, in the order of the list is. -/
def wpEH (P : Program) (ops : Array Oper) (W : World) (odd : List Nat) (deps : List (Nat × Nat)) (Rc : RcT) (Q : Env → Act → Prop) : List Oper → List Nat → Env → Act → Prop
  | o :: l, k :: is, e, a =>
    if odd.contains k then OddE P ops W Rc (e.on (dep deps k)).inv o a ∧ ∀ v, (∃ u : Up W, RS P W Rc (execOp a.eval o) v u.w) → wpEH P ops W odd deps Rc Q l is (e.upd k (RS P W Rc (execOp a.eval o) v)) (a.put o.dst v)
    else if Region.wanted o (yielded ops a.tmps) then quietE P W (e.on (dep deps k)).inv o a (wpEH P ops W odd deps Rc Q l is e)
    else wpEH P ops W odd deps Rc Q l is e (a.put o.dst undef)
  | _, _, e, a => Q e a
theorem wpEH_nil {odd : List Nat} {deps : List (Nat × Nat)} {Rc : RcT} {Q : Env → Act → Prop} {e : Env} {a : Act} (h : Q e a) : wpEH P ops W odd deps Rc Q [] [] e a := h
theorem wpEH_skip {odd : List Nat} {deps : List (Nat × Nat)} {Rc : RcT} {Q : Env → Act → Prop} {o : Oper} {l : List Oper} {k : Nat} {is : List Nat} {e : Env} {a : Act} (ho : odd.contains k = false) (hw : Region.wanted o (yielded ops a.tmps) = false)
    (h : wpEH P ops W odd deps Rc Q l is e (a.put o.dst undef)) : wpEH P ops W odd deps Rc Q (o :: l) (k :: is) e a := by
  unfold wpEH
  rw [if_neg (by rw [ho]; exact Bool.false_ne_true), if_neg (by rw [hw]; exact Bool.false_ne_true)]
  exact h
theorem wpEH_want {odd : List Nat} {deps : List (Nat × Nat)} {Rc : RcT} {Q : Env → Act → Prop} {o : Oper} {l : List Oper} {k : Nat} {is : List Nat} {e : Env} {a : Act} (ho : odd.contains k = false) (hw : Region.wanted o (yielded ops a.tmps) = true)
    (h : ∀ Z : World → Prop, Stable Z → (∀ w, Z w → (e.on (dep deps k)).inv w) → Nonempty (UpZ W Z) → ∀ K : Act → Prop, (∀ a, wpEH P ops W odd deps Rc Q l is e a → K a) → o.quiet P a (fun w' => ∃ u : UpZ W Z, w' = u.up.w) K) : wpEH P ops W odd deps Rc Q (o :: l) (k :: is) e a := by
  unfold wpEH
  rw [if_neg (by rw [ho]; exact Bool.false_ne_true), if_pos hw]
  exact fun Z h1 h2 h3 => h Z h1 h2 h3 _ fun _ h => h
theorem wpEH_odd {odd : List Nat} {deps : List (Nat × Nat)} {Rc : RcT} {Q : Env → Act → Prop} {o : Oper} {l : List Oper} {k : Nat} {is : List Nat} {e : Env} {a : Act} (ho : odd.contains k = true) (hw : Region.wanted o (yielded ops a.tmps) = true)
    (h1 : ∀ u : Up W, (e.on (dep deps k)).inv u.w → oddUp P Rc u.w ((execOp a.eval o).run P u.w))
    (h : ∀ v, (∃ u : Up W, RS P W Rc (execOp a.eval o) v u.w) → wpEH P ops W odd deps Rc Q l is (e.upd k (RS P W Rc (execOp a.eval o) v)) (a.put o.dst v)) : wpEH P ops W odd deps Rc Q (o :: l) (k :: is) e a := by
  unfold wpEH
  rw [if_pos ho]
  exact ⟨⟨hw, h1⟩, h⟩
theorem dep_readyC {deps : List (Nat × Nat)} (hd : depB md ops deps = true) {listed : Array Bool} (inv : ClosedL md ops listed) {j h : Nat} (hr : j ∈ Region.ready md ops listed) (hu : listed.getD h false = false) : dep deps j h = false := by
  cases hc : dep deps j h with
  | false => rfl
  | true =>
    unfold dep at hc
    have hm := List.contains_iff_mem.1 hc
    have := List.all_eq_true.1 hd _ hm
    have := waitsT_ready' inv hr this
    rw [hu] at this
    cases this
def anyEH (P : Program) (md : Region.Mode) (ops : Array Oper) (W : World) (odd : List Nat) (deps : List (Nat × Nat)) (Rc : RcT) (hs : List Nat) (L : Env → Array Bool → Act → Prop) : Nat → Env → Array Bool → Act → Prop
  | 0, e, listed, a => L e listed a
  | f + 1, e, listed, a => Region.ready md ops listed ≠ [] ∧ ∀ i ∈ Region.ready md ops listed, i ∈ hs ∧
      (odd.contains i = true → ∀ oi, ops[i]? = some oi → OddE P ops W Rc (e.on (dep deps i)).inv oi a ∧
        ∀ v, (∃ u : Up W, (e.upd i (RS P W Rc (execOp a.eval oi) v)).inv u.w) → anyEH P md ops W odd deps Rc hs L f (e.upd i (RS P W Rc (execOp a.eval oi) v)) (listed.setIfInBounds i true) (a.put oi.dst v)) ∧
      (odd.contains i = false → qOpE P ops W deps e i (anyEH P md ops W odd deps Rc hs L f e (listed.setIfInBounds i true)) a)
theorem wpAny_of_anyEH {odd : List Nat} {deps : List (Nat × Nat)} {Rc : RcT} (hRc : ∀ f args v, Stable (Rc f args v)) {hs : List Nat} {g : Nat} {L : Env → Array Bool → Act → Prop} {Q' : Exit → Act → World → Prop}
    (hL : ∀ e listed a w, Below W.heap.size W w → e.inv w → L e listed a → wpAny P md ops Q' g listed a w) :
    ∀ (f : Nat) (e : Env) (listed : Array Bool) (a : Act) (w : World), Below W.heap.size W w → e.stable → e.inv w → anyEH P md ops W odd deps Rc hs L f e listed a → wpAny P md ops Q' (f + g) listed a w
  | 0, e, listed, a, w, hw, _, hv, hh => by rw [Nat.zero_add]; exact hL e _ _ _ hw hv hh
  | f + 1, e, listed, a, w, hw, hst, hv, hh => by
    rw [show f + 1 + g = (f + g) + 1 by omega]
    refine ⟨fun h0 => absurd h0 hh.1, fun i hi => ?_⟩
    obtain ⟨_, h1, h2⟩ := hh.2 i hi
    obtain ⟨_, oi, hoi, _⟩ := mem_ready.1 hi
    cases hodd : odd.contains i with
    | true =>
      obtain ⟨⟨hwant, ho⟩, hnext⟩ := h1 hodd oi hoi
      have ho' := ho ⟨w, hw⟩ (Env.inv_on hv)
      unfold wpOp
      simp only [hoi, hwant, if_true]
      refine .inl ?_
      unfold Oper.wp
      have ho2 : oddUp P Rc w ((execOp a.eval oi).run P w) := ho'
      generalize hr : (execOp a.eval oi).run P w = r at *
      cases r with
      | ok nx w' =>
        cases nx <;> simp only [oddUp] at ho2 <;> simp only [Oper.upon]
        case value x =>
          have hw' := hw.trans (ho2.mono hw.size)
          have hrs : RS P W Rc (execOp a.eval oi) x w' := ⟨⟨w, hw⟩, by
            show match (execOp a.eval oi).run P w with
              | .ok (.value x') w1 => x' = x ∧ Below w1.heap.size w1 w'
              | .ok (.enter f args) _ => Rc f args x w'
              | _ => False
            rw [hr]; exact ⟨rfl, Below.refl _ _⟩⟩
          have hi' := Env.inv_upd (i := i) (Env.inv_stable hst _ _ hv ho2) hrs
          exact wpAny_of_anyEH hRc hL f _ _ _ _ hw' (Env.stable_upd hst (RS.stable hRc _ _)) hi' (hnext x ⟨⟨w', hw'⟩, hi'⟩)
        case enter f' args =>
          obtain ⟨rfl, hc⟩ := ho2
          refine hc.mono fun en w'' ⟨v, he, hrc, hb⟩ => ?_
          subst he
          have hw' := hw.trans (hb.mono hw.size)
          have hrs : RS P W Rc (execOp a.eval oi) v w'' := ⟨⟨w', hw⟩, by
            show match (execOp a.eval oi).run P w' with
              | .ok (.value x') w1 => x' = v ∧ Below w1.heap.size w1 w''
              | .ok (.enter f args) _ => Rc f args v w''
              | _ => False
            rw [hr]; exact hrc⟩
          have hi' := Env.inv_upd (i := i) (Env.inv_stable hst _ _ hv hb) hrs
          exact wpAny_of_anyEH hRc hL f _ _ _ _ hw' (Env.stable_upd hst (RS.stable hRc _ _)) hi' (hnext v ⟨⟨w'', hw'⟩, hi'⟩)
      | halt x w' => simp only [oddUp] at ho2
    | false =>
      have h3 := h2 hodd
      unfold qOpE at h3
      unfold wpOp
      simp only [hoi] at h3 ⊢
      split
      · rename_i hwt
        simp only [hwt, if_true] at h3
        refine .inl ?_
        refine Oper.wp_of_quiet (C := fun w' => ∃ u : UpZ W e.inv, w' = u.up.w) (K := anyEH P md ops W odd deps Rc hs L f e (listed.setIfInBounds i true)) ⟨⟨⟨w, hw⟩, hv⟩, rfl⟩ (fun a' w' hw' hk => ?_) (h3 e.inv (Env.inv_stable hst) (fun w' h => Env.inv_on h) ⟨⟨⟨w, hw⟩, hv⟩⟩)
        obtain ⟨u, rfl⟩ := hw'
        exact wpAny_of_anyEH hRc hL f e _ _ _ u.up.bel hst u.z hk
      · rename_i hwt; simp only [hwt] at h3
        exact wpAny_of_anyEH hRc hL f e _ _ _ hw hst hv h3
structure FirstH (md : Region.Mode) (ops : Array Oper) (listed : Array Bool) (hs : List Nat) (i : Nat) (oi : Oper) : Prop where
  here : ops[i]? = some oi
  low : i ∈ hs
  free : ∀ j oj, ops[j]? = some oj → j ≠ i → listed.getD j true = false → (∀ e ∈ oj.after, Region.binds md e = true → e.on ≠ i) → oi.apart ops oj = true
  ready : i ∈ Region.ready md ops listed
theorem FirstH.set {listed : Array Bool} {hs : List Nat} {i j : Nat} {oi : Oper} (h : FirstH md ops listed hs i oi) (hj : j ∈ Region.ready md ops listed) (hji : j ≠ i) : FirstH md ops (listed.setIfInBounds j true) hs i oi :=
  ⟨h.here, h.low, fun k ok hk hki hun hno => by
    refine h.free k ok hk hki ?_ hno
    by_cases hjk : j = k
    · subst hjk; exact (mem_ready.1 hj).1
    · rw [getD_set_ne true hjk] at hun; exact hun, ready_mono h.ready (Ne.symm hji)⟩
theorem FirstH.apart {listed : Array Bool} {hs : List Nat} {i j : Nat} {oi oj : Oper} (h : FirstH md ops listed hs i oi) (hj : j ∈ Region.ready md ops listed) (hji : j ≠ i) (hoj : ops[j]? = some oj) : oi.apart ops oj = true := by
  refine h.free j oj hoj hji (mem_ready.1 hj).1 fun e he hb heq => ?_
  obtain ⟨_, oj', hoj', hall⟩ := mem_ready.1 hj
  rw [hoj] at hoj'
  obtain rfl := Option.some.inj hoj'
  have h1 := hall e he hb
  rw [heq, getD_both (mem_ready.1 h.ready).1] at h1
  cases h1
theorem ready_sizeC {listed : Array Bool} {i : Nat} (inv : ClosedL md ops listed) (hi : i ∈ Region.ready md ops listed) : i < listed.size := by
  obtain ⟨_, o, ho, _⟩ := mem_ready.1 hi
  rw [inv.size]; exact (Array.getElem?_eq_some_iff.1 ho).1
theorem anyEH_quiet {odd : List Nat} {deps : List (Nat × Nat)} {Rc : RcT} (hRc : ∀ f args v, Stable (Rc f args v)) {hs ts : List Nat} {i : Nat} {oi : Oper} {v : Value} {L : Env → Array Bool → Act → Prop} (hd : depB md ops deps = true) (hio : odd.contains i = false) (hsel : ∀ (j : Nat) (o : Oper) cs b, ops[j]? = some o → o.op ≠ .select cs b)
    (hw : ∀ (t : Nat), t ∈ ts → ∀ (h : Nat), h ∈ hs → Reach md ops h t) (hdone : ∀ e listed a, L e listed a → ∀ j ∈ Region.ready md ops listed, j ∉ hs) :
    ∀ (f : Nat) (e : Env) (listed : Array Bool) (a : Act), ClosedL md ops listed → Cover ops hs ts listed → e.stable → Blank e listed → FirstH md ops listed hs i oi → YieldsE P ops W (e.on (dep deps i)).inv oi v a →
      anyEH P md ops W odd deps Rc hs L f e (listed.setIfInBounds i true) (a.put oi.dst v) → anyEH P md ops W odd deps Rc hs L (f + 1) e listed a := by
  intro f
  induction f with
  | zero =>
    intro e listed a inv hcv hst hbl fi hy H
    have hun := (mem_ready.1 fi.ready).1
    refine ⟨fun h => (by have := fi.ready; rw [h] at this; cases this), fun j hj => ?_⟩
    have hjn := head_ready hw inv hcv fi.low hun hj
    by_cases hji : j = i
    · subst hji
      exact ⟨hjn, (fun ho => by rw [hio] at ho; cases ho), fun _ => hy.qOp fi.here H⟩
    · exact absurd hjn (hdone _ _ _ H j (ready_mono hj hji))
  | succ f ih =>
    intro e listed a inv hcv hst hbl fi hy H
    have hun := (mem_ready.1 fi.ready).1
    refine ⟨fun h => (by have := fi.ready; rw [h] at this; cases this), fun j hj => ?_⟩
    have hjn := head_ready hw inv hcv fi.low hun hj
    by_cases hji : j = i
    · subst hji
      exact ⟨hjn, (fun ho => by rw [hio] at ho; cases ho), fun _ => hy.qOp fi.here H⟩
    obtain ⟨_, oj, hoj, _⟩ := mem_ready.1 hj
    have hap := fi.apart hj hji hoj
    obtain ⟨p1, p2, p3⟩ := Oper.apart_spec hap
    have hsi := fun cs b => hsel i oi cs b fi.here
    have hsj := fun cs b => hsel j oj cs b hoj
    refine ⟨hjn, fun hjo oj' hoj' => ?_, fun hjo => ?_⟩
    · rw [hoj] at hoj'
      obtain rfl := Option.some.inj hoj'
      obtain ⟨h1, h2⟩ := (H.2 j (ready_mono hj hji)).2.1 hjo oj hoj
      rw [execOp_put oj hsj a oi.dst v p1] at h2
      refine ⟨h1.of_same (execOp_put oj hsj a oi.dst v p1).symm (wanted_put oj a oi.dst v p1).symm, fun u hu => ?_⟩
      refine ih _ (listed.setIfInBounds j true) _ (inv.set hj) (hcv.set j) (Env.stable_upd hst (RS.stable hRc _ _)) (hbl.upd (ready_sizeC inv hj) _) (fi.set hj hji)
        ((hy.of_same (execOp_put oi hsi a oj.dst u p3) (wanted_put oi a oj.dst u p3)).less fun w hw => inv_on_less (hbl j (getD_both (mem_ready.1 hj).1)) hw) ?_
      rw [Array.setIfInBounds_comm _ _ hji, ← Act.put_comm a v u p2]
      exact h2 u hu
    · have h1 := (H.2 j (ready_mono hj hji)).2.2 hjo
      refine qOpE_mono (fun a' h3 => ih e (listed.setIfInBounds j true) a' (inv.set hj) (hcv.set j) hst (hbl.set j) (fi.set hj hji) h3.1 ?_) (qOpE_put hoj hap hsi hsj hy h1)
      rw [Array.setIfInBounds_comm _ _ hji]
      exact h3.2
theorem anyEH_odd {odd : List Nat} {deps : List (Nat × Nat)} {Rc : RcT} (hRc : ∀ f args v, Stable (Rc f args v)) {hs ts : List Nat} {i : Nat} {oi : Oper} {L : Env → Array Bool → Act → Prop} (hd : depB md ops deps = true) (hio : odd.contains i = true) (hsel : ∀ (j : Nat) (o : Oper) cs b, ops[j]? = some o → o.op ≠ .select cs b)
    (hw : ∀ (t : Nat), t ∈ ts → ∀ (h : Nat), h ∈ hs → Reach md ops h t) (hdone : ∀ e listed a, L e listed a → ∀ j ∈ Region.ready md ops listed, j ∉ hs) :
    ∀ (f : Nat) (e : Env) (listed : Array Bool) (a : Act), ClosedL md ops listed → Cover ops hs ts listed → e.stable → Blank e listed → FirstH md ops listed hs i oi → (∃ u : Up W, e.inv u.w) →
      (OddE P ops W Rc (e.on (dep deps i)).inv oi a ∧ ∀ v, (∃ u : Up W, (e.upd i (RS P W Rc (execOp a.eval oi) v)).inv u.w) →
        anyEH P md ops W odd deps Rc hs L f (e.upd i (RS P W Rc (execOp a.eval oi) v)) (listed.setIfInBounds i true) (a.put oi.dst v)) → anyEH P md ops W odd deps Rc hs L (f + 1) e listed a := by
  intro f
  have some_v : ∀ (e : Env) (a : Act), e.stable → (∃ u : Up W, e.inv u.w) → OddE P ops W Rc (e.on (dep deps i)).inv oi a → ∃ v, ∃ u : Up W, (e.upd i (RS P W Rc (execOp a.eval oi) v)).inv u.w := by
    rintro e a hst ⟨u, hu⟩ ho
    obtain ⟨v, u', hb, hr⟩ := ho.some u (Env.inv_on hu)
    exact ⟨v, u', Env.inv_upd (Env.inv_stable hst _ _ hu hb) hr⟩
  induction f with
  | zero =>
    intro e listed a inv hcv hst hbl fi hne H
    have hun := (mem_ready.1 fi.ready).1
    obtain ⟨v0, hv0⟩ := some_v e a hst hne H.1
    refine ⟨fun h => (by have := fi.ready; rw [h] at this; cases this), fun j hj => ?_⟩
    have hjn := head_ready hw inv hcv fi.low hun hj
    by_cases hji : j = i
    · subst hji
      exact ⟨hjn, (fun _ oi' hoi' => by rw [fi.here] at hoi'; obtain rfl := Option.some.inj hoi'; exact H), fun ho => by rw [hio] at ho; cases ho⟩
    · exact absurd hjn (hdone _ _ _ (H.2 v0 hv0) j (ready_mono hj hji))
  | succ f ih =>
    intro e listed a inv hcv hst hbl fi hne H
    have hun := (mem_ready.1 fi.ready).1
    obtain ⟨v0, hv0⟩ := some_v e a hst hne H.1
    refine ⟨fun h => (by have := fi.ready; rw [h] at this; cases this), fun j hj => ?_⟩
    have hjn := head_ready hw inv hcv fi.low hun hj
    by_cases hji : j = i
    · subst hji
      exact ⟨hjn, (fun _ oi' hoi' => by rw [fi.here] at hoi'; obtain rfl := Option.some.inj hoi'; exact H), fun ho => by rw [hio] at ho; cases ho⟩
    obtain ⟨_, oj, hoj, _⟩ := mem_ready.1 hj
    have hap := fi.apart hj hji hoj
    obtain ⟨p1, p2, p3⟩ := Oper.apart_spec hap
    have hsi := fun cs b => hsel i oi cs b fi.here
    have hsj := fun cs b => hsel j oj cs b hoj
    have dji : dep deps j i = false := dep_readyC hd inv hj (getD_both hun)
    have dij : dep deps i j = false := dep_readyC hd inv fi.ready (getD_both (mem_ready.1 hj).1)
    have ej : e j = none := hbl j (getD_both (mem_ready.1 hj).1)
    refine ⟨hjn, fun hjo oj' hoj' => ?_, fun hjo => ?_⟩
    · rw [hoj] at hoj'
      obtain rfl := Option.some.inj hoj'
      have h1 := ((H.2 v0 hv0).2 j (ready_mono hj hji)).2.1 hjo oj hoj
      rw [Env.upd_on dji] at h1
      refine ⟨h1.1.of_same (execOp_put oj hsj a oi.dst v0 p1).symm (wanted_put oj a oi.dst v0 p1).symm, fun u hu => ?_⟩
      refine ih _ (listed.setIfInBounds j true) _ (inv.set hj) (hcv.set j) (Env.stable_upd hst (RS.stable hRc _ _)) (hbl.upd (ready_sizeC inv hj) _) (fi.set hj hji) hu ⟨?_, fun v hv => ?_⟩
      · rw [Env.upd_on dij]
        exact H.1.of_same (execOp_put oi hsi a oj.dst u p3) (wanted_put oi a oj.dst u p3)
      · rw [execOp_put oi hsi a oj.dst u p3] at hv ⊢
        rw [Env.upd_comm hji] at hv ⊢
        obtain ⟨x, hx⟩ := hv
        have hx1 : (e.upd i (RS P W Rc (execOp a.eval oi) v)).inv x.w := Env.inv_of_upd (by unfold Env.upd; rw [if_neg hji]; exact ej) hx
        have h2 := (((H.2 v ⟨x, hx1⟩).2 j (ready_mono hj hji)).2.1 hjo oj hoj).2 u
        rw [execOp_put oj hsj a oi.dst v p1] at h2
        rw [Array.setIfInBounds_comm _ _ hji, ← Act.put_comm a v u p2]
        exact h2 ⟨x, hx⟩
    · have q0 := ((H.2 v0 hv0).2 j (ready_mono hj hji)).2.2 hjo
      obtain ⟨u, hu, _⟩ := yieldsE_of_qOp (Env.stable_upd hst (RS.stable hRc _ _)) hv0 hoj q0
      rw [Env.upd_on dji] at hu
      have hu' := hu.of_same (execOp_put oj hsj a oi.dst v0 p1).symm (wanted_put oj a oi.dst v0 p1).symm
      refine hu'.qOp hoj ?_
      refine ih e (listed.setIfInBounds j true) _ (inv.set hj) (hcv.set j) hst (hbl.set j) (fi.set hj hji) hne ⟨H.1.of_same (execOp_put oi hsi a oj.dst u p3) (wanted_put oi a oj.dst u p3), fun v hv => ?_⟩
      rw [execOp_put oi hsi a oj.dst u p3] at hv ⊢
      have q1 := ((H.2 v hv).2 j (ready_mono hj hji)).2.2 hjo
      obtain ⟨u', hy1, hK⟩ := yieldsE_of_qOp (Env.stable_upd hst (RS.stable hRc _ _)) hv hoj q1
      rw [Env.upd_on dji] at hy1
      have hy2 := hy1.of_same (execOp_put oj hsj a oi.dst v p1).symm (wanted_put oj a oi.dst v p1).symm
      obtain ⟨x, hx⟩ := hne
      obtain rfl := YieldsE.one (Env.inv_stable (Env.stable_on hst)) x (Env.inv_on hx) hu' hy2
      rw [Array.setIfInBounds_comm _ _ hji, ← Act.put_comm a v u p2]
      exact hK
theorem anyEH_lex {odd : List Nat} {deps : List (Nat × Nat)} {Rc : RcT} (hRc : ∀ f args v, Stable (Rc f args v)) {hs ts : List Nat} {Lq : Env → Act → Prop} (hd : depB md ops deps = true) (hsel : Region.noSelect ops = true)
    (hw : ∀ (t : Nat), t ∈ ts → ∀ (h : Nat), h ∈ hs → Reach md ops h t) (hdt : (ts.all fun t => !hs.contains t) = true) :
    ∀ (l : List Oper) (is : List Nat) (e : Env) (listed : Array Bool) (a : Act), l.length = is.length → (∀ (j : Nat) (hj : j < is.length), l[j]? = ops[is[j]]?) → (∀ i ∈ is, i ∈ hs) → ClosedL md ops listed → Cover ops hs ts listed → e.stable → Blank e listed → (∃ u : Up W, e.inv u.w) →
    lexL md ops (seqL md ops ts) is listed = true → wpEH P ops W odd deps Rc Lq l is e a →
    anyEH P md ops W odd deps Rc hs (fun e' listed' a' => seqL md ops ts listed' = true ∧ e'.stable ∧ Lq e' a') l.length e listed a
  | [], [], e, listed, a, _, _, _, inv, _, hst, _, _, hB, h => ⟨by simpa [lexL] using hB, hst, h⟩
  | [], _ :: _, _, _, _, hl, _, _, _, _, _, _, _, _, _ => by simp at hl
  | _ :: _, [], _, _, _, hl, _, _, _, _, _, _, _, _, _ => by simp at hl
  | o :: l, i :: is, e, listed, a, hlen, hl, hin, inv, hcv, hst, hbl, hne, hB, h => by
    have h0 : ops[i]? = some o := (hl 0 (by simp)).symm
    simp only [lexL, Bool.and_eq_true] at hB
    obtain ⟨⟨hr, hf⟩, hB'⟩ := hB
    have hr' : i ∈ Region.ready md ops listed := by simpa using hr
    have fi : FirstH md ops listed hs i o := ⟨h0, hin i (by simp), Region.free_spec h0 hf, hr'⟩
    have hlen' : l.length = is.length := by simpa using hlen
    have hl' : ∀ (j : Nat) (hj : j < is.length), l[j]? = ops[is[j]]? := fun j hj => by have := hl (j + 1) (by simpa using hj); simpa using this
    have hin' : ∀ i ∈ is, i ∈ hs := fun i hi => hin i (by simp [hi])
    have hdone : ∀ (e : Env) (listed : Array Bool) (a : Act), (seqL md ops ts listed = true ∧ e.stable ∧ Lq e a) → ∀ j ∈ Region.ready md ops listed, j ∉ hs := fun e listed' a' hL j hj hjs => by
      have h1 := seqL_ready hL.1 j hj
      have h2 := List.all_eq_true.1 hdt j h1
      rw [List.contains_iff_mem.2 hjs] at h2
      cases h2
    cases ho : odd.contains i with
    | true =>
      unfold wpEH at h
      rw [if_pos ho] at h
      refine anyEH_odd hRc hd ho (Region.noSelect_spec hsel) hw hdone l.length e listed a inv hcv hst hbl fi hne ⟨h.1, fun v hv => ?_⟩
      obtain ⟨x, hx⟩ := hv
      exact anyEH_lex hRc hd hsel hw hdt l is _ _ _ hlen' hl' hin' (inv.set hr') (hcv.set i) (Env.stable_upd hst (RS.stable hRc _ _)) (hbl.upd (ready_sizeC inv hr') _) ⟨x, hx⟩ hB' (h.2 v ⟨x, Env.upd_inv hx⟩)
    | false =>
      have hq : qOpE P ops W deps e i (wpEH P ops W odd deps Rc Lq l is e) a := by
        unfold wpEH at h
        rw [if_neg (by rw [ho]; exact Bool.false_ne_true)] at h
        unfold qOpE
        simp only [h0]
        exact h
      obtain ⟨v, hy, hK⟩ := yieldsE_of_qOp hst hne h0 hq
      exact anyEH_quiet hRc hd ho (Region.noSelect_spec hsel) hw hdone l.length e listed a inv hcv hst hbl fi hy
        (anyEH_lex hRc hd hsel hw hdt l is e _ _ hlen' hl' hin' (inv.set hr') (hcv.set i) hst (hbl.set i) hne hB' hK)
/-- Addresses F first; the head hs, those of 'odd' hanging on the order; the tail ts is forced. -/
theorem wp_region_envF {id : Nat} {Q : Exit → Act → World → Prop} {a : Act} {w : World} {l : List Oper} (F hs ts : List Nat) (odd : List Nat) (deps : List (Nat × Nat)) (Rc : RcT) (hm : P.follows .mixedOrders = true) (hB : (lexFreeB .any l F hs ts && depB .any l.toArray deps) = true)
    (hQ : ∀ d v c a w, Q (.panic c) (Act.put a d v) w → Q (.panic c) a w) (hRc : ∀ f args v, Stable (Rc f args v))
    (H : wpAddr P l.toArray (wpEH P l.toArray w odd deps Rc (fun e a' => ∀ u : Up w, e.inv u.w → wpList P l.toArray Q (pickO l ts) a' u.w) (pickO l hs) hs (fun _ => none)) (pickO l F) a) : (Code.region id l.toArray true).wp P Q a w := by
  rw [Bool.and_eq_true] at hB
  obtain ⟨hB, hdep⟩ := hB
  simp only [lexFreeB, Bool.and_eq_true, decide_eq_true_eq] at hB
  obtain ⟨⟨⟨⟨⟨⟨⟨⟨hsel, hcov⟩, hd⟩, hw⟩, hlen⟩, hF⟩, hH⟩, hT⟩, hlex⟩ := hB
  have eF := pickO_spec (l := l) (is := F) (by simpa using hF)
  have eH := pickO_spec (l := l) (is := hs) (by simpa using hH)
  have eT := pickO_spec (l := l) (is := ts) (by simpa using hT)
  refine wp_region_any hm ?_
  have inv0 : ClosedL .any l.toArray (Array.replicate l.toArray.size false) := ⟨by simp, fun j oj _ hl => (by rw [getD_replicate_false] at hl; cases hl)⟩
  have key : ∀ (listed : Array Bool) (a : Act) (w' : World), Below w.heap.size w w' → ClosedL .any l.toArray listed → (F.all (fun i => listed.getD i false) && lexL .any l.toArray (seqL .any l.toArray ts) hs listed) = true →
      wpEH P l.toArray w odd deps Rc (fun e a' => ∀ u : Up w, e.inv u.w → wpList P l.toArray Q (pickO l ts) a' u.w) (pickO l hs) hs (fun _ => none) a → wpAny P .any l.toArray Q (hs.length + ts.length) listed a w' := by
    intro listed a w' hw' inv hb hq
    simp only [Bool.and_eq_true] at hb
    have hcv : Cover l.toArray hs ts listed := fun j oj hj hun => by
      have hlt := (Array.getElem?_eq_some_iff.1 hj).1
      have h1 := List.all_eq_true.1 hcov j (List.mem_range.2 hlt)
      simp only [Bool.or_eq_true, List.contains_iff_mem] at h1
      rcases h1 with (h1 | h1) | h1
      · have h2 := List.all_eq_true.1 hb.1 j h1
        rw [getD_both hun] at h2; cases h2
      · exact .inl h1
      · exact .inr h1
    have := anyEH_lex (md := .any) hRc hdep hsel (fun t ht h hh => waitB_spec hw ht hh) hd (pickO l hs) hs (fun _ => none) listed a eH.1 (fun j hj => by simpa using eH.2 j hj) (fun i hi => hi) inv hcv (fun h p hp => by cases hp) (fun h _ => rfl) ⟨⟨w, Below.refl _ _⟩, fun h p hp => by cases hp⟩ hb.2 hq
    have := wpAny_of_anyEH (md := .any) (W := w) (Q' := Q) (g := ts.length) hRc (fun e listed' a' w' hw' hr hL => by
      have := wpAny_of_seqL (md := .any) (Q' := Q) (pickO l ts) ts listed' a' w' eT.1 (fun j hj => by simpa using eT.2 j hj) hL.1 (hL.2.2 ⟨w', hw'⟩ hr)
      rwa [eT.1] at this) _ (fun _ => none) _ _ w' hw' (fun h p hp => by cases hp) (fun h p hp => by cases hp) this
    rwa [eH.1] at this
  have := wpAny_of_addrC (md := .any) (Q' := Q) (W := { w with drawn := w.drawn + 1 }) hQ hsel (fun listed a inv hb hq => key listed a _ (Below.refl _ w).drew inv hb hq) (pickO l F) F _ a eF.1 (fun j hj => by simpa using eF.2 j hj) inv0 hlex H
  rwa [eF.1, show F.length + (hs.length + ts.length) = l.toArray.size from hlen] at this

/-- A move ahead of all. -/
theorem wpAddr_move {K : Act → Prop} {o : Oper} {l : List Oper} {a : Act} {x : Operand} {v : Value} (ho : o.op = .move x) (hw : Region.wanted o (yielded ops a.tmps) = true) (hv : a.eval x = v) (h : wpAddr P ops K l (a.put o.dst v)) : wpAddr P ops K (o :: l) a :=
  ⟨v, .inl ⟨hw, fun w => by subst hv; unfold execOp; simp only [ho]; rfl⟩, h⟩
/-! ### A slice that is built of plain cells -/
def noRc : RcT := fun _ _ _ _ => False
theorem noRc_stable : ∀ f args v, Stable (noRc f args v) := fun _ _ _ _ _ h _ => h.elim
/-- A slice that was built: over this object. -/
structure BuiltS (m : Nat) (o : Obj) (q : Nat) (w : World) : Prop where
  out : w.heap[q]? = some o
theorem BuiltS.lt {m : Nat} {o : Obj} {q : Nat} {w : World} (h : BuiltS m o q w) : q < w.heap.size := (Array.getElem?_eq_some_iff.1 h.out).1
theorem BuiltS.below {m : Nat} {o : Obj} {q : Nat} {w w' : World} (h : BuiltS m o q w) (hb : Below w.heap.size w w') : BuiltS m o q w' := ⟨by rw [hb.block _ h.lt]; exact h.out⟩
theorem wpEH_build {odd : List Nat} {deps : List (Nat × Nat)} {Q : Env → Act → Prop} {o : Oper} {l : List Oper} {k : Nat} {is : List Nat} {e : Env} {a : Act} (m : Nat) (ob : Obj) (ho : odd.contains k = true) (hw : Region.wanted o (yielded ops a.tmps) = true)
    (hrun : ∀ w : World, (execOp a.eval o).run P w = .ok (.value (.slice (some ⟨w.heap.size, 0, none⟩) m m)) (w.alloc ob))
    (h : ∀ (q : Nat) (p : World → Prop), W.heap.size ≤ q → (∀ w, p w → BuiltS m ob q w) → wpEH P ops W odd deps noRc Q l is (e.upd k p) (a.put o.dst (.slice (some ⟨q, 0, none⟩) m m))) : wpEH P ops W odd deps noRc Q (o :: l) (k :: is) e a := by
  refine wpEH_odd ho hw (fun u _ => by rw [hrun]; exact (Below.refl _ _).alloc (Nat.le_refl _) _) ?_
  rintro v ⟨u, hu⟩
  have hu0 := hu
  obtain ⟨u1, h1⟩ := hu
  rw [hrun] at h1
  obtain ⟨rfl, hb⟩ := h1
  refine h _ _ u1.bel.size fun w hr => ?_
  obtain ⟨u2, h2⟩ := hr
  rw [hrun] at h2
  obtain ⟨hv, hb2⟩ := h2
  have : u2.w.heap.size = u1.w.heap.size := by simpa using hv
  rw [← this]
  exact ⟨by rw [hb2.block _ (by simp)]; exact heap_alloc_here _ _⟩
end
theorem ints_built {m : Nat} {q : Nat} {w : World} {t : TypeId} (zs : List Int) (h : BuiltS m (.cells (zs.map (Value.int .i64)).toArray t) q w) : Ints w (some ⟨q, 0, none⟩) zs := by
  right
  refine ⟨_, 0, rfl, h.lt, fun i hi => ?_⟩
  rw [laid_cell h.out (0 + i) (v := .int .i64 (zs.getD i 0)) (by simp [hi, List.getD])]
theorem env_at {e : Env} {deps : List (Nat × Nat)} {k h : Nat} {p : World → Prop} {w : World} (hi : (e.on (dep deps k)).inv w) (hd : dep deps k h = true) (he : e h = some p) : p w := hi h p (by unfold Env.on; rw [if_pos hd]; exact he)
end Go.Proofs.Ytbnbakienajhmaa
