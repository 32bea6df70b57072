/- A region that draws its order: reads, calls that make memory at most, and ONE operation more whose value hangs on the order (an allocation; a call that hands back new memory), walked once; what follows is forced. -/
import Derived.Test.YtbnbakienajhmaaUp
namespace Go.Proofs.Ytbnbakienajhmaa
open Go.RowKit
set_option linter.unusedVariables false

section
variable {P : Program}
theorem steps_ends {m m1 m2 : Machine} (h1 : Steps P m m1) (h2 : Steps P m m2) (e1 : ∀ m', step P m1 ≠ .next m') (e2 : ∀ m', step P m2 ≠ .next m') : m1 = m2 := by
  obtain ⟨n1, h1⟩ := h1
  obtain ⟨n2, h2⟩ := h2
  have key : ∀ (a b : Nat) (x y : Machine), runN P a m = .next x → runN P b m = .next y → (∀ m', step P x ≠ .next m') → a ≤ b → x = y := by
    intro a b x y hx hy ex hab
    obtain ⟨d, rfl⟩ := Nat.exists_eq_add_of_le hab
    rw [runN_add, hx] at hy
    cases d with
    | zero => simpa [runN] using hy
    | succ d =>
      simp only [runN] at hy
      cases hs : step P x with
      | next m' => exact absurd hs (ex m')
      | ended o w => rw [hs] at hy; cases hy
  rcases Nat.le_total n1 n2 with h | h
  · exact key _ _ _ _ h1 h2 e1 h
  · exact (key _ _ _ _ h2 h1 e2 h).symm
def askOper : Oper := { op := .move (.const undef), dst := some 0, type := 0, pos := "", guard := none, after := #[] }
/-- A caller that stops at once, with what it was handed in its one slot. -/
def askFrame (P : Program) (v : Value) (l : List Nat) : Frame := { fn := P.funcs.size, kind := .report, mode := .returning, defers := [], tmps := #[v], todo := [.inRegion #[askOper] l] }
theorem ask_stops (v : Value) (w : World) (m' : Machine) : step P (lone (askFrame P v []) [] w) ≠ .next m' := by
  have : step P (lone (askFrame P v []) [] w) = .ended (.stuck "report: Error or String returned no string" "") w := step_lone_ended (by simp [stepG, unwind, doReturn, askFrame])
  rw [this]; simp
/-- What a call hands back is one. -/
theorem calls_one {f : FuncId} {args : Array Value} {w : World} {v1 v2 : Value} {R1 R2 : World → Prop}
    (h1 : Calls P f args w fun e w' => e = .returned v1 ∧ R1 w') (h2 : Calls P f args w fun e w' => e = .returned v2 ∧ R2 w') : v1 = v2 := by
  obtain ⟨e1, w1, fr1, ⟨rfl, _⟩, c1, f1, l1⟩ := h1 [askFrame P undef [0]]
  obtain ⟨e2, w2, fr2, ⟨rfl, _⟩, c2, f2, l2⟩ := h2 [askFrame P undef [0]]
  have s1 := step_leave_returned (c := askFrame P undef [0]) (cs := []) l1
  have s2 := step_leave_returned (c := askFrame P undef [0]) (cs := []) l2
  have q1 : (askFrame P undef [0]).finish v1 = askFrame P v1 [] := by simp [askFrame, Frame.finish, askOper]
  have q2 : (askFrame P undef [0]).finish v2 = askFrame P v2 [] := by simp [askFrame, Frame.finish, askOper]
  rw [q1] at s1
  rw [q2] at s2
  have := steps_ends (Steps.trans c1 (.one s1)) (Steps.trans c2 (.one s2)) (ask_stops _ _) (ask_stops _ _)
  simp [lone, askFrame] at this
  exact this.2

variable {ops : Array Oper} {md : Region.Mode} {W : World}

/-- One value, in every world that differs by new memory; a call leaves a world that differs from the one it got by new memory. -/
def quietR (P : Program) (W : World) (o : Oper) (a : Act) (next : Act → Prop) : Prop := ∃ v, (∀ w, Below W.heap.size W w → o.quietAt P a (fun w' => Below w.heap.size w w') w v) ∧ next (a.put o.dst v)
def wpQuietR (P : Program) (ops : Array Oper) (W : World) (Q : Act → Prop) : List Oper → Act → Prop
  | [], a => Q a
  | o :: rest, a => if Region.wanted o (yielded ops a.tmps) then quietR P W o a (wpQuietR P ops W Q rest) else wpQuietR P ops W Q rest (a.put o.dst undef)
def qOpR (P : Program) (ops : Array Oper) (W : World) (i : Nat) (K : Act → Prop) (a : Act) : Prop :=
  match ops[i]? with
  | none => K a
  | some o => if Region.wanted o (yielded ops a.tmps) then quietR P W o a K else K (a.put o.dst undef)
theorem quietAt_mono {o : Oper} {a : Act} {C C' : World → Prop} {w : World} {v : Value} (h : ∀ w', C w' → C' w') (hh : o.quietAt P a C w v) : o.quietAt P a C' w v := by
  unfold Oper.quietAt at *
  generalize (execOp a.eval o).run P w = r at *
  cases r with
  | ok n w' =>
    cases n <;> simp only [Oper.quietUpon] at hh ⊢ <;> try exact hh
    exact ⟨hh.1, hh.2.mono fun _ _ ⟨he, hw⟩ => ⟨he, h _ hw⟩⟩
  | halt x w' => exact hh
theorem quietAt_one {o : Oper} {a : Act} {C C' : World → Prop} {w : World} {v v' : Value} (h : o.quietAt P a C w v) (h' : o.quietAt P a C' w v') : v = v' := by
  unfold Oper.quietAt at *
  generalize (execOp a.eval o).run P w = r at *
  cases r with
  | ok n w' =>
    cases n <;> simp only [Oper.quietUpon] at h h'
    case value u => exact h.2.symm.trans h'.2
    case skip => exact h.2.trans h'.2.symm
    case enter f args => exact calls_one h.2 h'.2
  | halt x w' => simp only [Oper.quietUpon] at h
theorem wpQuietR_of {Q : Up W → Act → Prop} : ∀ (l : List Oper) (a : Act),
    (∀ X : Up W, wpQuiet P ops (fun w' => ∃ u : Up X.w, w' = u.w) (Q X) l a) → wpQuietR P ops W (fun a' => ∀ X : Up W, Q X a') l a
  | [], a, h => h
  | o :: l, a, h => by
    unfold wpQuietR
    by_cases hw : Region.wanted o (yielded ops a.tmps) = true
    · simp only [hw, if_true]
      have h' : ∀ X : Up W, o.quiet P a (fun w' => ∃ u : Up X.w, w' = u.w) (wpQuiet P ops (fun w' => ∃ u : Up X.w, w' = u.w) (Q X) l) := fun X => by
        have := h X
        unfold wpQuiet at this
        simpa only [hw, if_true] using this
      obtain ⟨v, hv, _⟩ := h' ⟨W, Below.refl _ _⟩
      have hv' : ∀ X : Up W, (∀ w, (∃ u : Up X.w, w = u.w) → o.quietAt P a (fun w' => ∃ u : Up X.w, w' = u.w) w v) ∧ wpQuiet P ops (fun w' => ∃ u : Up X.w, w' = u.w) (Q X) l (a.put o.dst v) := fun X => by
        obtain ⟨v', h1, h2⟩ := h' X
        have : v' = v := quietAt_one (h1 X.w ⟨⟨X.w, Below.refl _ _⟩, rfl⟩) (hv X.w ⟨X, rfl⟩)
        subst this
        exact ⟨h1, h2⟩
      refine ⟨v, fun w hB => ?_, wpQuietR_of l _ fun X => (hv' X).2⟩
      refine quietAt_mono ?_ ((hv' ⟨w, hB⟩).1 w ⟨⟨w, Below.refl _ _⟩, rfl⟩)
      rintro _ ⟨u, rfl⟩
      exact u.bel
    · simp only [hw]
      refine wpQuietR_of l _ fun X => ?_
      have := h X
      unfold wpQuiet at this
      rw [if_neg hw] at this
      exact this

theorem wpQuiet_mono {C : World → Prop} {Q Q' : Act → Prop} (h : ∀ a, Q a → Q' a) : ∀ (l : List Oper) (a : Act), wpQuiet P ops C Q l a → wpQuiet P ops C Q' l a
  | [], _, hh => h _ hh
  | o :: l, a, hh => by
    unfold wpQuiet at *
    split
    · rename_i hw; rw [if_pos hw] at hh; exact Oper.quiet_mono (fun a' => wpQuiet_mono h l a') hh
    · rename_i hw; rw [if_neg hw] at hh; exact wpQuiet_mono h l _ hh
def YieldsR (P : Program) (ops : Array Oper) (W : World) (o : Oper) (v : Value) (a : Act) : Prop :=
  (Region.wanted o (yielded ops a.tmps) = true ∧ ∀ w, Below W.heap.size W w → o.quietAt P a (fun w' => Below w.heap.size w w') w v) ∨
  (Region.wanted o (yielded ops a.tmps) = false ∧ v = undef)
theorem YieldsR.qOp {i : Nat} {o : Oper} {v : Value} {a : Act} (hi : ops[i]? = some o) (hy : YieldsR P ops W o v a) {K : Act → Prop} (h : K (a.put o.dst v)) : qOpR P ops W i K a := by
  unfold qOpR
  simp only [hi]
  rcases hy with ⟨hw, hv⟩ | ⟨hw, rfl⟩
  · simp only [hw, if_true]; exact ⟨v, hv, h⟩
  · simp only [hw, Bool.false_eq_true, if_false]; exact h
theorem YieldsR.of_same {o : Oper} {v : Value} {a a' : Act} (hy : YieldsR P ops W o v a) (he : execOp a'.eval o = execOp a.eval o)
    (hw : Region.wanted o (yielded ops a'.tmps) = Region.wanted o (yielded ops a.tmps)) : YieldsR P ops W o v a' := by
  unfold YieldsR Oper.quietAt at *
  rw [he, hw]
  exact hy
theorem yieldsR_of_qOp {i : Nat} {o : Oper} {a : Act} {K : Act → Prop} (hi : ops[i]? = some o) (h : qOpR P ops W i K a) : ∃ v, YieldsR P ops W o v a ∧ K (a.put o.dst v) := by
  unfold qOpR at h
  simp only [hi] at h
  by_cases hw : Region.wanted o (yielded ops a.tmps) = true
  · simp only [hw, if_true] at h
    obtain ⟨v, h1, h2⟩ := h
    exact ⟨v, .inl ⟨hw, h1⟩, h2⟩
  · simp only [hw] at h
    exact ⟨undef, .inr ⟨by simpa using hw, rfl⟩, h⟩
theorem qOpR_mono {i : Nat} {a : Act} {K K' : Act → Prop} (h : ∀ a, K a → K' a) (hh : qOpR P ops W i K a) : qOpR P ops W i K' a := by
  unfold qOpR at *
  split
  · exact h _ (by simpa [*] using hh)
  · rename_i o ho
    simp only [ho] at hh
    split
    · rename_i hw; simp only [hw, if_true] at hh; exact let ⟨v, h1, h2⟩ := hh; ⟨v, h1, h _ h2⟩
    · rename_i hw; simp only [hw] at hh; exact h _ hh
theorem qOpR_put {j : Nat} {oi oj : Oper} {v : Value} (hj : ops[j]? = some oj) (hap : oi.apart ops oj = true)
    (hsi : ∀ cs b, oi.op ≠ .select cs b) (hsj : ∀ cs b, oj.op ≠ .select cs b) {K : Act → Prop} {a : Act}
    (hy : YieldsR P ops W oi v a) (h : qOpR P ops W j K (a.put oi.dst v)) :
    qOpR P ops W j (fun a' => YieldsR P ops W oi v a' ∧ K (a'.put oi.dst v)) a := by
  obtain ⟨h1, h2, h3⟩ := Oper.apart_spec hap
  have keep : ∀ (a : Act), YieldsR P ops W oi v a → ∀ u, YieldsR P ops W oi v (a.put oj.dst u) := fun a hy u =>
    hy.of_same (execOp_put oi hsi a oj.dst u h3) (wanted_put oi a oj.dst u h3)
  unfold qOpR at *
  simp only [hj] at *
  rw [wanted_put oj a oi.dst v h1] at h
  split
  · rename_i hw
    simp only [hw, if_true] at h
    obtain ⟨u, hu, hn⟩ := h
    refine ⟨u, fun w hw' => ?_, keep a hy u, by rw [← Act.put_comm a v u h2]; exact hn⟩
    have := hu w hw'
    unfold Oper.quietAt at *
    rwa [execOp_put oj hsj a oi.dst v h1] at this
  · rename_i hw
    simp only [hw] at h
    exact ⟨keep a hy _, by rw [← Act.put_comm a v undef h2]; exact h⟩

/-- The one operation whose value hangs on the order: what it hands back is told by R, in every world that differs by new memory. -/
def oddUpon (P : Program) (R : Value → World → Prop) (w : World) : Result Next → Prop
  | .ok (.value u) w' => R u w' ∧ Below w.heap.size w w'
  | .ok (.enter f args) w' => Calls P f args w' fun e w'' => ∃ v, e = .returned v ∧ R v w'' ∧ Below w.heap.size w w''
  | _ => False
def Odd (P : Program) (ops : Array Oper) (W : World) (R : Value → World → Prop) (o : Oper) (a : Act) : Prop :=
  Region.wanted o (yielded ops a.tmps) = true ∧ ∀ u : Up W, oddUpon P R u.w ((execOp a.eval o).run P u.w)
theorem Odd.of_same {R : Value → World → Prop} {o : Oper} {a a' : Act} (hy : Odd P ops W R o a) (he : execOp a'.eval o = execOp a.eval o)
    (hw : Region.wanted o (yielded ops a'.tmps) = Region.wanted o (yielded ops a.tmps)) : Odd P ops W R o a' := by
  unfold Odd at *
  rw [he, hw]
  exact hy

/-- Whatever order is picked: ov: what the odd operation has handed back. -/
def anyLO (P : Program) (md : Region.Mode) (ops : Array Oper) (W : World) (R : Value → World → Prop) (n h : Nat) (oh : Oper) (L : Value → Array Bool → Act → Prop) : Nat → Option Value → Array Bool → Act → Prop
  | 0, none, _, _ => False
  | 0, some v, listed, a => L v listed a
  | f + 1, ov, listed, a => Region.ready md ops listed ≠ [] ∧ ∀ i ∈ Region.ready md ops listed, i < n ∧
      (i = h → Odd P ops W R oh a ∧ ∀ v, anyLO P md ops W R n h oh L f (some v) (listed.setIfInBounds i true) (a.put oh.dst v)) ∧
      (i ≠ h → qOpR P ops W i (anyLO P md ops W R n h oh L f ov (listed.setIfInBounds i true)) a)

theorem wpAny_of_headO {R : Value → World → Prop} (hR : ∀ v w w', R v w → Below w.heap.size w w' → R v w') {n h g : Nat} {oh : Oper} (hoh : ops[h]? = some oh) {L : Value → Array Bool → Act → Prop} {Q' : Exit → Act → World → Prop}
    (hL : ∀ v listed a w, Below W.heap.size W w → R v w → L v listed a → wpAny P md ops Q' g listed a w) :
    ∀ (f : Nat) (ov : Option Value) (listed : Array Bool) (a : Act) (w : World), Below W.heap.size W w → (∀ v, ov = some v → R v w) → anyLO P md ops W R n h oh L f ov listed a → wpAny P md ops Q' (f + g) listed a w
  | 0, none, _, _, _, _, _, hh => hh.elim
  | 0, some v, listed, a, w, hw, hv, hh => by rw [Nat.zero_add]; exact hL v _ _ _ hw (hv v rfl) hh
  | f + 1, ov, listed, a, w, hw, hv, hh => by
    rw [show f + 1 + g = (f + g) + 1 by omega]
    refine ⟨fun h0 => absurd h0 hh.1, fun i hi => ?_⟩
    obtain ⟨_, h1, h2⟩ := hh.2 i hi
    by_cases hih : i = h
    · obtain ⟨⟨hwant, hodd⟩, hnext⟩ := h1 hih
      subst hih
      have ho := hodd ⟨w, hw⟩
      unfold wpOp
      simp only [hoh, hwant, if_true]
      refine .inl ?_
      unfold Oper.wp
      have ho' : oddUpon P R w ((execOp a.eval oh).run P w) := ho
      generalize (execOp a.eval oh).run P w = r at *
      cases r with
      | ok nx w' =>
        cases nx <;> simp only [oddUpon] at ho' <;> simp only [Oper.upon]
        case value u =>
          obtain ⟨hr, hb⟩ := ho'
          exact wpAny_of_headO hR hoh hL f (some u) _ _ _ (hw.trans (hb.mono hw.size)) (by rintro _ ⟨⟩; exact hr) (hnext u)
        case enter f' args =>
          exact ho'.mono fun e w'' ⟨v, he, hr, hb⟩ => by
            subst he
            exact wpAny_of_headO hR hoh hL f (some v) _ _ _ (hw.trans (hb.mono hw.size)) (by rintro _ ⟨⟩; exact hr) (hnext v)
      | halt x w' => simp only [oddUpon] at ho'
    · have h3 := h2 hih
      unfold qOpR at h3
      unfold wpOp
      split
      · rename_i ho; simp only [ho] at h3
        exact wpAny_of_headO hR hoh hL f ov _ _ _ hw hv h3
      · rename_i o ho
        simp only [ho] at h3
        split
        · rename_i hwt
          simp only [hwt, if_true] at h3
          refine .inl ?_
          obtain ⟨v, hq, hn⟩ := h3
          refine Oper.wp_of_quiet (C := fun w' => Below w.heap.size w w') (K := anyLO P md ops W R n h oh L f ov (listed.setIfInBounds i true)) (Below.refl _ _) (fun a' w' hw' hk => ?_) ⟨v, fun w2 hw2 => ?_, hn⟩
          · exact wpAny_of_headO hR hoh hL f ov _ _ _ (hw.trans (hw'.mono hw.size)) (fun v hv' => hR _ _ _ (hv v hv') hw') hk
          · exact quietAt_mono (fun w3 hw3 => hw2.trans (hw3.mono hw2.size)) (hq w2 (hw.trans (hw2.mono hw.size)))
        · rename_i hwt; simp only [hwt] at h3
          exact wpAny_of_headO hR hoh hL f ov _ _ _ hw hv h3

theorem anyLO_first {R : Value → World → Prop} {n h i : Nat} {oh oi : Oper} {v : Value} {L : Value → Array Bool → Act → Prop} (hoh : ops[h]? = some oh) (hi : ops[i]? = some oi) (hih : i ≠ h) (hsel : ∀ (j : Nat) (o : Oper) cs b, ops[j]? = some o → o.op ≠ .select cs b)
    (hs : Region.sinkB md ops n = true) (hc : Region.chainB md ops n = true) (hn : n < ops.size) (hin : i < n)
    (hdone : ∀ v listed a, L v listed a → ∀ j ∈ Region.ready md ops listed, n ≤ j) :
    ∀ (f : Nat) (ov : Option Value) (listed : Array Bool) (a : Act), HeadInv md ops n listed →
      (∀ j oj, ops[j]? = some oj → j ≠ i → listed.getD j true = false → (∀ e ∈ oj.after, Region.binds md e = true → e.on ≠ i) → oi.apart ops oj = true) →
      i ∈ Region.ready md ops listed → YieldsR P ops W oi v a →
      anyLO P md ops W R n h oh L f ov (listed.setIfInBounds i true) (a.put oi.dst v) → anyLO P md ops W R n h oh L (f + 1) ov listed a := by
  intro f
  induction f with
  | zero =>
    intro ov listed a inv _ hr hy H
    have hun := (mem_ready.1 hr).1
    refine ⟨fun h => (by rw [h] at hr; cases hr), fun j hj => ?_⟩
    have hjn : j < n := by
      rcases Nat.lt_or_ge j n with h | h
      · exact h
      · exact absurd hj (tail_waits hs hc hn inv _ i rfl hin hun j h)
    cases ov with
    | none => exact H.elim
    | some u =>
      refine ⟨hjn, fun hjh => ?_, fun hjh => ?_⟩
      · have hji : j ≠ i := fun h => hih (h ▸ hjh)
        have := hdone _ _ _ H j (ready_mono hj hji)
        omega
      · by_cases hji : j = i
        · subst hji; exact hy.qOp hi H
        · have := hdone _ _ _ H j (ready_mono hj hji)
          omega
  | succ f ih =>
    intro ov listed a inv hfree hr hy H
    have hun := (mem_ready.1 hr).1
    refine ⟨fun h => (by rw [h] at hr; cases hr), fun j hj => ?_⟩
    have hjn : j < n := by
      rcases Nat.lt_or_ge j n with h | h
      · exact h
      · exact absurd hj (tail_waits hs hc hn inv _ i rfl hin hun j h)
    have hnot : ∀ oj, ops[j]? = some oj → ∀ e ∈ oj.after, Region.binds md e = true → e.on ≠ i := fun oj hoj e he hb heq => by
      obtain ⟨hjun, oj', hoj', hall⟩ := mem_ready.1 hj
      rw [hoj] at hoj'
      obtain rfl := Option.some.inj hoj'
      have h1 := hall e he hb
      rw [heq, getD_both hun] at h1
      cases h1
    have hjun := (mem_ready.1 hj).1
    have hfree' : ∀ k ok, ops[k]? = some ok → k ≠ i → (listed.setIfInBounds j true).getD k true = false →
        (∀ e ∈ ok.after, Region.binds md e = true → e.on ≠ i) → oi.apart ops ok = true := fun k ok hk hki hun hno => by
      refine hfree k ok hk hki ?_ hno
      by_cases hjk : j = k
      · subst hjk; exact hjun
      · rw [getD_set_ne true hjk] at hun; exact hun
    refine ⟨hjn, fun hjh => ?_, fun hjh => ?_⟩
    · subst hjh
      have hji : j ≠ i := fun h => hih h.symm
      obtain ⟨h1, h2⟩ := (H.2 j (ready_mono hj hji)).2.1 rfl
      obtain ⟨p1, p2, p3⟩ := Oper.apart_spec (hfree j oh hoh hji hjun (hnot oh hoh))
      refine ⟨h1.of_same (execOp_put oh (fun cs b => hsel j oh cs b hoh) a oi.dst v p1).symm (wanted_put oh a oi.dst v p1).symm, fun u => ?_⟩
      refine ih (some u) (listed.setIfInBounds j true) _ (inv.set hj hjn) hfree' (ready_mono hr (Ne.symm hji)) (hy.of_same (execOp_put oi (fun cs b => hsel i oi cs b hi) a oh.dst u p3) (wanted_put oi a oh.dst u p3)) ?_
      rw [Array.setIfInBounds_comm _ _ hji, ← Act.put_comm a v u p2]
      exact h2 u
    · by_cases hji : j = i
      · subst hji; exact hy.qOp hi H
      · have h1 := (H.2 j (ready_mono hj hji)).2.2 hjh
        obtain ⟨_, oj, hoj, hall⟩ := mem_ready.1 hj
        have h2 := qOpR_put hoj (hfree j oj hoj hji hjun (hnot oj hoj)) (fun cs b => hsel i oi cs b hi) (fun cs b => hsel j oj cs b hoj) hy h1
        refine qOpR_mono (fun a' h3 => ih ov (listed.setIfInBounds j true) a' (inv.set hj hjn) hfree' (ready_mono hr (Ne.symm hji)) h3.1 ?_) h2
        rw [Array.setIfInBounds_comm _ _ hji]
        exact h3.2

def lexO (md : Region.Mode) (ops : Array Oper) (g n h : Nat) : Nat → Nat → Array Bool → Bool
  | 0, _, listed => decide (Region.ready md ops listed = [h]) && Region.seqB md ops g n (listed.setIfInBounds h true)
  | f + 1, k, listed => let i := if k < h then k else k + 1
    (Region.ready md ops listed).contains i && Region.free md ops listed i && lexO md ops g n h f (k + 1) (listed.setIfInBounds i true)

theorem anyLO_lex {R : Value → World → Prop} {n h g : Nat} {oh : Oper} {Lq : Act → Prop} {Lt : Value → Act → Prop} (hoh : ops[h]? = some oh) (hhn : h < n) (hsel : Region.noSelect ops = true) (hs : Region.sinkB md ops n = true) (hc : Region.chainB md ops n = true) (hn : n < ops.size)
    (hLq : ∀ a, Lq a → Odd P ops W R oh a ∧ ∀ v, Lt v (a.put oh.dst v)) :
    ∀ (l : List Oper) (k : Nat) (listed : Array Bool) (a : Act), (∀ j, j < l.length → l[j]? = ops[if k + j < h then k + j else k + j + 1]?) → k + l.length + 1 = n → HeadInv md ops n listed →
    lexO md ops g n h l.length k listed = true → wpQuietR P ops W Lq l a →
    anyLO P md ops W R n h oh (fun v listed' a' => Region.seqB md ops g n listed' = true ∧ Lt v a') (l.length + 1) none listed a
  | [], k, listed, a, _, hk, inv, hB, hh => by
    simp only [List.length_nil, lexO, Bool.and_eq_true, decide_eq_true_eq] at hB
    obtain ⟨hB1, hB2⟩ := hB
    obtain ⟨h1, h2⟩ := hLq a hh
    refine ⟨by rw [hB1]; simp, fun i hi => ?_⟩
    rw [hB1] at hi
    have : i = h := by simpa using hi
    subst this
    exact ⟨hhn, fun _ => ⟨h1, fun v => ⟨hB2, h2 v⟩⟩, fun hne => absurd rfl hne⟩
  | o :: l, k, listed, a, hl, hk, inv, hB, hh => by
    have h0 : ops[if k < h then k else k + 1]? = some o := by simpa using (hl 0 (by simp)).symm
    simp only [List.length_cons, lexO, Bool.and_eq_true] at hB
    obtain ⟨⟨hr, hf⟩, hB'⟩ := hB
    have hkn : (if k < h then k else k + 1) < n := by simp only [List.length_cons] at hk; split <;> omega
    have hkh : (if k < h then k else k + 1) ≠ h := by split <;> omega
    generalize hi : (if k < h then k else k + 1) = i at *
    have hr' : i ∈ Region.ready md ops listed := by simpa using hr
    have hst : qOpR P ops W i (wpQuietR P ops W Lq l) a := by unfold qOpR; simp only [h0]; exact hh
    obtain ⟨v, hy, hK⟩ := yieldsR_of_qOp h0 hst
    exact anyLO_first hoh h0 hkh (Region.noSelect_spec hsel) hs hc hn hkn (fun v listed' a' hL => seqB_ready hL.1) (l.length + 1) none listed a inv (Region.free_spec h0 hf) hr' hy
      (anyLO_lex hoh hhn hsel hs hc hn hLq l (k + 1) _ _ (fun j hj => by have := hl (j + 1) (by simp; omega); simpa [Nat.add_assoc, Nat.add_comm 1 j] using this) (by simp only [List.length_cons] at hk; omega) (inv.set hr' hkn) hB' hK)

def lexOddB (md : Region.Mode) (ops : Array Oper) (n h : Nat) : Bool :=
  Region.noSelect ops && decide (n < ops.size) && decide (h < n) && Region.sinkB md ops n && Region.chainB md ops n && lexO md ops (ops.size - n) n h (n - 1) 0 (Array.replicate ops.size false)

theorem eraseIdx_at {α : Type} (l : List α) (n h j : Nat) (hh : h < n) (hn : n ≤ l.length) (hj : j < ((l.take n).eraseIdx h).length) : ((l.take n).eraseIdx h)[j]? = l[if j < h then j else j + 1]? := by
  have hlen : ((l.take n).eraseIdx h).length = n - 1 := by rw [List.length_eraseIdx]; simp; split <;> omega
  rw [List.getElem?_eraseIdx]
  split
  · rename_i hjh; rw [List.getElem?_take, if_pos (by omega)]
  · rename_i hjh; rw [List.getElem?_take, if_pos (by omega)]

/-- The first n operations in whatever order, number h among them odd; the others follow one another. -/
theorem wp_region_up_odd {id : Nat} {Q : Exit → Act → World → Prop} {a : Act} {w : World} {l : List Oper} (n h : Nat) (oh : Oper) (R : Value → World → Prop) (hm : P.follows .mixedOrders = true) (hB : lexOddB .any l.toArray n h = true)
    (hoh : l[h]? = some oh) (hR : ∀ v w w', R v w → Below w.heap.size w w' → R v w')
    (H : ∀ X : Up w, wpQuiet P l.toArray (fun w' => ∃ u : Up X.w, w' = u.w) (fun a' => Odd P l.toArray w R oh a' ∧ ∀ v (u : Up w), R v u.w → wpList P l.toArray Q (l.drop n) (a'.put oh.dst v) u.w) ((l.take n).eraseIdx h) a) : (Code.region id l.toArray true).wp P Q a w := by
  simp only [lexOddB, Bool.and_eq_true, decide_eq_true_eq] at hB
  obtain ⟨⟨⟨⟨⟨hsel, hn⟩, hhn⟩, hs⟩, hc⟩, hlex⟩ := hB
  have hn' : n < l.length := by simpa using hn
  have htl : ((l.take n).eraseIdx h).length = n - 1 := by rw [List.length_eraseIdx]; simp; split <;> omega
  have hdl : (l.drop n).length = l.toArray.size - n := by simp
  have inv0 : HeadInv .any l.toArray n (Array.replicate l.toArray.size false) :=
    ⟨by simp, fun j oj _ hl => (by rw [getD_replicate_false] at hl; cases hl), fun t _ ht => getD_in (by simpa using ht) (getD_replicate_false _ _)⟩
  have H' := wpQuietR_of _ _ H
  have H2 := anyLO_lex (md := .any) (g := l.toArray.size - n) (R := R) (oh := oh) (h := h) (Lt := fun v a' => ∀ u : Up w, R v u.w → wpList P l.toArray Q (l.drop n) a' u.w) (by simpa using hoh) hhn hsel hs hc hn
    (fun a' hq => ⟨(hq ⟨w, Below.refl _ _⟩).1, fun v u hr => (hq ⟨w, Below.refl _ _⟩).2 v u hr⟩) ((l.take n).eraseIdx h) 0 _ a (fun j hj => by
      have := eraseIdx_at l n h j hhn (by omega) hj
      rw [this]; simp) (by rw [htl]; omega) inv0 (by rw [htl]; exact hlex) H'
  refine wp_region_any hm ?_
  have := wpAny_of_headO (md := .any) (W := w) (n := n) (Q' := Q) (g := l.toArray.size - n) hR (by simpa using hoh) (fun v listed a' w' hw' hr hL => by
    have := wpAny_of_seq (md := .any) (Q' := Q) (l.drop n) n listed a' w' (fun j => by simp [List.getElem?_drop]) (by rw [hdl]; exact hL.1) (hL.2 ⟨w', hw'⟩ hr)
    rwa [hdl] at this) _ none _ _ { w with drawn := w.drawn + 1 } ((Below.refl _ w).drew) (by simp) H2
  rw [htl, show n - 1 + 1 + (l.toArray.size - n) = l.toArray.size by simp; omega] at this
  exact this

/-- A block that was laid in the region, somewhere: with these cells. -/
def LaidAt (W : World) (o : Obj) (v : Value) (w : World) : Prop := ∃ q, v = .pointer (some ⟨q, 0, none⟩) ∧ W.heap.size ≤ q ∧ w.heap[q]? = some o
theorem LaidAt.keeps {W : World} {o : Obj} (v : Value) (w w' : World) (h : LaidAt W o v w) (hb : Below w.heap.size w w') : LaidAt W o v w' := by
  obtain ⟨q, hv, hq, hc⟩ := h
  exact ⟨q, hv, hq, by rw [hb.block _ (Array.getElem?_eq_some_iff.1 hc).1]; exact hc⟩
theorem heap_alloc_here (w : World) (o : Obj) : (w.alloc o).heap[w.heap.size]? = some o := by
  have e : (w.alloc o).heap = w.heap.push o := rfl
  rw [e]; simp
theorem LaidAt.mk {W : World} (u : Up W) (o : Obj) : LaidAt W o (.pointer (some ⟨u.w.heap.size, 0, none⟩)) (u.w.alloc o) :=
  ⟨_, rfl, u.bel.size, heap_alloc_here u.w o⟩
/-- The same where the odd one is an allocation. -/
theorem wp_region_up_alloc {id : Nat} {Q : Exit → Act → World → Prop} {a : Act} {w : World} {l : List Oper} (n h : Nat) {oh : Oper} {o : Obj} (hm : P.follows .mixedOrders = true) (hB : lexOddB .any l.toArray n h = true)
    (hoh : l[h]? = some oh) (hg : oh.guard = none) (hal : ∀ (a : Act) (w : World), (execOp a.eval oh).run P w = .ok (.value (.pointer (some ⟨w.heap.size, 0, none⟩))) (w.alloc o))
    (H : ∀ X : Up w, wpQuiet P l.toArray (fun w' => ∃ u : Up X.w, w' = u.w) (fun a' => ∀ (q : Nat) (u : Up w), w.heap.size ≤ q → u.w.heap[q]? = some o → wpList P l.toArray Q (l.drop n) (a'.put oh.dst (.pointer (some ⟨q, 0, none⟩))) u.w) ((l.take n).eraseIdx h) a) : (Code.region id l.toArray true).wp P Q a w :=
  wp_region_up_odd n h oh (LaidAt w o) hm hB hoh LaidAt.keeps fun X => wpQuiet_mono (fun a' h' => ⟨⟨by simp [Region.wanted, hg], fun u => by rw [hal]; exact ⟨LaidAt.mk u _, (Below.refl _ _).alloc (Nat.le_refl _) _⟩⟩, by
    rintro _ u ⟨q, rfl, hq, hc⟩; exact h' q u hq hc⟩) _ _ (H X)
theorem laid_cell {w : World} {q : Nat} {cs : Array Value} {t : TypeId} {f : Nat × Nat} (h : w.heap[q]? = some (.cells cs t f)) (i : Nat) {v : Value} (hv : cs[i]? = some v) : w.cell? ⟨q, i, none⟩ = some v := by
  simp [World.cell?, h, hv]
theorem laid_open {w : World} {q : Nat} {cs : Array Value} {t : TypeId} (h : w.heap[q]? = some (.cells cs t (0, 0))) (i : Nat) : w.frozen? ⟨q, i, none⟩ = false := by
  simp [World.frozen?, h]
theorem laid_le {w : World} {q : Nat} {o : Obj} (h : w.heap[q]? = some o) : LeSize (q + 1) w := ⟨(Array.getElem?_eq_some_iff.1 h).1⟩
end
theorem heap_past {w : World} (o : Obj) (b : Nat) [h : LeSize (b + 1) w] : (w.alloc o).heap[b]? = w.heap[b]? := Below.heap_alloc _ _ _ h.out
theorem Up.heap {W : World} (u : Up W) (b : Nat) [h : LeSize (b + 1) W] : u.w.heap[b]? = W.heap[b]? := u.bel.block _ h.out
end Go.Proofs.Ytbnbakienajhmaa
