/- A region that draws its order: reads, calls that make memory at most, and operations whose value hangs on the order (allocations, slices built, calls that hand back new memory), walked once in the order of the text; what follows is forced. -/
import Derived.Test.YtbnbakienajhmaaOdd
namespace Go.Proofs.Ytbnbakienajhmaa
open Go.RowKit
set_option linter.unusedVariables false

/-- What stays true where new memory is made. -/
def Stable (p : World → Prop) : Prop := ∀ w w', p w → Below w.heap.size w w' → p w'
/-- What is known of the memory that the operations have made so far, by their numbers. -/
abbrev Env := Nat → Option (World → Prop)
def Env.inv (e : Env) (w : World) : Prop := ∀ h p, e h = some p → p w
def Env.upd (e : Env) (h : Nat) (p : World → Prop) : Env := fun i => if i = h then some p else e i
def Env.on (e : Env) (d : Nat → Bool) : Env := fun i => if d i then e i else none
def Env.stable (e : Env) : Prop := ∀ h p, e h = some p → Stable p
theorem Env.inv_on {e : Env} {d : Nat → Bool} {w : World} (h : e.inv w) : (e.on d).inv w := fun i p hp => by
  unfold Env.on at hp; split at hp
  · exact h i p hp
  · cases hp
theorem Env.inv_stable {e : Env} (h : e.stable) : Stable e.inv := fun w w' hw hb i p hp => h i p hp w w' (hw i p hp) hb
theorem Env.stable_on {e : Env} {d : Nat → Bool} (h : e.stable) : (e.on d).stable := fun i p hp => by
  unfold Env.on at hp; split at hp
  · exact h i p hp
  · cases hp
theorem Env.stable_upd {e : Env} {i : Nat} {p : World → Prop} (h : e.stable) (hp : Stable p) : (e.upd i p).stable := fun j q hq => by
  unfold Env.upd at hq; split at hq
  · cases hq; exact hp
  · exact h j q hq
theorem Env.upd_on {e : Env} {i : Nat} {p : World → Prop} {d : Nat → Bool} (h : d i = false) : (e.upd i p).on d = e.on d := by
  funext j; unfold Env.on Env.upd
  by_cases hj : j = i
  · subst hj; simp [h]
  · simp [hj]
theorem Env.upd_comm {e : Env} {i j : Nat} {p q : World → Prop} (h : i ≠ j) : (e.upd i p).upd j q = (e.upd j q).upd i p := by
  funext k; unfold Env.upd
  by_cases h1 : k = j
  · subst h1; simp [Ne.symm h]
  · simp [h1]
theorem Env.inv_of_upd {e : Env} {i : Nat} {p : World → Prop} {w : World} (h0 : e i = none) (h : (e.upd i p).inv w) : e.inv w := fun j q hq => by
  refine h j q ?_
  unfold Env.upd
  rw [if_neg (fun hj => by subst hj; rw [h0] at hq; cases hq)]
  exact hq
theorem Env.inv_upd {e : Env} {i : Nat} {p : World → Prop} {w : World} (h : e.inv w) (hp : p w) : (e.upd i p).inv w := fun j q hq => by
  unfold Env.upd at hq; split at hq
  · cases hq; exact hp
  · exact h j q hq
theorem Env.upd_inv {e : Env} {i : Nat} {p : World → Prop} {w : World} (h : (e.upd i p).inv w) : p w := h i p (by simp [Env.upd])

/-- The worlds that differ by new memory, in which Z holds. -/
def UpZ (W : World) (Z : World → Prop) : Type := { u : Up W // Z u.w }
def UpZ.up {W : World} {Z : World → Prop} (u : UpZ W Z) : Up W := u.1
theorem UpZ.z {W : World} {Z : World → Prop} (u : UpZ W Z) : Z u.up.w := u.2
def UpZ.step {W : World} {Z : World → Prop} (hZ : Stable Z) (u : UpZ W Z) (w' : World) (hb : Below u.up.w.heap.size u.up.w w') : UpZ W Z := ⟨⟨w', u.up.bel.trans (hb.mono u.up.bel.size)⟩, hZ _ _ u.z hb⟩

section
variable {P : Program} {ops : Array Oper} {md : Region.Mode} {W : World}
theorem UpZ.calls {f : FuncId} {args : Array Value} {Z : World → Prop} (hZ : Stable Z) {u : UpZ W Z} {v : Value}
    (h : Calls P f args u.up.w fun e w' => e = .returned v ∧ Below u.up.w.heap.size u.up.w w') : Calls P f args u.up.w fun e w' => e = .returned v ∧ ∃ u' : UpZ W Z, w' = u'.up.w :=
  h.mono fun _ w' ⟨he, hb⟩ => ⟨he, u.step hZ w' hb, rfl⟩
theorem UpZ.pure {f : FuncId} {args : Array Value} {Z : World → Prop} {u : UpZ W Z} {v : Value}
    (h : Calls P f args u.up.w fun e w' => e = .returned v ∧ u.up.w = w') : Calls P f args u.up.w fun e w' => e = .returned v ∧ ∃ u' : UpZ W Z, w' = u'.up.w :=
  h.mono fun _ _ ⟨he, hw⟩ => ⟨he, u, hw.symm⟩

/-- Does operation j wait for operation h, itself or by others? -/
def waitsT (md : Region.Mode) (ops : Array Oper) : Nat → Nat → Nat → Bool
  | 0, _, _ => false
  | f + 1, j, h => match ops[j]? with
    | none => false
    | some oj => oj.after.any fun e => Region.binds md e && (e.on == h || waitsT md ops f e.on h)
theorem waitsT_listed {n : Nat} {listed : Array Bool} (inv : HeadInv md ops n listed) : ∀ (f j h : Nat), listed.getD j false = true → waitsT md ops f j h = true → listed.getD h false = true
  | 0, _, _, _, hw => by simp [waitsT] at hw
  | f + 1, j, h, hl, hw => by
    unfold waitsT at hw
    split at hw
    · cases hw
    · rename_i oj hoj
      obtain ⟨e, he, hb⟩ := Array.any_eq_true'.1 hw
      simp only [Bool.and_eq_true, Bool.or_eq_true, beq_iff_eq] at hb
      have h1 := inv.closed j oj hoj hl e he hb.1
      rcases hb.2 with rfl | h2
      · exact h1
      · exact waitsT_listed inv f e.on h h1 h2
theorem waitsT_ready {n : Nat} {listed : Array Bool} (inv : HeadInv md ops n listed) {f j h : Nat} (hr : j ∈ Region.ready md ops listed) (hw : waitsT md ops f j h = true) : listed.getD h false = true := by
  cases f with
  | zero => simp [waitsT] at hw
  | succ f =>
    obtain ⟨_, oj, hoj, hall⟩ := mem_ready.1 hr
    unfold waitsT at hw
    rw [hoj] at hw
    obtain ⟨e, he, hb⟩ := Array.any_eq_true'.1 hw
    simp only [Bool.and_eq_true, Bool.or_eq_true, beq_iff_eq] at hb
    have h1 := hall e he hb.1
    rcases hb.2 with rfl | h2
    · exact h1
    · exact waitsT_listed inv f e.on h h1 h2
def depB (md : Region.Mode) (ops : Array Oper) (deps : List (Nat × Nat)) : Bool := deps.all fun x => waitsT md ops ops.size x.1 x.2
def dep (deps : List (Nat × Nat)) (j h : Nat) : Bool := deps.contains (j, h)
theorem dep_ready {deps : List (Nat × Nat)} (hd : depB md ops deps = true) {n : Nat} {listed : Array Bool} (inv : HeadInv md ops n listed) {j h : Nat} (hr : j ∈ Region.ready md ops listed) (hu : listed.getD h false = false) : dep deps j h = false := by
  cases hc : dep deps j h with
  | false => rfl
  | true =>
    unfold dep at hc
    have hm := List.contains_iff_mem.1 hc
    have := List.all_eq_true.1 hd _ hm
    have := waitsT_ready inv hr this
    rw [hu] at this
    cases this

abbrev RcT := FuncId → Array Value → Value → World → Prop
/-- What an operation whose value hangs on the order has handed back. -/
def RS (P : Program) (W : World) (Rc : RcT) (s : Sem Next) (v : Value) (w : World) : Prop :=
  ∃ u : Up W, match s.run P u.w with
    | .ok (.value x) w1 => x = v ∧ Below w1.heap.size w1 w
    | .ok (.enter f args) _ => Rc f args v w
    | _ => False
theorem RS.stable {Rc : RcT} (hRc : ∀ f args v, Stable (Rc f args v)) (s : Sem Next) (v : Value) : Stable (RS P W Rc s v) := by
  rintro w w' ⟨u, h⟩ hb
  refine ⟨u, ?_⟩
  generalize s.run P u.w = r at *
  split at h
  · rename_i w1; exact ⟨h.1, h.2.trans (hb.mono h.2.size)⟩
  · exact hRc _ _ _ _ _ h hb
  · exact h

def oddUp (P : Program) (Rc : RcT) (w : World) : Result Next → Prop
  | .ok (.value u) w' => Below w.heap.size w w'
  | .ok (.enter f args) w' => w' = w ∧ Calls P f args w fun e w'' => ∃ v, e = .returned v ∧ Rc f args v w'' ∧ Below w.heap.size w w''
  | _ => False
def OddE (P : Program) (ops : Array Oper) (W : World) (Rc : RcT) (I : World → Prop) (o : Oper) (a : Act) : Prop :=
  Region.wanted o (yielded ops a.tmps) = true ∧ ∀ u : Up W, I u.w → oddUp P Rc u.w ((execOp a.eval o).run P u.w)
theorem OddE.of_same {Rc : RcT} {I : World → Prop} {o : Oper} {a a' : Act} (hy : OddE P ops W Rc I o a) (he : execOp a'.eval o = execOp a.eval o)
    (hw : Region.wanted o (yielded ops a'.tmps) = Region.wanted o (yielded ops a.tmps)) : OddE P ops W Rc I o a' := by
  unfold OddE at *
  rw [he, hw]
  exact hy
theorem OddE.some {Rc : RcT} {I : World → Prop} {o : Oper} {a : Act} (h : OddE P ops W Rc I o a) (u : Up W) (hu : I u.w) : ∃ v, ∃ u' : Up W, Below u.w.heap.size u.w u'.w ∧ RS P W Rc (execOp a.eval o) v u'.w := by
  have ho := h.2 u hu
  generalize hr : (execOp a.eval o).run P u.w = r at ho
  cases r with
  | ok nx w' =>
    cases nx <;> simp only [oddUp] at ho
    case value x => exact ⟨x, ⟨w', u.bel.trans (ho.mono u.bel.size)⟩, ho, u, by rw [hr]; exact ⟨rfl, Below.refl _ _⟩⟩
    case enter f args =>
      obtain ⟨rfl, hc⟩ := ho
      obtain ⟨_, w2, _, ⟨v, rfl, hv, hb⟩, _⟩ := hc []
      exact ⟨v, ⟨w2, u.bel.trans (hb.mono u.bel.size)⟩, hb, u, by rw [hr]; exact hv⟩
  | halt x w' => simp only [oddUp] at ho

def quietE (P : Program) (W : World) (I : World → Prop) (o : Oper) (a : Act) (next : Act → Prop) : Prop :=
  ∀ Z : World → Prop, Stable Z → (∀ w, Z w → I w) → Nonempty (UpZ W Z) → o.quiet P a (fun w' => ∃ u : UpZ W Z, w' = u.up.w) next
def wpE (P : Program) (ops : Array Oper) (W : World) (odd : List Nat) (deps : List (Nat × Nat)) (Rc : RcT) (Q : Env → Act → Prop) : List Oper → Nat → Env → Act → Prop
  | [], _, e, a => Q e a
  | o :: l, k, e, a =>
    if odd.contains k then OddE P ops W Rc (e.on (dep deps k)).inv o a ∧ ∀ v, (∃ u : Up W, RS P W Rc (execOp a.eval o) v u.w) → wpE P ops W odd deps Rc Q l (k + 1) (e.upd k (RS P W Rc (execOp a.eval o) v)) (a.put o.dst v)
    else if Region.wanted o (yielded ops a.tmps) then quietE P W (e.on (dep deps k)).inv o a (wpE P ops W odd deps Rc Q l (k + 1) e)
    else wpE P ops W odd deps Rc Q l (k + 1) e (a.put o.dst undef)
theorem wpE_skip {odd : List Nat} {deps : List (Nat × Nat)} {Rc : RcT} {Q : Env → Act → Prop} {o : Oper} {l : List Oper} {k : Nat} {e : Env} {a : Act} (ho : odd.contains k = false) (hw : Region.wanted o (yielded ops a.tmps) = false)
    (h : wpE P ops W odd deps Rc Q l (k + 1) e (a.put o.dst undef)) : wpE P ops W odd deps Rc Q (o :: l) k e a := by
  unfold wpE
  rw [if_neg (by rw [ho]; exact Bool.false_ne_true), if_neg (by rw [hw]; exact Bool.false_ne_true)]
  exact h
theorem wpE_want {odd : List Nat} {deps : List (Nat × Nat)} {Rc : RcT} {Q : Env → Act → Prop} {o : Oper} {l : List Oper} {k : Nat} {e : Env} {a : Act} (ho : odd.contains k = false) (hw : Region.wanted o (yielded ops a.tmps) = true)
    (h : ∀ Z : World → Prop, Stable Z → (∀ w, Z w → (e.on (dep deps k)).inv w) → Nonempty (UpZ W Z) → ∀ K : Act → Prop, (∀ a, wpE P ops W odd deps Rc Q l (k + 1) e a → K a) → o.quiet P a (fun w' => ∃ u : UpZ W Z, w' = u.up.w) K) : wpE P ops W odd deps Rc Q (o :: l) k e a := by
  unfold wpE
  rw [if_neg (by rw [ho]; exact Bool.false_ne_true), if_pos hw]
  exact fun Z h1 h2 h3 => h Z h1 h2 h3 _ fun _ h => h
theorem wpE_odd {odd : List Nat} {deps : List (Nat × Nat)} {Rc : RcT} {Q : Env → Act → Prop} {o : Oper} {l : List Oper} {k : Nat} {e : Env} {a : Act} (ho : odd.contains k = true) (hw : Region.wanted o (yielded ops a.tmps) = true)
    (h1 : ∀ u : Up W, (e.on (dep deps k)).inv u.w → oddUp P Rc u.w ((execOp a.eval o).run P u.w))
    (h : ∀ v, (∃ u : Up W, RS P W Rc (execOp a.eval o) v u.w) → wpE P ops W odd deps Rc Q l (k + 1) (e.upd k (RS P W Rc (execOp a.eval o) v)) (a.put o.dst v)) : wpE P ops W odd deps Rc Q (o :: l) k e a := by
  unfold wpE
  rw [if_pos ho]
  exact ⟨⟨hw, h1⟩, h⟩

def qOpE (P : Program) (ops : Array Oper) (W : World) (deps : List (Nat × Nat)) (e : Env) (i : Nat) (K : Act → Prop) (a : Act) : Prop :=
  match ops[i]? with
  | none => K a
  | some o => if Region.wanted o (yielded ops a.tmps) then quietE P W (e.on (dep deps i)).inv o a K else K (a.put o.dst undef)
def YieldsE (P : Program) (ops : Array Oper) (W : World) (I : World → Prop) (o : Oper) (v : Value) (a : Act) : Prop :=
  (Region.wanted o (yielded ops a.tmps) = true ∧ ∀ Z : World → Prop, Stable Z → (∀ w, Z w → I w) → ∀ u : UpZ W Z, o.quietAt P a (fun w' => ∃ u : UpZ W Z, w' = u.up.w) u.up.w v) ∨
  (Region.wanted o (yielded ops a.tmps) = false ∧ v = undef)
theorem YieldsE.qOp {deps : List (Nat × Nat)} {e : Env} {i : Nat} {o : Oper} {v : Value} {a : Act} (hi : ops[i]? = some o) (hy : YieldsE P ops W (e.on (dep deps i)).inv o v a) {K : Act → Prop} (h : K (a.put o.dst v)) : qOpE P ops W deps e i K a := by
  unfold qOpE
  simp only [hi]
  rcases hy with ⟨hw, hv⟩ | ⟨hw, rfl⟩
  · simp only [hw, if_true]
    exact fun Z h1 h2 _ => ⟨v, fun w => by rintro ⟨u, rfl⟩; exact hv Z h1 h2 u, h⟩
  · simp only [hw, Bool.false_eq_true, if_false]; exact h
theorem YieldsE.of_same {I : World → Prop} {o : Oper} {v : Value} {a a' : Act} (hy : YieldsE P ops W I o v a) (he : execOp a'.eval o = execOp a.eval o)
    (hw : Region.wanted o (yielded ops a'.tmps) = Region.wanted o (yielded ops a.tmps)) : YieldsE P ops W I o v a' := by
  unfold YieldsE Oper.quietAt at *
  rw [he, hw]
  exact hy
theorem YieldsE.less {I I' : World → Prop} {o : Oper} {v : Value} {a : Act} (hy : YieldsE P ops W I o v a) (h : ∀ w, I' w → I w) : YieldsE P ops W I' o v a := by
  rcases hy with ⟨hw, hv⟩ | ⟨hw, rfl⟩
  · exact .inl ⟨hw, fun Z h1 h2 => hv Z h1 fun w hz => h w (h2 w hz)⟩
  · exact .inr ⟨hw, rfl⟩
theorem YieldsE.one {I : World → Prop} (hI : Stable I) {o : Oper} {v v' : Value} {a : Act} (u : Up W) (hu : I u.w) (h : YieldsE P ops W I o v a) (h' : YieldsE P ops W I o v' a) : v = v' := by
  rcases h with ⟨hw, hv⟩ | ⟨hw, rfl⟩
  · rcases h' with ⟨_, hv'⟩ | ⟨hw', _⟩
    · exact quietAt_one (hv I hI (fun _ h => h) ⟨u, hu⟩) (hv' I hI (fun _ h => h) ⟨u, hu⟩)
    · rw [hw] at hw'; cases hw'
  · rcases h' with ⟨hw', _⟩ | ⟨_, h⟩
    · rw [hw] at hw'; cases hw'
    · exact h.symm
theorem yieldsE_of_qOp {deps : List (Nat × Nat)} {e : Env} (he : e.stable) (hne : ∃ u : Up W, e.inv u.w) {i : Nat} {o : Oper} {a : Act} {K : Act → Prop} (hi : ops[i]? = some o) (h : qOpE P ops W deps e i K a) : ∃ v, YieldsE P ops W (e.on (dep deps i)).inv o v a ∧ K (a.put o.dst v) := by
  unfold qOpE at h
  simp only [hi] at h
  by_cases hw : Region.wanted o (yielded ops a.tmps) = true
  · simp only [hw, if_true] at h
    obtain ⟨u0, hu0⟩ := hne
    obtain ⟨v, h1, h2⟩ := h _ (Env.inv_stable (Env.stable_on he)) (fun _ h => h) ⟨⟨u0, Env.inv_on hu0⟩⟩
    refine ⟨v, .inl ⟨hw, fun Z hZ hI u => ?_⟩, h2⟩
    obtain ⟨v', h3, _⟩ := h Z hZ hI ⟨u⟩
    have e1 := h3 _ ⟨u, rfl⟩
    have e2 := h1 u.up.w ⟨⟨u.up, hI _ u.z⟩, rfl⟩
    have : v' = v := quietAt_one e1 e2
    subst this
    exact e1
  · simp only [hw] at h
    exact ⟨undef, .inr ⟨by simpa using hw, rfl⟩, h⟩
theorem qOpE_mono {deps : List (Nat × Nat)} {e : Env} {i : Nat} {a : Act} {K K' : Act → Prop} (h : ∀ a, K a → K' a) (hh : qOpE P ops W deps e i K a) : qOpE P ops W deps e i K' a := by
  unfold qOpE at *
  split
  · exact h _ (by simpa [*] using hh)
  · rename_i o ho
    simp only [ho] at hh
    split
    · rename_i hw; simp only [hw, if_true] at hh; exact fun Z h1 h2 h3 => Oper.quiet_mono h (hh Z h1 h2 h3)
    · rename_i hw; simp only [hw] at hh; exact h _ hh

def anyE (P : Program) (md : Region.Mode) (ops : Array Oper) (W : World) (odd : List Nat) (deps : List (Nat × Nat)) (Rc : RcT) (n : Nat) (L : Env → Array Bool → Act → Prop) : Nat → Env → Array Bool → Act → Prop
  | 0, e, listed, a => L e listed a
  | f + 1, e, listed, a => Region.ready md ops listed ≠ [] ∧ ∀ i ∈ Region.ready md ops listed, i < n ∧
      (odd.contains i = true → ∀ oi, ops[i]? = some oi → OddE P ops W Rc (e.on (dep deps i)).inv oi a ∧
        ∀ v, (∃ u : Up W, (e.upd i (RS P W Rc (execOp a.eval oi) v)).inv u.w) → anyE P md ops W odd deps Rc n L f (e.upd i (RS P W Rc (execOp a.eval oi) v)) (listed.setIfInBounds i true) (a.put oi.dst v)) ∧
      (odd.contains i = false → qOpE P ops W deps e i (anyE P md ops W odd deps Rc n L f e (listed.setIfInBounds i true)) a)

theorem wpAny_of_anyE {odd : List Nat} {deps : List (Nat × Nat)} {Rc : RcT} (hRc : ∀ f args v, Stable (Rc f args v)) {n g : Nat} {L : Env → Array Bool → Act → Prop} {Q' : Exit → Act → World → Prop}
    (hL : ∀ e listed a w, Below W.heap.size W w → e.inv w → L e listed a → wpAny P md ops Q' g listed a w) :
    ∀ (f : Nat) (e : Env) (listed : Array Bool) (a : Act) (w : World), Below W.heap.size W w → e.stable → e.inv w → anyE P md ops W odd deps Rc n L f e listed a → wpAny P md ops Q' (f + g) listed a w
  | 0, e, listed, a, w, hw, _, hv, hh => by rw [Nat.zero_add]; exact hL e _ _ _ hw hv hh
  | f + 1, e, listed, a, w, hw, hst, hv, hh => by
    rw [show f + 1 + g = (f + g) + 1 by omega]
    refine ⟨fun h0 => absurd h0 hh.1, fun i hi => ?_⟩
    obtain ⟨_, h1, h2⟩ := hh.2 i hi
    obtain ⟨_, oi, hoi, _⟩ := mem_ready.1 hi
    cases hodd : odd.contains i with
    | true =>
      obtain ⟨⟨hwant, ho⟩, hnext⟩ := h1 hodd oi hoi
      have ho' := ho ⟨w, hw⟩ (Env.inv_on hv)
      unfold wpOp
      simp only [hoi, hwant, if_true]
      refine .inl ?_
      unfold Oper.wp
      have ho2 : oddUp P Rc w ((execOp a.eval oi).run P w) := ho'
      generalize hr : (execOp a.eval oi).run P w = r at *
      cases r with
      | ok nx w' =>
        cases nx <;> simp only [oddUp] at ho2 <;> simp only [Oper.upon]
        case value x =>
          have hw' := hw.trans (ho2.mono hw.size)
          have hrs : RS P W Rc (execOp a.eval oi) x w' := ⟨⟨w, hw⟩, by
            show match (execOp a.eval oi).run P w with
              | .ok (.value x') w1 => x' = x ∧ Below w1.heap.size w1 w'
              | .ok (.enter f args) _ => Rc f args x w'
              | _ => False
            rw [hr]; exact ⟨rfl, Below.refl _ _⟩⟩
          have hi' := Env.inv_upd (i := i) (Env.inv_stable hst _ _ hv ho2) hrs
          exact wpAny_of_anyE hRc hL f _ _ _ _ hw' (Env.stable_upd hst (RS.stable hRc _ _)) hi' (hnext x ⟨⟨w', hw'⟩, hi'⟩)
        case enter f' args =>
          obtain ⟨rfl, hc⟩ := ho2
          refine hc.mono fun en w'' ⟨v, he, hrc, hb⟩ => ?_
          subst he
          have hw' := hw.trans (hb.mono hw.size)
          have hrs : RS P W Rc (execOp a.eval oi) v w'' := ⟨⟨w', hw⟩, by
            show match (execOp a.eval oi).run P w' with
              | .ok (.value x') w1 => x' = v ∧ Below w1.heap.size w1 w''
              | .ok (.enter f args) _ => Rc f args v w''
              | _ => False
            rw [hr]; exact hrc⟩
          have hi' := Env.inv_upd (i := i) (Env.inv_stable hst _ _ hv hb) hrs
          exact wpAny_of_anyE hRc hL f _ _ _ _ hw' (Env.stable_upd hst (RS.stable hRc _ _)) hi' (hnext v ⟨⟨w'', hw'⟩, hi'⟩)
      | halt x w' => simp only [oddUp] at ho2
    | false =>
      have h3 := h2 hodd
      unfold qOpE at h3
      unfold wpOp
      simp only [hoi] at h3 ⊢
      split
      · rename_i hwt
        simp only [hwt, if_true] at h3
        refine .inl ?_
        refine Oper.wp_of_quiet (C := fun w' => ∃ u : UpZ W e.inv, w' = u.up.w) (K := anyE P md ops W odd deps Rc n L f e (listed.setIfInBounds i true)) ⟨⟨⟨w, hw⟩, hv⟩, rfl⟩ (fun a' w' hw' hk => ?_) (h3 e.inv (Env.inv_stable hst) (fun w' h => Env.inv_on h) ⟨⟨⟨w, hw⟩, hv⟩⟩)
        obtain ⟨u, rfl⟩ := hw'
        exact wpAny_of_anyE hRc hL f e _ _ _ u.up.bel hst u.z hk
      · rename_i hwt; simp only [hwt] at h3
        exact wpAny_of_anyE hRc hL f e _ _ _ hw hst hv h3

/-- Which operations are not listed know nothing. -/
def Blank (e : Env) (listed : Array Bool) : Prop := ∀ h, listed.getD h false = false → e h = none
theorem Blank.upd {e : Env} {listed : Array Bool} (h : Blank e listed) {i : Nat} (hi : i < listed.size) (p : World → Prop) : Blank (e.upd i p) (listed.setIfInBounds i true) := fun j hj => by
  unfold Env.upd
  by_cases hji : j = i
  · subst hji; simp [hi] at hj
  · rw [if_neg hji]; exact h j (by rw [getD_set_ne false (Ne.symm hji)] at hj; exact hj)
theorem Blank.set {e : Env} {listed : Array Bool} (h : Blank e listed) (i : Nat) : Blank e (listed.setIfInBounds i true) := fun j hj => by
  refine h j ?_
  by_cases hji : j = i
  · subst hji
    rcases Nat.lt_or_ge j listed.size with hlt | hge
    · simp [hlt] at hj
    · simp [Array.getElem?_eq_none hge]
  · rwa [getD_set_ne false (Ne.symm hji)] at hj

/-- The side facts of one operation, taken first. -/
structure First (md : Region.Mode) (ops : Array Oper) (listed : Array Bool) (n i : Nat) (oi : Oper) : Prop where
  here : ops[i]? = some oi
  low : i < n
  free : ∀ j oj, ops[j]? = some oj → j ≠ i → listed.getD j true = false → (∀ e ∈ oj.after, Region.binds md e = true → e.on ≠ i) → oi.apart ops oj = true
  ready : i ∈ Region.ready md ops listed
theorem First.set {listed : Array Bool} {n i j : Nat} {oi : Oper} (h : First md ops listed n i oi) (hj : j ∈ Region.ready md ops listed) (hji : j ≠ i) : First md ops (listed.setIfInBounds j true) n i oi :=
  ⟨h.here, h.low, fun k ok hk hki hun hno => by
    refine h.free k ok hk hki ?_ hno
    by_cases hjk : j = k
    · subst hjk; exact (mem_ready.1 hj).1
    · rw [getD_set_ne true hjk] at hun; exact hun, ready_mono h.ready (Ne.symm hji)⟩
theorem First.apart {listed : Array Bool} {n i j : Nat} {oi oj : Oper} (h : First md ops listed n i oi) (hj : j ∈ Region.ready md ops listed) (hji : j ≠ i) (hoj : ops[j]? = some oj) : oi.apart ops oj = true := by
  refine h.free j oj hoj hji (mem_ready.1 hj).1 fun e he hb heq => ?_
  obtain ⟨_, oj', hoj', hall⟩ := mem_ready.1 hj
  rw [hoj] at hoj'
  obtain rfl := Option.some.inj hoj'
  have h1 := hall e he hb
  rw [heq, getD_both (mem_ready.1 h.ready).1] at h1
  cases h1
theorem ready_size {listed : Array Bool} {n i : Nat} (inv : HeadInv md ops n listed) (hi : i ∈ Region.ready md ops listed) : i < listed.size := by
  obtain ⟨_, o, ho, _⟩ := mem_ready.1 hi
  rw [inv.size]; exact (Array.getElem?_eq_some_iff.1 ho).1

theorem inv_on_less {e : Env} {j : Nat} {p : World → Prop} {d : Nat → Bool} (h0 : e j = none) {w : World} (h : ((e.upd j p).on d).inv w) : (e.on d).inv w := fun i q hq => by
  refine h i q ?_
  unfold Env.on at *
  split
  · rename_i hd
    rw [if_pos hd] at hq
    unfold Env.upd
    rw [if_neg (fun hj => by subst hj; rw [h0] at hq; cases hq)]
    exact hq
  · rename_i hd; rw [if_neg hd] at hq; cases hq
theorem qOpE_put {deps : List (Nat × Nat)} {e : Env} {j : Nat} {oi oj : Oper} {v : Value} {I : World → Prop} (hj : ops[j]? = some oj) (hap : oi.apart ops oj = true)
    (hsi : ∀ cs b, oi.op ≠ .select cs b) (hsj : ∀ cs b, oj.op ≠ .select cs b) {K : Act → Prop} {a : Act}
    (hy : YieldsE P ops W I oi v a) (h : qOpE P ops W deps e j K (a.put oi.dst v)) :
    qOpE P ops W deps e j (fun a' => YieldsE P ops W I oi v a' ∧ K (a'.put oi.dst v)) a := by
  obtain ⟨h1, h2, h3⟩ := Oper.apart_spec hap
  have keep : ∀ (a : Act), YieldsE P ops W I oi v a → ∀ u, YieldsE P ops W I oi v (a.put oj.dst u) := fun a hy u =>
    hy.of_same (execOp_put oi hsi a oj.dst u h3) (wanted_put oi a oj.dst u h3)
  unfold qOpE at *
  simp only [hj] at *
  rw [wanted_put oj a oi.dst v h1] at h
  split
  · rename_i hw
    simp only [hw, if_true] at h
    intro Z hZ hI hz
    obtain ⟨u, hu, hn⟩ := h Z hZ hI hz
    refine ⟨u, fun w hw' => ?_, keep a hy u, by rw [← Act.put_comm a v u h2]; exact hn⟩
    have := hu w hw'
    unfold Oper.quietAt at *
    rwa [execOp_put oj hsj a oi.dst v h1] at this
  · rename_i hw
    simp only [hw] at h
    exact ⟨keep a hy _, by rw [← Act.put_comm a v undef h2]; exact h⟩

theorem anyE_quiet {odd : List Nat} {deps : List (Nat × Nat)} {Rc : RcT} (hRc : ∀ f args v, Stable (Rc f args v)) {n i : Nat} {oi : Oper} {v : Value} {L : Env → Array Bool → Act → Prop} (hd : depB md ops deps = true) (hio : odd.contains i = false) (hsel : ∀ (j : Nat) (o : Oper) cs b, ops[j]? = some o → o.op ≠ .select cs b)
    (hs : Region.sinkB md ops n = true) (hc : Region.chainB md ops n = true) (hn : n < ops.size)
    (hdone : ∀ e listed a, L e listed a → ∀ j ∈ Region.ready md ops listed, n ≤ j) :
    ∀ (f : Nat) (e : Env) (listed : Array Bool) (a : Act), HeadInv md ops n listed → e.stable → Blank e listed → First md ops listed n i oi → YieldsE P ops W (e.on (dep deps i)).inv oi v a →
      anyE P md ops W odd deps Rc n L f e (listed.setIfInBounds i true) (a.put oi.dst v) → anyE P md ops W odd deps Rc n L (f + 1) e listed a := by
  intro f
  induction f with
  | zero =>
    intro e listed a inv hst hbl fi hy H
    have hun := (mem_ready.1 fi.ready).1
    refine ⟨fun h => (by have := fi.ready; rw [h] at this; cases this), fun j hj => ?_⟩
    have hjn : j < n := by
      rcases Nat.lt_or_ge j n with h | h
      · exact h
      · exact absurd hj (tail_waits hs hc hn inv _ i rfl fi.low hun j h)
    by_cases hji : j = i
    · subst hji
      exact ⟨hjn, (fun ho => by rw [hio] at ho; cases ho), fun _ => hy.qOp fi.here H⟩
    · have := hdone _ _ _ H j (ready_mono hj hji)
      omega
  | succ f ih =>
    intro e listed a inv hst hbl fi hy H
    have hun := (mem_ready.1 fi.ready).1
    refine ⟨fun h => (by have := fi.ready; rw [h] at this; cases this), fun j hj => ?_⟩
    have hjn : j < n := by
      rcases Nat.lt_or_ge j n with h | h
      · exact h
      · exact absurd hj (tail_waits hs hc hn inv _ i rfl fi.low hun j h)
    by_cases hji : j = i
    · subst hji
      exact ⟨hjn, (fun ho => by rw [hio] at ho; cases ho), fun _ => hy.qOp fi.here H⟩
    obtain ⟨_, oj, hoj, _⟩ := mem_ready.1 hj
    have hap := fi.apart hj hji hoj
    obtain ⟨p1, p2, p3⟩ := Oper.apart_spec hap
    have hsi := fun cs b => hsel i oi cs b fi.here
    have hsj := fun cs b => hsel j oj cs b hoj
    refine ⟨hjn, fun hjo oj' hoj' => ?_, fun hjo => ?_⟩
    · rw [hoj] at hoj'
      obtain rfl := Option.some.inj hoj'
      obtain ⟨h1, h2⟩ := (H.2 j (ready_mono hj hji)).2.1 hjo oj hoj
      rw [execOp_put oj hsj a oi.dst v p1] at h2
      refine ⟨h1.of_same (execOp_put oj hsj a oi.dst v p1).symm (wanted_put oj a oi.dst v p1).symm, fun u hu => ?_⟩
      refine ih _ (listed.setIfInBounds j true) _ (inv.set hj hjn) (Env.stable_upd hst (RS.stable hRc _ _)) (hbl.upd (ready_size inv hj) _) (fi.set hj hji)
        ((hy.of_same (execOp_put oi hsi a oj.dst u p3) (wanted_put oi a oj.dst u p3)).less fun w hw => inv_on_less (hbl j (getD_both (mem_ready.1 hj).1)) hw) ?_
      rw [Array.setIfInBounds_comm _ _ hji, ← Act.put_comm a v u p2]
      exact h2 u hu
    · have h1 := (H.2 j (ready_mono hj hji)).2.2 hjo
      refine qOpE_mono (fun a' h3 => ih e (listed.setIfInBounds j true) a' (inv.set hj hjn) hst (hbl.set j) (fi.set hj hji) h3.1 ?_) (qOpE_put hoj hap hsi hsj hy h1)
      rw [Array.setIfInBounds_comm _ _ hji]
      exact h3.2

theorem anyE_odd {odd : List Nat} {deps : List (Nat × Nat)} {Rc : RcT} (hRc : ∀ f args v, Stable (Rc f args v)) {n i : Nat} {oi : Oper} {L : Env → Array Bool → Act → Prop} (hd : depB md ops deps = true) (hio : odd.contains i = true) (hsel : ∀ (j : Nat) (o : Oper) cs b, ops[j]? = some o → o.op ≠ .select cs b)
    (hs : Region.sinkB md ops n = true) (hc : Region.chainB md ops n = true) (hn : n < ops.size)
    (hdone : ∀ e listed a, L e listed a → ∀ j ∈ Region.ready md ops listed, n ≤ j) :
    ∀ (f : Nat) (e : Env) (listed : Array Bool) (a : Act), HeadInv md ops n listed → e.stable → Blank e listed → First md ops listed n i oi → (∃ u : Up W, e.inv u.w) →
      (OddE P ops W Rc (e.on (dep deps i)).inv oi a ∧ ∀ v, (∃ u : Up W, (e.upd i (RS P W Rc (execOp a.eval oi) v)).inv u.w) →
        anyE P md ops W odd deps Rc n L f (e.upd i (RS P W Rc (execOp a.eval oi) v)) (listed.setIfInBounds i true) (a.put oi.dst v)) → anyE P md ops W odd deps Rc n L (f + 1) e listed a := by
  intro f
  have some_v : ∀ (e : Env) (a : Act), e.stable → (∃ u : Up W, e.inv u.w) → OddE P ops W Rc (e.on (dep deps i)).inv oi a → ∃ v, ∃ u : Up W, (e.upd i (RS P W Rc (execOp a.eval oi) v)).inv u.w := by
    rintro e a hst ⟨u, hu⟩ ho
    obtain ⟨v, u', hb, hr⟩ := ho.some u (Env.inv_on hu)
    exact ⟨v, u', Env.inv_upd (Env.inv_stable hst _ _ hu hb) hr⟩
  induction f with
  | zero =>
    intro e listed a inv hst hbl fi hne H
    have hun := (mem_ready.1 fi.ready).1
    obtain ⟨v0, hv0⟩ := some_v e a hst hne H.1
    refine ⟨fun h => (by have := fi.ready; rw [h] at this; cases this), fun j hj => ?_⟩
    have hjn : j < n := by
      rcases Nat.lt_or_ge j n with h | h
      · exact h
      · exact absurd hj (tail_waits hs hc hn inv _ i rfl fi.low hun j h)
    by_cases hji : j = i
    · subst hji
      exact ⟨hjn, (fun _ oi' hoi' => by rw [fi.here] at hoi'; obtain rfl := Option.some.inj hoi'; exact H), fun ho => by rw [hio] at ho; cases ho⟩
    · have := hdone _ _ _ (H.2 v0 hv0) j (ready_mono hj hji)
      omega
  | succ f ih =>
    intro e listed a inv hst hbl fi hne H
    have hun := (mem_ready.1 fi.ready).1
    obtain ⟨v0, hv0⟩ := some_v e a hst hne H.1
    refine ⟨fun h => (by have := fi.ready; rw [h] at this; cases this), fun j hj => ?_⟩
    have hjn : j < n := by
      rcases Nat.lt_or_ge j n with h | h
      · exact h
      · exact absurd hj (tail_waits hs hc hn inv _ i rfl fi.low hun j h)
    by_cases hji : j = i
    · subst hji
      exact ⟨hjn, (fun _ oi' hoi' => by rw [fi.here] at hoi'; obtain rfl := Option.some.inj hoi'; exact H), fun ho => by rw [hio] at ho; cases ho⟩
    obtain ⟨_, oj, hoj, _⟩ := mem_ready.1 hj
    have hap := fi.apart hj hji hoj
    obtain ⟨p1, p2, p3⟩ := Oper.apart_spec hap
    have hsi := fun cs b => hsel i oi cs b fi.here
    have hsj := fun cs b => hsel j oj cs b hoj
    have dji : dep deps j i = false := dep_ready hd inv hj (getD_both hun)
    have dij : dep deps i j = false := dep_ready hd inv fi.ready (getD_both (mem_ready.1 hj).1)
    have ej : e j = none := hbl j (getD_both (mem_ready.1 hj).1)
    refine ⟨hjn, fun hjo oj' hoj' => ?_, fun hjo => ?_⟩
    · rw [hoj] at hoj'
      obtain rfl := Option.some.inj hoj'
      have h1 := ((H.2 v0 hv0).2 j (ready_mono hj hji)).2.1 hjo oj hoj
      rw [Env.upd_on dji] at h1
      refine ⟨h1.1.of_same (execOp_put oj hsj a oi.dst v0 p1).symm (wanted_put oj a oi.dst v0 p1).symm, fun u hu => ?_⟩
      refine ih _ (listed.setIfInBounds j true) _ (inv.set hj hjn) (Env.stable_upd hst (RS.stable hRc _ _)) (hbl.upd (ready_size inv hj) _) (fi.set hj hji) hu ⟨?_, fun v hv => ?_⟩
      · rw [Env.upd_on dij]
        exact H.1.of_same (execOp_put oi hsi a oj.dst u p3) (wanted_put oi a oj.dst u p3)
      · rw [execOp_put oi hsi a oj.dst u p3] at hv ⊢
        rw [Env.upd_comm hji] at hv ⊢
        obtain ⟨x, hx⟩ := hv
        have hx1 : (e.upd i (RS P W Rc (execOp a.eval oi) v)).inv x.w := Env.inv_of_upd (by unfold Env.upd; rw [if_neg hji]; exact ej) hx
        have h2 := (((H.2 v ⟨x, hx1⟩).2 j (ready_mono hj hji)).2.1 hjo oj hoj).2 u
        rw [execOp_put oj hsj a oi.dst v p1] at h2
        rw [Array.setIfInBounds_comm _ _ hji, ← Act.put_comm a v u p2]
        exact h2 ⟨x, hx⟩
    · have q0 := ((H.2 v0 hv0).2 j (ready_mono hj hji)).2.2 hjo
      obtain ⟨u, hu, _⟩ := yieldsE_of_qOp (Env.stable_upd hst (RS.stable hRc _ _)) hv0 hoj q0
      rw [Env.upd_on dji] at hu
      have hu' := hu.of_same (execOp_put oj hsj a oi.dst v0 p1).symm (wanted_put oj a oi.dst v0 p1).symm
      refine hu'.qOp hoj ?_
      refine ih e (listed.setIfInBounds j true) _ (inv.set hj hjn) hst (hbl.set j) (fi.set hj hji) hne ⟨H.1.of_same (execOp_put oi hsi a oj.dst u p3) (wanted_put oi a oj.dst u p3), fun v hv => ?_⟩
      rw [execOp_put oi hsi a oj.dst u p3] at hv ⊢
      have q1 := ((H.2 v hv).2 j (ready_mono hj hji)).2.2 hjo
      obtain ⟨u', hy1, hK⟩ := yieldsE_of_qOp (Env.stable_upd hst (RS.stable hRc _ _)) hv hoj q1
      rw [Env.upd_on dji] at hy1
      have hy2 := hy1.of_same (execOp_put oj hsj a oi.dst v p1).symm (wanted_put oj a oi.dst v p1).symm
      obtain ⟨x, hx⟩ := hne
      obtain rfl := YieldsE.one (Env.inv_stable (Env.stable_on hst)) x (Env.inv_on hx) hu' hy2
      rw [Array.setIfInBounds_comm _ _ hji, ← Act.put_comm a v u p2]
      exact hK

theorem anyE_lex {odd : List Nat} {deps : List (Nat × Nat)} {Rc : RcT} (hRc : ∀ f args v, Stable (Rc f args v)) {n g : Nat} {Lq : Env → Act → Prop} (hd : depB md ops deps = true) (hsel : Region.noSelect ops = true) (hs : Region.sinkB md ops n = true) (hc : Region.chainB md ops n = true) (hn : n < ops.size) :
    ∀ (l : List Oper) (k : Nat) (e : Env) (listed : Array Bool) (a : Act), (∀ j, j < l.length → l[j]? = ops[k + j]?) → k + l.length = n → HeadInv md ops n listed → e.stable → Blank e listed → (∃ u : Up W, e.inv u.w) →
    Region.lexHead md ops g l.length k listed = true → wpE P ops W odd deps Rc Lq l k e a →
    anyE P md ops W odd deps Rc n (fun e' listed' a' => Region.seqB md ops g n listed' = true ∧ e'.stable ∧ Lq e' a') l.length e listed a
  | [], k, e, listed, a, _, hk, inv, hst, _, _, hB, h => by
    have : k = n := by simpa using hk
    subst this
    exact ⟨by simpa [Region.lexHead] using hB, hst, h⟩
  | o :: l, k, e, listed, a, hl, hk, inv, hst, hbl, hne, hB, h => by
    have h0 : ops[k]? = some o := by simpa using (hl 0 (by simp)).symm
    simp only [List.length_cons, Region.lexHead, Bool.and_eq_true] at hB
    obtain ⟨⟨hr, hf⟩, hB'⟩ := hB
    have hkn : k < n := by simp only [List.length_cons] at hk; omega
    have hr' : k ∈ Region.ready md ops listed := by simpa using hr
    have fi : First md ops listed n k o := ⟨h0, hkn, Region.free_spec h0 hf, hr'⟩
    have hl' : ∀ j, j < l.length → l[j]? = ops[k + 1 + j]? := fun j hj => by have := hl (j + 1) (by simp; omega); simpa [Nat.add_assoc, Nat.add_comm 1 j] using this
    have hk' : k + 1 + l.length = n := by simp only [List.length_cons] at hk; omega
    cases ho : odd.contains k with
    | true =>
      unfold wpE at h
      rw [if_pos ho] at h
      refine anyE_odd hRc hd ho (Region.noSelect_spec hsel) hs hc hn (fun e listed' a' hL => seqB_ready hL.1) l.length e listed a inv hst hbl fi hne ⟨h.1, fun v hv => ?_⟩
      obtain ⟨x, hx⟩ := hv
      exact anyE_lex hRc hd hsel hs hc hn l (k + 1) _ _ _ hl' hk' (inv.set hr' hkn) (Env.stable_upd hst (RS.stable hRc _ _)) (hbl.upd (ready_size inv hr') _) ⟨x, hx⟩ hB' (h.2 v ⟨x, Env.upd_inv hx⟩)
    | false =>
      have hq : qOpE P ops W deps e k (wpE P ops W odd deps Rc Lq l (k + 1) e) a := by
        unfold wpE at h
        rw [if_neg (by rw [ho]; exact Bool.false_ne_true)] at h
        unfold qOpE
        simp only [h0]
        exact h
      obtain ⟨v, hy, hK⟩ := yieldsE_of_qOp hst hne h0 hq
      exact anyE_quiet hRc hd ho (Region.noSelect_spec hsel) hs hc hn (fun e listed' a' hL => seqB_ready hL.1) l.length e listed a inv hst hbl fi hy
        (anyE_lex hRc hd hsel hs hc hn l (k + 1) _ _ _ hl' hk' (inv.set hr' hkn) hst (hbl.set k) hne hB' hK)

/-- The first n operations in whatever order, those of 'odd' hanging on it; the others follow one another. -/
theorem wp_region_env {id : Nat} {Q : Exit → Act → World → Prop} {a : Act} {w : World} {l : List Oper} (n : Nat) (odd : List Nat) (deps : List (Nat × Nat)) (Rc : RcT) (hm : P.follows .mixedOrders = true) (hB : (Region.lexTailB .any l.toArray n && depB .any l.toArray deps) = true)
    (hRc : ∀ f args v, Stable (Rc f args v))
    (H : wpE P l.toArray w odd deps Rc (fun e a' => ∀ u : Up w, e.inv u.w → wpList P l.toArray Q (l.drop n) a' u.w) (l.take n) 0 (fun _ => none) a) : (Code.region id l.toArray true).wp P Q a w := by
  rw [Bool.and_eq_true] at hB
  obtain ⟨hB, hd⟩ := hB
  simp only [Region.lexTailB, Bool.and_eq_true, decide_eq_true_eq] at hB
  obtain ⟨⟨⟨⟨hsel, hn⟩, hs⟩, hc⟩, hlex⟩ := hB
  have hn' : n < l.length := by simpa using hn
  have htl : (l.take n).length = n := by simp; omega
  have hdl : (l.drop n).length = l.toArray.size - n := by simp
  have inv0 : HeadInv .any l.toArray n (Array.replicate l.toArray.size false) :=
    ⟨by simp, fun j oj _ hl => (by rw [getD_replicate_false] at hl; cases hl), fun t _ ht => getD_in (by simpa using ht) (getD_replicate_false _ _)⟩
  have H2 := anyE_lex (md := .any) (g := l.toArray.size - n) hRc hd hsel hs hc hn (l.take n) 0 (fun _ => none) _ a (fun j hj => by
    have hj' : j < n := by rw [htl] at hj; exact hj
    simp [hj']) (by simpa using htl) inv0 (fun h p hp => by cases hp) (fun h _ => rfl) ⟨⟨w, Below.refl _ _⟩, fun h p hp => by cases hp⟩ (by rw [htl]; exact hlex) H
  refine wp_region_any hm ?_
  have := wpAny_of_anyE (md := .any) (W := w) (n := n) (Q' := Q) (g := l.toArray.size - n) hRc (fun e listed a' w' hw' hr hL => by
    have := wpAny_of_seq (md := .any) (Q' := Q) (l.drop n) n listed a' w' (fun j => by simp [List.getElem?_drop]) (by rw [hdl]; exact hL.1) (hL.2.2 ⟨w', hw'⟩ hr)
    rwa [hdl] at this) _ (fun _ => none) _ _ { w with drawn := w.drawn + 1 } ((Below.refl _ w).drew) (fun h p hp => by cases hp) (fun h p hp => by cases hp) H2
  rw [htl, show n + (l.toArray.size - n) = l.toArray.size by simp; omega] at this
  exact this
end
end Go.Proofs.Ytbnbakienajhmaa
