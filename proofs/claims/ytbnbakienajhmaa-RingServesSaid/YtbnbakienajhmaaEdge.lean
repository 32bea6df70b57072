/- Regions that draw their order: an operation that only takes a part out of a tuple may be seen to come ahead of a store that does not wait for it. -/
import Derived.Test.YtbnbakienajhmaaOdd
import Derived.Deep.RegionHeld3
namespace Go.Proofs.Ytbnbakienajhmaa
open Go.RowKit
set_option linter.unusedVariables false

/-- Operation j waits for i, too. -/
def addAt : List Oper → Nat → Nat → List Oper
  | [], _, _ => []
  | o :: l, i, 0 => { o with after := o.after.push ⟨i, .data⟩ } :: l
  | o :: l, i, j + 1 => o :: addAt l i j
def edgeO (i : Nat) (o : Oper) : Oper := { o with after := o.after.push ⟨i, .data⟩ }
theorem addAt_get : ∀ (l : List Oper) (i j k : Nat), (addAt l i j)[k]? = if k = j then (l[j]?).map (edgeO i) else l[k]?
  | [], _, _, k => by simp [addAt]
  | o :: l, i, 0, 0 => by simp [addAt, edgeO]
  | o :: l, i, 0, k + 1 => by simp [addAt]
  | o :: l, i, j + 1, 0 => by simp [addAt]
  | o :: l, i, j + 1, k + 1 => by simp [addAt, addAt_get l i j k]
theorem addAt_len : ∀ (l : List Oper) (i j : Nat), (addAt l i j).length = l.length
  | [], _, _ => rfl
  | o :: l, i, 0 => rfl
  | o :: l, i, j + 1 => by simp [addAt, addAt_len l i j]
section
variable {P : Program} {l : List Oper} {Q : Exit → Act → World → Prop} {i j : Nat}
theorem exec_edge (ρ : Operand → Value) (i : Nat) (o : Oper) : execOp ρ (edgeO i o) = execOp ρ o := rfl
theorem yielded_add (i j : Nat) (t : Array Value) : yielded (addAt l i j).toArray t = yielded l.toArray t := by
  funext k
  unfold yielded
  have e : ((addAt l i j).toArray[k]?).bind (·.dst) = (l.toArray[k]?).bind (·.dst) := by
    simp only [List.getElem?_toArray, addAt_get]
    by_cases hk : k = j
    · subst hk; rw [if_pos rfl]; cases l[k]? <;> rfl
    · rw [if_neg hk]
  rw [e]
theorem wpOp_add (k : Nat) (K : Act → World → Prop) (a : Act) (w : World) : wpOp P (addAt l i j).toArray Q k K a w ↔ wpOp P l.toArray Q k K a w := by
  unfold wpOp
  rw [yielded_add]
  simp only [List.getElem?_toArray, addAt_get]
  by_cases hk : k = j
  · subst hk; rw [if_pos rfl]; cases l[k]? <;> exact Iff.rfl
  · rw [if_neg hk]
theorem ready_add {k : Nat} {listed : Array Bool} : k ∈ Region.ready .any (addAt l i j).toArray listed ↔ k ∈ Region.ready .any l.toArray listed ∧ (k = j → listed.getD i false = true) := by
  rw [mem_ready, mem_ready]
  simp only [List.getElem?_toArray, addAt_get]
  by_cases hk : k = j
  · subst hk
    rw [if_pos rfl]
    cases ho : l[k]? with
    | none => simp
    | some o =>
      simp only [Option.map_some, Option.some.injEq, exists_eq_left']
      constructor
      · rintro ⟨h0, h⟩
        exact ⟨⟨h0, fun e he hb => h e (by simp [edgeO, he]) hb⟩, fun _ => h ⟨i, .data⟩ (by simp [edgeO]) rfl⟩
      · rintro ⟨⟨h0, h⟩, h1⟩
        refine ⟨h0, fun e he hb => ?_⟩
        simp [edgeO] at he
        rcases he with he | rfl
        · exact h e he hb
        · exact h1 trivial
  · rw [if_neg hk]
    exact ⟨fun h => ⟨h, fun e => absurd e hk⟩, fun h => h.1⟩
/-- It yields the same in every world, or does not go on. -/
def PureOp (P : Program) (ops : Array Oper) (o : Oper) : Prop := ∀ (a : Act) (w : World) (K : Act → World → Prop) (Q : Exit → Act → World → Prop), (o.wp P a w K Q ∨ (o.asks P a w ∧ LetsOut Q)) → (∀ c a w, ¬ Q (.panic c) a w) → Region.wanted o (yielded ops a.tmps) = true ∧ ∃ v, (∀ w, (execOp a.eval o).run P w = .ok (.value v) w) ∧ K (a.put o.dst v) w
theorem wpAny_add {oi oj : Oper} (hi : l[i]? = some oi) (hj : l[j]? = some oj) (hij : i ≠ j) (hs : Region.noSelect l.toArray = true)
    (hdep : ∀ e ∈ oi.after, Region.binds .any e = true → ∃ e' ∈ oj.after, Region.binds .any e' = true ∧ e'.on = e.on)
    (hap : ∀ k ok, l[k]? = some ok → k ≠ i → (∀ e ∈ ok.after, Region.binds .any e = true → e.on ≠ i) → (∀ e ∈ oi.after, Region.binds .any e = true → e.on ≠ k) → oi.apart l.toArray ok = true)
    (hg : oi.guard = none) (hp : PureOp P l.toArray oi) (hQ : ∀ c a w, ¬ Q (.panic c) a w) :
    ∀ (n fuel : Nat) (listed : Array Bool) (a : Act) (w : World), fuel ≤ n → listed.size = l.length → wpAny P .any (addAt l i j).toArray Q fuel listed a w → wpAny P .any l.toArray Q fuel listed a w := by
  have hiR : ∀ (listed : Array Bool), listed.size = l.length → j ∈ Region.ready .any l.toArray listed → listed.getD i false = false → i ∈ Region.ready .any l.toArray listed := fun listed hsz hjr h0 => by
    obtain ⟨_, oj', hoj, hall⟩ := mem_ready.1 hjr
    have : oj' = oj := Option.some.inj ((by simpa using hoj : l[j]? = some oj').symm.trans hj)
    subst this
    refine mem_ready.2 ⟨?_, oi, by simpa using hi, fun e he hb => ?_⟩
    · have hlt : i < listed.size := by rw [hsz]; exact (List.getElem?_eq_some_iff.1 hi).1
      simp [hlt] at h0 ⊢
      exact h0
    · obtain ⟨e', he', hb', heq⟩ := hdep e he hb
      rw [← heq]; exact hall e' he' hb'
  have hiE : ∀ (listed : Array Bool), i ∈ Region.ready .any l.toArray listed → i ∈ Region.ready .any (addAt l i j).toArray listed := fun listed h => ready_add.2 ⟨h, fun e => absurd e hij⟩
  have hiU : ∀ (listed : Array Bool) (k : Nat), i ∈ Region.ready .any l.toArray listed → listed.getD k true = false → ∀ e ∈ oi.after, Region.binds .any e = true → e.on ≠ k := fun listed k hir hk e he hb heq => by
    obtain ⟨_, oi', hoi, hall⟩ := mem_ready.1 hir
    have : oi' = oi := Option.some.inj ((by simpa using hoi : l[i]? = some oi').symm.trans hi)
    subst this
    have h1 := hall e he hb
    rw [heq] at h1
    rcases Nat.lt_or_ge k listed.size with h' | h'
    · simp [h'] at h1 hk; rw [hk] at h1; cases h1
    · simp [Array.getElem?_eq_none h'] at h1
  intro n
  induction n with
  | zero =>
    intro fuel listed a w hf hsz H
    obtain rfl : fuel = 0 := by omega
    refine ⟨?_, H.2⟩
    by_cases hr : Region.ready .any l.toArray listed = []
    · exact hr
    · obtain ⟨k, hk⟩ := List.exists_mem_of_ne_nil _ hr
      exfalso
      by_cases hkE : k ∈ Region.ready .any (addAt l i j).toArray listed
      · rw [H.1] at hkE; cases hkE
      · have : k = j ∧ listed.getD i false = false := by
          rw [ready_add] at hkE
          by_cases hkj : k = j
          · refine ⟨hkj, ?_⟩
            cases hb : listed.getD i false
            · rfl
            · exact absurd ⟨hk, fun _ => hb⟩ hkE
          · exact absurd ⟨hk, fun e => absurd e hkj⟩ hkE
        obtain ⟨rfl, h0⟩ := this
        have := hiE _ (hiR listed hsz hk h0)
        rw [H.1] at this; cases this
  | succ n ih =>
    intro fuel listed a w hf hsz H
    cases fuel with
    | zero => exact ih 0 listed a w (by omega) hsz H
    | succ fuel =>
      refine ⟨fun hr => ?_, fun k hk => ?_⟩
      · refine H.1 ?_
        rw [List.eq_nil_iff_forall_not_mem]
        intro k hk
        have := (ready_add.1 hk).1
        rw [hr] at this; cases this
      · by_cases hkE : k ∈ Region.ready .any (addAt l i j).toArray listed
        · exact wpOp_mono (fun a' w' h => ih fuel _ a' w' (by omega) (by simp [hsz]) h) ((wpOp_add _ _ _ _).1 (H.2 k hkE))
        · have : k = j ∧ listed.getD i false = false := by
            rw [ready_add] at hkE
            by_cases hkj : k = j
            · refine ⟨hkj, ?_⟩
              cases hb : listed.getD i false
              · rfl
              · exact absurd ⟨hk, fun _ => hb⟩ hkE
            · exact absurd ⟨hk, fun e => absurd e hkj⟩ hkE
          obtain ⟨rfl, h0⟩ := this
          have hir := hiR listed hsz hk h0
          have h1 := (wpOp_add _ _ _ _).1 (H.2 i (hiE _ hir))
          unfold wpOp at h1
          simp only [List.getElem?_toArray, hi] at h1
          have hwant : Region.wanted oi (yielded l.toArray a.tmps) = true := by unfold Region.wanted; rw [hg]
          rw [if_pos hwant] at h1
          obtain ⟨_, v, hv, hK⟩ := hp a w _ Q h1 hQ
          have hy : Yields P l.toArray oi v a := .inl ⟨hwant, hv⟩
          have hkr2 : k ∈ Region.ready .any (addAt l i k).toArray (listed.setIfInBounds i true) := ready_add.2 ⟨ready_mono hk (Ne.symm hij), fun _ => by
            have hlt : i < listed.size := by rw [hsz]; exact (List.getElem?_eq_some_iff.1 hi).1
            simp [hlt]⟩
          cases fuel with
          | zero => rw [hK.1] at hkr2; cases hkr2
          | succ f =>
            have h2 := (wpOp_add _ _ _ _).1 (hK.2 k hkr2)
            have hnot : ∀ e ∈ oj.after, Region.binds .any e = true → e.on ≠ i := fun e he hb heq => by
              obtain ⟨_, oj', hoj, hall⟩ := mem_ready.1 hk
              have : oj' = oj := Option.some.inj ((by simpa using hoj : l[k]? = some oj').symm.trans hj)
              subst this
              have := hall e he hb
              rw [heq, h0] at this; cases this
            have h3 := wpOp_put (by simpa using hj) (hap k oj hj (Ne.symm hij) hnot (hiU listed k hir (mem_ready.1 hk).1)) (fun cs b => Region.noSelect_spec hs i oi cs b (by simpa using hi)) (fun cs b => Region.noSelect_spec hs k oj cs b (by simpa using hj)) (fun c a w h => absurd h (hQ _ _ _)) hy h2
            refine wpOp_mono (fun a' w' h4 => ?_) h3
            have h5 := ih f _ _ _ (by omega) (by simp [hsz]) h4.2
            refine wpAny_first (by simpa using hi) (Region.noSelect_spec hs) (fun c a w h => absurd h (hQ _ _ _)) f (listed.setIfInBounds k true) a' w' (fun j' oj' hoj' hne hun hno => hap j' oj' (by simpa using hoj') hne hno (hiU _ j' (ready_mono hir hij) hun)) (ready_mono hir hij) h4.1 ?_
            rw [Array.setIfInBounds_comm _ _ (Ne.symm hij)]
            exact h5
theorem extract_quiet (P : Program) (y : Value) (k : Nat) (w : World) : noRoomEvent ∉ ((do pure (.value (← Instr.extract y k)) : Sem Next).runT P w #[]).2 := by
  cases y with
  | tuple vs =>
    cases hk : vs[k]? with
    | some v =>
      simp [Instr.extract, hk, go_sem]
      exact fun h => by have h2 : noRoomEvent ∈ #[] := h; simp at h2
    | none =>
      simp [Instr.extract, hk, go_sem]
      exact fun h => by have h2 : noRoomEvent ∈ #[] := h; simp at h2
  | _ =>
    simp [Instr.extract, go_sem]
    exact fun h => by have h2 : noRoomEvent ∈ #[] := h; simp at h2
theorem pure_extract {o : Oper} {x : Operand} {k : Nat} (ho : o.op = .extract x k) (hg : o.guard = none) (ops : Array Oper) : PureOp P ops o := by
  intro a w K Q h hQ
  refine ⟨by unfold Region.wanted; rw [hg], ?_⟩
  have e : execOp a.eval o = (do pure (.value (← Instr.extract (a.eval x) k)) : Sem Next) := by unfold execOp; rw [ho]
  have key : (∃ v, ∀ w, (Instr.extract (a.eval x) k).run P w = .ok v w) ∨ (∃ hl, ∀ w, (Instr.extract (a.eval x) k).run P w = .halt hl w) := by
    generalize a.eval x = y
    cases y with
    | tuple vs =>
      cases hk : vs[k]? with
      | some v => exact .inl ⟨v, fun w => by simp [Instr.extract, hk, go_sem]⟩
      | none => exact .inr ⟨_, fun w => by simp [Instr.extract, hk, go_sem] <;> rfl⟩
    | _ => exact .inr ⟨_, fun w => by simp [Instr.extract, go_sem] <;> rfl⟩
  have hrun : ∀ w, (execOp a.eval o).run P w = ((Instr.extract (a.eval x) k).run P w).andThen fun v w => .ok (.value v) w := fun w => by rw [e]; simp [go_sem]
  rcases key with ⟨v, hv⟩ | ⟨hl, hv⟩
  · have hr : ∀ w, (execOp a.eval o).run P w = .ok (.value v) w := fun w => by rw [hrun, hv]; rfl
    refine ⟨v, hr, ?_⟩
    rcases h with h | ⟨h, _⟩
    · unfold Oper.wp at h; rw [hr] at h; exact h
    · exact absurd h.1 (by rw [e]; exact extract_quiet _ _ _ _)
  · have hr : (execOp a.eval o).run P w = .halt hl w := by rw [hrun, hv]; rfl
    rcases h with h | ⟨h, _⟩
    · unfold Oper.wp at h
      rw [hr] at h
      cases hl <;> simp only [Oper.upon] at h
      exact (hQ _ _ _ h).elim
    · exact absurd h.1 (by rw [e]; exact extract_quiet _ _ _ _)
/-- The checks for an edge that may be added. -/
def addB (l : List Oper) (i j : Nat) : Bool :=
  match l[i]?, l[j]? with
  | some oi, some oj => (i != j) && Region.noSelect l.toArray && oi.guard.isNone && (match oi.op with | .extract .. => true | _ => false) &&
      oi.after.all (fun e => !Region.binds .any e || oj.after.any fun e' => Region.binds .any e' && e'.on == e.on) &&
      (List.range l.length).all fun k => match l[k]? with
        | some ok => (k == i) || ok.after.any (fun e => Region.binds .any e && e.on == i) || oi.after.any (fun e => Region.binds .any e && e.on == k) || oi.apart l.toArray ok
        | none => true
  | _, _ => false
theorem wpAny_addB (hB : addB l i j = true) (hQ : ∀ c a w, ¬ Q (.panic c) a w) (a : Act) (w : World)
    (H : wpAny P .any (addAt l i j).toArray Q l.length (Array.replicate l.length false) a w) : wpAny P .any l.toArray Q l.length (Array.replicate l.length false) a w := by
  unfold addB at hB
  split at hB
  · rename_i oi oj hi hj
    simp only [Bool.and_eq_true, bne_iff_ne, ne_eq, List.all_eq_true, List.mem_range, Array.all_eq_true_iff_forall_mem, Bool.or_eq_true] at hB
    obtain ⟨⟨⟨⟨⟨h1, h2⟩, h3⟩, h4⟩, h5⟩, h6⟩ := hB
    have hg : oi.guard = none := by simpa using h3
    refine wpAny_add hi hj h1 h2 (fun e he hb => ?_) (fun k ok hk hne hno hno2 => ?_) hg ?_ hQ l.length l.length _ a w (Nat.le_refl _) (by simp) H
    · rcases h5 e he with h | h
      · rw [hb] at h; cases h
      · obtain ⟨e', he', hb'⟩ := Array.any_eq_true'.1 h
        simp only [Bool.and_eq_true, beq_iff_eq] at hb'
        exact ⟨e', he', hb'.1, hb'.2⟩
    · have hlt := (List.getElem?_eq_some_iff.1 hk).1
      have := h6 k hlt
      rw [hk] at this
      simp only [Bool.or_eq_true, beq_iff_eq] at this
      rcases this with ((h | h) | h) | h
      · exact absurd h hne
      · obtain ⟨e, he, hb⟩ := Array.any_eq_true'.1 h
        simp only [Bool.and_eq_true, beq_iff_eq] at hb
        exact absurd hb.2 (hno e he hb.1)
      · obtain ⟨e, he, hb⟩ := Array.any_eq_true'.1 h
        simp only [Bool.and_eq_true, beq_iff_eq] at hb
        exact absurd hb.2 (hno2 e he hb.1)
      · exact h
    · split at h4
      · rename_i x k ho
        exact pure_extract ho hg _
      · cases h4
  · cases hB
/-- Edges, one after the other. -/
def addL (l : List Oper) : List (Nat × Nat) → List Oper
  | [] => l
  | (i, j) :: es => addL (addAt l i j) es
def addLB (l : List Oper) : List (Nat × Nat) → Bool
  | [] => true
  | (i, j) :: es => addB l i j && addLB (addAt l i j) es
theorem addL_len : ∀ (es : List (Nat × Nat)) (l : List Oper), (addL l es).length = l.length
  | [], l => rfl
  | (i, j) :: es, l => by rw [addL, addL_len es, addAt_len]
theorem wpAny_addL (hQ : ∀ c a w, ¬ Q (.panic c) a w) (a : Act) (w : World) : ∀ (es : List (Nat × Nat)) (l : List Oper), addLB l es = true →
    wpAny P .any (addL l es).toArray Q l.length (Array.replicate l.length false) a w → wpAny P .any l.toArray Q l.length (Array.replicate l.length false) a w
  | [], l, _, H => H
  | (i, j) :: es, l, hB, H => by
    simp only [addLB, Bool.and_eq_true] at hB
    refine wpAny_addB hB.1 hQ a w ?_
    have := wpAny_addL hQ a w es (addAt l i j) hB.2 (by rw [addAt_len]; exact H)
    rwa [addAt_len] at this
end
section
variable {P : Program} {C : World → Prop}
theorem wpAny_quiet_tail {Q : Exit → Act → World → Prop} {a : Act} {w : World} {l : List Oper} (n : Nat) (hB : Region.lexTailB .any l.toArray n = true) (hC : C { w with drawn := w.drawn + 1 })
    (h : wpQuiet P l.toArray C (fun a' => ∀ w', C w' → wpList P l.toArray Q (l.drop n) a' w') (l.take n) a) : wpAny P .any l.toArray Q l.toArray.size (Array.replicate l.toArray.size false) a { w with drawn := w.drawn + 1 } := by
  simp only [Region.lexTailB, Bool.and_eq_true, decide_eq_true_eq] at hB
  obtain ⟨⟨⟨⟨hsel, hn⟩, hs⟩, hc⟩, hlex⟩ := hB
  have hn' : n < l.length := by simpa using hn
  have htl : (l.take n).length = n := by simp; omega
  have hdl : (l.drop n).length = l.toArray.size - n := by simp
  have inv0 : HeadInv .any l.toArray n (Array.replicate l.toArray.size false) :=
    ⟨by simp, fun j oj _ hl => (by rw [getD_replicate_false] at hl; cases hl), fun t _ ht => getD_in (by simpa using ht) (getD_replicate_false _ _)⟩
  have H := anyLQ_lex (md := .any) (g := l.toArray.size - n) hsel hs hc hn (l.take n) 0 _ a (fun j hj => by
    have hj' : j < n := by rw [htl] at hj; exact hj
    simp [hj']) (by simpa using htl) inv0 (by rw [htl]; exact hlex) h
  have := wpAny_of_headQ (Q' := Q) (g := l.toArray.size - n) (fun listed a' w' hw' hL => by
    have := wpAny_of_seq (md := .any) (Q' := Q) (l.drop n) n listed a' w' (fun j => by simp [List.getElem?_drop]) (by rw [hdl]; exact hL.1) (hL.2 w' hw')
    rwa [hdl] at this) _ _ _ { w with drawn := w.drawn + 1 } hC H
  rw [htl, show n + (l.toArray.size - n) = l.toArray.size by omega] at this
  exact this
theorem wpAny_up_odd {Q : Exit → Act → World → Prop} {a : Act} {w : World} {l : List Oper} (n h : Nat) (oh : Oper) (R : Value → World → Prop) (hB : lexOddB .any l.toArray n h = true)
    (hoh : l[h]? = some oh) (hR : ∀ v w w', R v w → Below w.heap.size w w' → R v w')
    (H : ∀ X : Up w, wpQuiet P l.toArray (fun w' => ∃ u : Up X.w, w' = u.w) (fun a' => Odd P l.toArray w R oh a' ∧ ∀ v (u : Up w), R v u.w → wpList P l.toArray Q (l.drop n) (a'.put oh.dst v) u.w) ((l.take n).eraseIdx h) a) : wpAny P .any l.toArray Q l.toArray.size (Array.replicate l.toArray.size false) a { w with drawn := w.drawn + 1 } := by
  simp only [lexOddB, Bool.and_eq_true, decide_eq_true_eq] at hB
  obtain ⟨⟨⟨⟨⟨hsel, hn⟩, hhn⟩, hs⟩, hc⟩, hlex⟩ := hB
  have hn' : n < l.length := by simpa using hn
  have htl : ((l.take n).eraseIdx h).length = n - 1 := by rw [List.length_eraseIdx]; simp; split <;> omega
  have hdl : (l.drop n).length = l.toArray.size - n := by simp
  have inv0 : HeadInv .any l.toArray n (Array.replicate l.toArray.size false) :=
    ⟨by simp, fun j oj _ hl => (by rw [getD_replicate_false] at hl; cases hl), fun t _ ht => getD_in (by simpa using ht) (getD_replicate_false _ _)⟩
  have H' := wpQuietR_of _ _ H
  have H2 := anyLO_lex (md := .any) (g := l.toArray.size - n) (R := R) (oh := oh) (h := h) (Lt := fun v a' => ∀ u : Up w, R v u.w → wpList P l.toArray Q (l.drop n) a' u.w) (by simpa using hoh) hhn hsel hs hc hn
    (fun a' hq => ⟨(hq ⟨w, Below.refl _ _⟩).1, fun v u hr => (hq ⟨w, Below.refl _ _⟩).2 v u hr⟩) ((l.take n).eraseIdx h) 0 _ a (fun j hj => by
      have := eraseIdx_at l n h j hhn (by omega) hj
      rw [this]; simp) (by rw [htl]; omega) inv0 (by rw [htl]; exact hlex) H'
  have := wpAny_of_headO (md := .any) (W := w) (n := n) (Q' := Q) (g := l.toArray.size - n) hR (by simpa using hoh) (fun v listed a' w' hw' hr hL => by
    have := wpAny_of_seq (md := .any) (Q' := Q) (l.drop n) n listed a' w' (fun j => by simp [List.getElem?_drop]) (by rw [hdl]; exact hL.1) (hL.2 ⟨w', hw'⟩ hr)
    rwa [hdl] at this) _ none _ _ { w with drawn := w.drawn + 1 } ((Below.refl _ w).drew) (by simp) H2
  rw [htl, show n - 1 + 1 + (l.toArray.size - n) = l.toArray.size by simp; omega] at this
  exact this
theorem noPanic_not {Q : Exit → Act → World → Prop} : ∀ c a w, ¬ NoPanic Q (.panic c) a w := fun _ _ _ h => h
/-- A forced tail, some takings of parts out of a tuple being seen ahead of it. -/
theorem wp_region_up_tail_e {id : Nat} {Q : Exit → Act → World → Prop} {a : Act} {w : World} {l : List Oper} (es : List (Nat × Nat)) (n : Nat) (hm : P.follows .mixedOrders = true) (hA : addLB l es = true) (hB : Region.lexTailB .any (addL l es).toArray n = true)
    (h : wpQuiet P (addL l es).toArray (fun w' => ∃ u : Up w, w' = u.w) (fun a' => ∀ w', (∃ u : Up w, w' = u.w) → wpList P (addL l es).toArray (NoPanic Q) ((addL l es).drop n) a' w') ((addL l es).take n) a) : (Code.region id l.toArray true).wp P Q a w := by
  refine wp_region_noPanic (wp_region_any hm ?_)
  have H := wpAny_quiet_tail (C := fun w' => ∃ u : Up w, w' = u.w) (Q := NoPanic Q) n hB ⟨⟨_, (Below.refl _ w).drew⟩, rfl⟩ h
  simp only [List.size_toArray] at H ⊢
  rw [addL_len] at H
  exact wpAny_addL noPanic_not a _ es l hA H
theorem wp_region_up_alloc_e {id : Nat} {Q : Exit → Act → World → Prop} {a : Act} {w : World} {l : List Oper} (es : List (Nat × Nat)) (n h : Nat) {oh : Oper} {o : Obj} (hm : P.follows .mixedOrders = true) (hA : addLB l es = true) (hB : lexOddB .any (addL l es).toArray n h = true)
    (hoh : (addL l es)[h]? = some oh) (hg : oh.guard = none) (hal : ∀ (a : Act) (w : World), (execOp a.eval oh).run P w = .ok (.value (.pointer (some ⟨w.heap.size, 0, none⟩))) (w.alloc o))
    (H : ∀ X : Up w, wpQuiet P (addL l es).toArray (fun w' => ∃ u : Up X.w, w' = u.w) (fun a' => ∀ (q : Nat) (u : Up w), w.heap.size ≤ q → u.w.heap[q]? = some o → wpList P (addL l es).toArray (NoPanic Q) ((addL l es).drop n) (a'.put oh.dst (.pointer (some ⟨q, 0, none⟩))) u.w) (((addL l es).take n).eraseIdx h) a) : (Code.region id l.toArray true).wp P Q a w := by
  refine wp_region_noPanic (wp_region_any hm ?_)
  have H2 := wpAny_up_odd (Q := NoPanic Q) n h oh (LaidAt w o) hB hoh LaidAt.keeps fun X => wpQuiet_mono (fun a' h' => ⟨⟨by simp [Region.wanted, hg], fun u => by rw [hal]; exact ⟨LaidAt.mk u _, (Below.refl _ _).alloc (Nat.le_refl _) _⟩⟩, by
    rintro _ u ⟨q, rfl, hq, hc⟩; exact h' q u hq hc⟩) _ _ (H X)
  simp only [List.size_toArray] at H2 ⊢
  rw [addL_len] at H2
  exact wpAny_addL noPanic_not a _ es l hA H2
end
end Go.Proofs.Ytbnbakienajhmaa
