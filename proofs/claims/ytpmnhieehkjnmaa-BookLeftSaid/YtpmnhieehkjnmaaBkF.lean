/- Books: all. -/
import Derived.Test.YtpmnhieehkjnmaaBkE
namespace Go.Proofs.Ytpmnhieehkjnmaa
open Go.RowKit Go.Shelf
set_option linter.unusedVariables false
attribute [local go_sem] Oper.semAt_some

theorem ownsRow_lessE {W : World} {b b' : Nat} {e : TypeId} {size : Nat} {v : Value} {n : Nat} {xs : List Value} (h : W.ownsRow b e size v n xs) (hb : b' ≤ b) : W.ownsRow b' e size v n xs := by
  obtain ⟨h1, h⟩ := h
  refine ⟨h1, ?_⟩
  rcases h with h | ⟨g, cap, cur, e, hg, hr⟩
  · exact .inl h
  · exact .inr ⟨g, cap, cur, e, by omega, hr⟩
theorem func_nilE (a : Addr) (w : World) : Sem.run Try.prog (binOp BinOp.eql 46 (Value.func (Fn.func 19) #[] #[Value.pointer (some a)]) Value.nilFunc) w = .ok (.bool false) w := by
  rfl
set_option maxRecDepth 100000 in
set_option maxHeartbeats 4000000 in
theorem lall_any (b : Nat) (v0 : Value) (B : Bk) (w : World) (h : BookAt w b v0 B) : Calls Try.prog 13 #[.pointer (some ⟨b, 0, none⟩)] w fun e w' => ∃ v', e = .returned v' ∧ OwnK 34 3 evC w' w.heap.size v' B.L ∧ Below w.heap.size w w' := by
  obtain ⟨i0, hi, hz0, hz1, hz2⟩ := info_parts info_ev
  obtain ⟨_, _, _, _, _, _, hlen⟩ := h.opened
  have hfn := func_nilE
  have hown0 : ∀ k, v0.ownBlock = some k → k < w.heap.size := fun k hk => (h.own k hk).1
  refine (callsIn_wide (n := 5)).1 ?_
  refine callsIn_of_wp_marks Try.func13 rfl trivial ?_ rfl
  simp only [Try.ntmps13, List.size_toArray, List.length_cons, List.length_nil, Nat.reduceAdd, Nat.reduceSub, Array.replicate_succ, Array.replicate_zero, List.push_toArray, List.append_toArray, List.nil_append, List.cons_append]
  gi_wp2_with (refine ⟨trivial, ?_⟩; gi_at_call 17; refine (callsIn_wide.2 (ball_fn _ _)).mono ?_; rintro e w' ⟨rfl, rfl⟩)
  have bO := Boxed.new w 28 (.slice none 0 0)
  have bN := Boxed.new (w.alloc (.cells #[.slice none 0 0] 28)) 23 (.pointer (some ⟨b, 0, none⟩))
  rw [World.size_alloc] at bN
  have hB0 : Below w.heap.size w ((w.alloc (.cells #[.slice none 0 0] 28)).alloc (.cells #[.pointer (some ⟨b, 0, none⟩)] 23)) := ((Below.refl _ w).alloc (Nat.le_refl _) _).alloc (by simp) _
  have h1 : (1 : Nat) ≤ 5 := by omega
  have hstops := ball_stops 4 (by omega) (w.heap.size + 1) b v0 B ((w.alloc (.cells #[.slice none 0 0] 28)).alloc (.cells #[.pointer (some ⟨b, 0, none⟩)] 23)) (by simp) bN.cell (h.below hB0)
  have hkr : ∀ W W', Below w.heap.size w W → Below w.heap.size w W' → W.heap.size ≤ W'.heap.size → KeepRow v0 B.L.length W W' := fun W W' h1 h2 h3 => ⟨h3, fun k hk i _ => World.cell?_of_block (a := ⟨k, i, none⟩) ((h2.block k (hown0 k hk)).trans (h1.block k (hown0 k hk)).symm)⟩
  have HKR := Lib.hid hkr
  clear h hkr
  refine wpIn_rangeFunc_ownH rfl h1 (gf := 19) (lb := #[.pointer (some ⟨w.heap.size + 1, 0, none⟩)]) rfl trivial (enters_of Try.func19 (by kernel_rfl) rfl)
    hstops keepRow_t (keepRow_b (fun k hk => by have := hown0 k hk; simp; omega)) (Below.refl _ _) (fun _ => rfl)
    (fun pre W => ((∃ v, Boxed W w.heap.size 28 v ∧ W.ownsRow (w.heap.size + 2) 34 3 v pre.length (pre.flatMap evC) ∧ True) ∧ Boxed W (w.heap.size + 1) 23 (.pointer (some ⟨b, 0, none⟩))) ∧ Below w.heap.size w W)
    (fun _ _ _ => False)
    (OwnFrom.and (OwnFrom.and (Own.from (holdsRow_own (w.heap.size + 2) w.heap.size 28 34 3 (fun pre : List Ev => pre.length) (fun pre : List Ev => pre.flatMap evC) (fun _ _ => True)) _) (Own.from (boxed_own _ _ _) _)) (ownFrom_below (Nat.le_refl _) (by simp; omega)))
    (fun _ _ _ _ _ hs _ _ => hs)
    ⟨⟨⟨_, bO.alloc _, World.ownsRow_nil _ _ _ _, trivial⟩, bN⟩, hB0⟩
    (fun x a' W => ∃ q, a' = { tmps := #[.pointer (some ⟨b, 0, none⟩), undef, .slice none 0 0, .pointer (some ⟨w.heap.size, 0, none⟩), .pointer (some ⟨q, 0, none⟩), .pointer (some ⟨b, 0, none⟩), .func (.func 19) #[] #[.pointer (some ⟨w.heap.size + 1, 0, none⟩)], .agg #[.int .i64 x.1, .int .i64 x.2.1, .int .i64 x.2.2], undef, undef, undef, undef, undef], defers := [] } ∧ W.heap[q]? = some (.cells #[.int .i64 x.1, .int .i64 x.2.1, .int .i64 x.2.2] 34))
    (fun x a' _ W W' row hs hg hr => by
      obtain ⟨q, e, hq⟩ := hs
      refine ⟨q, e, (hg.block q (Array.getElem?_eq_some_iff.1 hq).1 (fun e => ?_)).trans hq⟩
      obtain ⟨_, o, ho, hc⟩ := hr q e.symm
      rw [hq] at ho; cases ho; cases hc)
    ?assign ?body ?done ?stop
  case assign =>
    rintro l pre x W K ⟨⟨⟨v, hv, hrow, _⟩, hN⟩, hB⟩ hK
    have hB' := hB.alloc hB.size (.cells #[.int .i64 x.1, .int .i64 x.2.1, .int .i64 x.2.2] 34)
    have hk := hK _ _ ((KeepsOthers.alloc W (.cells #[.int .i64 x.1, .int .i64 x.2.1, .int .i64 x.2.2] 34)).from _) (HKR.out _ _ hB hB' (by simp)) ⟨⟨⟨v, hv.alloc _, hrow.kept (World.grownBy_alloc W _ none) (by cases v.ownBlock <;> simp), trivial⟩, hN.alloc _⟩, hB'⟩ ⟨W.heap.size, rfl, heap_alloc_here _ _⟩
    have HK := Lib.hid hk
    clear hK hk hv hrow hB' hB hN
    simp only [evA]
    gi_wp2
    exact HK.out
  case body =>
    rintro l pre x a' W _ _ ⟨⟨⟨v, hv, hrow, _⟩, hN⟩, hB⟩ ⟨q, rfl, hq⟩ hlt
    have hc := hv.cell
    have hq0 := laid_cell hq 0 rfl
    have hq1 := laid_cell hq 1 rfl
    have hq2 := laid_cell hq 2 rfl
    have hsz := hN.lt
    have hnw : ∀ j u, (evC x)[j]? = some u → (W.alloc (.cells #[.int .i64 x.1, .int .i64 x.2.1, .int .i64 x.2.2] 34)).cell? ((⟨W.heap.size, 0, none⟩ : Addr).add j) = some u := fun j u hj => by
      rw [Addr.add_lit, Nat.zero_add]; exact laid_cell (heap_alloc_here _ _) j (by simpa [evC] using hj)
    have h1c : ∀ u ∈ evC x, u.oneCell' = true := fun u hu => by simp [evC] at hu; rcases hu with rfl | rfl | rfl <;> rfl
    have hrow2 : (W.alloc (.cells #[.int .i64 x.1, .int .i64 x.2.1, .int .i64 x.2.2] 34)).ownsRow (w.heap.size + 2) 34 3 v pre.length (pre.flatMap evC) := hrow.kept (World.grownBy_alloc W _ none) (by cases v.ownBlock <;> simp)
    gi_wp2_with (gi_at_builtin; refine wpListIn_append_own _ rfl _ _ 28 rfl (w.heap.size + 2) 34 i0 (.agg #[.int .i64 0, .int .i64 0, .int .i64 0]) 3 24 Try.underlying28 hi hz0 hz1 hz2 rfl (by decide) _ _ _ rfl hrow2 ⟨W.heap.size, 0, none⟩ 1 1 (evC x) rfl rfl hnw h1c (by unfold maxLen; omega) (by omega) (by simp; omega) ?_; intro v' w1 hown' hgrow _; obtain ⟨g', cap', rfl⟩ := ownsRow_succ hown'; obtain ⟨hv1, hv2, hr2, hk2, hb2⟩ := hv.appended (by decide) (ownsRow_lessE hrow (Nat.le_add_right _ 2)) hB.size (Nat.le_refl _) (ownsRow_lessE hown' (Nat.le_add_right _ 2)) hgrow; have hc1 := hv1.cell; have hf1 := hv1.frozen)
    have hN1 : Boxed w1 (w.heap.size + 1) 23 (.pointer (some ⟨b, 0, none⟩)) := (hN.alloc _).kept hgrow (fun e => hN.not_row (by decide) hrow e)
    have hN2 := hN1.kept (grownBy_setCell' w1 w.heap.size (.slice (some ⟨g', 0, none⟩) (pre.length + 1) cap')) (by simp)
    exact ⟨hk2.from _, HKR.out _ _ hB (hB.trans hb2) hb2.size, ⟨⟨⟨_, hv2, by simpa using hown'.kept (grownBy_setCell' w1 w.heap.size _) (.inr (hv1.not_row (by decide) hown').symm), trivial⟩, hN2⟩, hB.trans hb2⟩⟩
  case done =>
    rintro D ys W hD rfl ⟨⟨⟨v, hv, hrow, _⟩, hN⟩, hB⟩ hK
    have hc := hv.cell
    gi_wp2
    refine ⟨by simp, .inl ⟨_, _, rfl, run_takeDeferred hK, ?_⟩⟩
    exact ⟨_, results_tmp rfl _ _ _, v, rfl, ownsRow_lessE (ownsRow_putObj hrow _ hK rfl) (Nat.le_add_right _ 2), hB.trans (belowK_b (w := w) (Nat.le_refl _) W D _ _ (by simp at hD; omega) hK rfl rfl)⟩
  case stop =>
    rintro D c pre W _ _ h _
    exact h.elim
end Go.Proofs.Ytpmnhieehkjnmaa
