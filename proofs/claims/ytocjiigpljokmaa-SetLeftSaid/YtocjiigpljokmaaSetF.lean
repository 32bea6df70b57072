/- A range over Each that collects. -/
import Derived.Test.YtocjiigpljokmaaSetE
namespace Go.Proofs.Ytocjiigpljokmaa
open Go.RowKit Go.Shelf
set_option linter.unusedVariables false
attribute [local go_sem] Oper.semAt_some

theorem func_nil (a : Addr) (w : World) : Sem.run Try.prog (binOp BinOp.eql 33 (Value.func (Fn.func 27) #[] #[Value.pointer (some a)]) Value.nilFunc) w = .ok (.bool false) w := by
  rfl
set_option maxRecDepth 100000 in
set_option maxHeartbeats 4000000 in
theorem leach_any (s : Int) (w : World) : Calls Try.prog 11 #[.int .i64 s] w (RetInts 0 w (listM s)) := by
  obtain ⟨i0, hi, hz0, hz1, hz2⟩ := info_parts info_int
  have hlen : (listM s).length ≤ 8 := setL_length s 8
  have hfn := func_nil
  refine (callsIn_wide (n := 5)).1 ?_
  refine callsIn_of_wp_marks Try.func11 rfl trivial ?_ rfl
  simp only [Try.ntmps11, List.size_toArray, List.length_cons, List.length_nil, Nat.reduceAdd, Nat.reduceSub, Array.replicate_succ, Array.replicate_zero, List.push_toArray, List.append_toArray, List.nil_append, List.cons_append]
  gi_wp2_with (refine ⟨trivial, ?_⟩; gi_at_call 16; refine (callsIn_wide.2 (each_any _ _)).mono ?_; rintro e w' ⟨rfl, rfl⟩)
  have bO := Boxed.new w 22 (.slice none 0 0)
  have bN := Boxed.new (w.alloc (.cells #[.slice none 0 0] 22)) 3 (.int .i64 s)
  rw [World.size_alloc] at bN
  have hB0 : Below w.heap.size w ((w.alloc (.cells #[.slice none 0 0] 22)).alloc (.cells #[.int .i64 s] 3)) := ((Below.refl _ w).alloc (Nat.le_refl _) _).alloc (by simp) _
  have h1 : (1 : Nat) ≤ 5 := by omega
  have hstops := each_stops 4 (by omega) (w.heap.size + 1) s ((w.alloc (.cells #[.slice none 0 0] 22)).alloc (.cells #[.int .i64 s] 3)) (by simp) bN.cell
  refine wpIn_rangeFunc_ownG rfl h1 (gf := 27) (lb := #[.pointer (some ⟨w.heap.size + 1, 0, none⟩)]) rfl trivial (enters_of Try.func27 (by kernel_rfl) rfl)
    hstops keepB_t (keepB_b (by simp)) (Below.refl _ _) (fun _ => rfl)
    (fun pre W => ((∃ v, Boxed W w.heap.size 22 v ∧ W.ownsRow (w.heap.size + 2) 3 1 v pre.length (pre.map (Value.int .i64)) ∧ True) ∧ Boxed W (w.heap.size + 1) 3 (.int .i64 s)) ∧ Below w.heap.size w W)
    (fun _ _ _ => False)
    (OwnFrom.and (OwnFrom.and (Own.from (holdsRow_own (w.heap.size + 2) w.heap.size 22 3 1 (fun pre : List Int => pre.length) (fun pre : List Int => pre.map (Value.int .i64)) (fun _ _ => True)) _) (Own.from (boxed_own _ _ _) _)) (ownFrom_below (Nat.le_refl _) (by simp; omega)))
    (fun _ _ _ _ _ hs _ _ => hs)
    ⟨⟨⟨_, bO.alloc _, World.ownsRow_nil _ _ _ _, trivial⟩, bN⟩, hB0⟩
    (fun x => { tmps := #[.int .i64 s, undef, .slice none 0 0, .pointer (some ⟨w.heap.size, 0, none⟩), .func (.func 27) #[] #[.pointer (some ⟨w.heap.size + 1, 0, none⟩)], .int .i64 x, .int .i64 s, .func (.func 27) #[] #[.pointer (some ⟨w.heap.size + 1, 0, none⟩)], .func (.func 27) #[] #[.pointer (some ⟨w.heap.size + 1, 0, none⟩)], .bool false, .func (.func 27) #[] #[.pointer (some ⟨w.heap.size + 1, 0, none⟩)], .int .i64 x, undef, undef, undef, undef, undef], defers := [] }) ?assign ?body ?done ?stop
  case assign =>
    intro l x W K hK
    gi_wp2
    exact hK
  case body =>
    rintro l pre x W ⟨⟨⟨v, hv, hrow, _⟩, hN⟩, hB⟩ hlt
    have hc := hv.cell
    have hsz := hN.lt
    gi_wp2_with (gi_at_builtin; refine wpListIn_append_own _ rfl _ _ 22 rfl (w.heap.size + 2) 3 i0 (.int .i64 0) 1 8 Try.underlying22 hi hz0 hz1 hz2 rfl (by decide) _ _ _ rfl (hrow.alloc _) ⟨W.heap.size, 0, none⟩ 1 1 [.int .i64 x] rfl rfl (cell_one_new _ _ _) (by simp [Value.oneCell']) (by unfold maxLen; omega) (by omega) (by simp; omega) ?_; intro v' w1 hown' hgrow _; obtain ⟨g', cap', rfl⟩ := ownsRow_succ hown'; obtain ⟨hv1, hv2, hr2, hk2, hb2⟩ := hv.appended (by decide) (ownsRow_less hrow (Nat.le_add_right _ 2)) hB.size (Nat.le_refl _) (ownsRow_less hown' (Nat.le_add_right _ 2)) hgrow; have hc1 := hv1.cell; have hf1 := hv1.frozen)
    have hN1 : Boxed w1 (w.heap.size + 1) 3 (.int .i64 s) := (hN.alloc _).kept hgrow (ownsRow_ne hrow (by omega))
    have hN2 := hN1.kept (grownBy_setCell' w1 w.heap.size (.slice (some ⟨g', 0, none⟩) (pre.length + 1) cap')) (by simp)
    exact ⟨hk2.from _, Eq.trans hN2 hN.symm, ⟨⟨⟨_, hv2, by simpa using hown'.kept (grownBy_setCell' w1 w.heap.size _) (.inr (ownsRow_ne hown' (by omega)).symm), trivial⟩, hN2⟩, hB.trans hb2⟩⟩
  case done =>
    rintro D ys W hD rfl ⟨⟨⟨v, hv, hrow, _⟩, hN⟩, hB⟩ hK
    have hc := hv.cell
    gi_wp2
    refine ⟨by simp, .inl ⟨_, _, rfl, run_takeDeferred hK, ?_⟩⟩
    exact ⟨_, results_tmp rfl _ _ _, v, rfl, ownsRow_less (ownsRow_putObj hrow _ hK rfl) (Nat.le_add_right _ 2), hB.trans (belowK_b (w := w) (Nat.le_refl _) W D _ _ (by simp at hD; omega) hK rfl rfl)⟩
  case stop =>
    rintro D c pre W _ _ h _
    exact h.elim
end Go.Proofs.Ytocjiigpljokmaa
