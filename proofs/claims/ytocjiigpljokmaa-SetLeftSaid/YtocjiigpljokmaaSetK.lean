/- The law SetLeft. -/
import Derived.Test.YtocjiigpljokmaaSetJ
import Derived.Test.YtocjiigpljokmaaBlk
namespace Go.Proofs.Ytocjiigpljokmaa
open Go.ChangeShapes Go.WideShapes Go.ChangeAt Go.RowKit Go.Shelf
set_option linter.unusedVariables false
attribute [local go_sem] Oper.semAt_some

theorem ret_of_below {b : Nat} {X W : World} (h : Below b X W) {k i : Nat} (hk : k < b) {v : Value} (hc : X.cell? ⟨k, i, none⟩ = some v) : W.cell? ⟨k, i, none⟩ = some v := by
  rw [h.cell (p := ⟨k, i, none⟩) hk]; exact hc
theorem prefix_at {l pre : List Int} {x : Int} (hp : pre <+: l) (hn : pre.length < l.length) (hx : x = l.getD pre.length 0) : pre ++ [x] <+: l := by
  obtain ⟨t, rfl⟩ := hp
  cases t with
  | nil => simp at hn
  | cons y t => subst hx; exact ⟨t, by simp [List.getD]⟩
theorem prefix_last {l pre : List Int} {x : Int} (hp : pre ++ [x] <+: l) : x = l.getD pre.length 0 := by
  obtain ⟨t, rfl⟩ := hp
  simp [List.getD]
theorem ownFrom_imp {β : Type} {B : Nat} {p : β → Prop} {I : β → World → Prop} (h : OwnFrom B I) : OwnFrom B (fun s W => p s → I s W) :=
  fun s A C row hs hg hr hp => h s A C row (hs hp) hg hr
set_option maxRecDepth 100000 in
set_option maxHeartbeats 8000000 in
theorem setLeft_walk (s p : Int) (w : World) (_ : InKind .i64 s) (_ : InKind .i64 p) :
    Calls Try.prog 5 #[.int .i64 s, .int .i64 p] w fun e w' => e = .returned (.bool true) ∧ Below w.heap.size w w' := by
  have hlen : (listM s).length ≤ 8 := setL_length s 8
  by_cases hz : (listM s).length = 0
  · have h0 : (((listM s).length : Int) == 0) = true := by rw [hz]; rfl
    clear hz
    go_enter Try.func5, Try.ntmps5
    go_wp2_with (first
    | (go_at_call 11; refine (RetInts.up (leach_any _ _)).mono ?_; rintro e w' ⟨a1, cap1, u, rfl, rfl, hi⟩)
    | (go_at_call 13; refine (scount_any _ _).mono ?_; rintro e w' ⟨rfl, rfl⟩)
    | (go_at_call 8; refine (Up.run (awake_any _)).mono ?_; rintro e w' ⟨rfl, u, rfl⟩))
    go_returns
    exact ⟨rfl, by (repeat' (first | (with_reducible exact Below.refl _ _) | (with_reducible assumption) | (with_reducible refine Below.setCell ?_ ?_ _) | (with_reducible refine Below.alloc ?_ ?_ _) | (with_reducible refine Below.drew ?_) | (with_reducible refine Up.base _ ?_ ?_) | (with_reducible exact LeSize.out) | exact LeSize.out | exact Nat.le_add_right_of_le LeSize.out | exact Nat.le_add_right_of_le (Nat.le_add_right_of_le LeSize.out) | (with_reducible exact Nat.le_refl _) | (simp; done) | (simp; omega)))⟩
  have hpos : 1 ≤ ((listM s).length : Int) := by omega
  have hK0 : 0 ≤ p % ((listM s).length : Int) := Int.emod_nonneg _ (by omega)
  have hK1 : p % ((listM s).length : Int) < (listM s).length := Int.emod_lt_of_pos _ (by omega)
  have h0 : (((listM s).length : Int) == 0) = false := beq_eq_false_iff_ne.2 (by omega)
  clear hz
  refine (callsIn_wide (n := 6)).1 ?_
  refine callsIn_of_wp_marks Try.func5 rfl trivial ?_ rfl
  simp only [Try.ntmps5, List.size_toArray, List.length_cons, List.length_nil, Nat.reduceAdd, Nat.reduceSub, Array.replicate_succ, Array.replicate_zero, List.push_toArray, List.append_toArray, List.nil_append, List.cons_append]
  gi_wp2_with (first
    | (refine ⟨trivial, ?_⟩; gi_at_call 11; refine (callsIn_wide.2 (RetInts.up (leach_any _ _))).mono ?_; rintro e w' ⟨a1, cap1, u, rfl, rfl, hi⟩)
    | (refine ⟨trivial, ?_⟩; gi_at_call 15; refine (callsIn_wide.2 (place_any _ _ _ (by omega) (by omega))).mono ?_; rintro e w' ⟨rfl, rfl⟩)
    | (refine ⟨trivial, ?_⟩; gi_at_call 16; refine (callsIn_wide.2 (each_any _ _)).mono ?_; rintro e w' ⟨rfl, rfl⟩))
  obtain ⟨b, off, rfl, hbs, hcl⟩ := hi.cell (by omega)
  have ib : LeSize (b + 1) u.w := ⟨hbs⟩
  obtain ⟨X, hX⟩ : ∃ X, ((((u.w.alloc (.cells #[.slice (some ⟨b, off, none⟩) (listM s).length cap1] 22)).alloc (.cells #[.int .i64 (p % ((listM s).length : Int))] 3)).alloc (.cells #[.int .i64 s] 3)).alloc (.cells #[.int .i64 0] 3)) = X := ⟨_, rfl⟩
  have hl : Boxed X u.w.heap.size 22 (.slice (some ⟨b, off, none⟩) (listM s).length cap1) := by rw [← hX]; exact (inferInstance : IsBlk _ _ _ _).out
  have hk : Boxed X (u.w.heap.size + 1) 3 (.int .i64 (p % ((listM s).length : Int))) := by rw [← hX]; exact (inferInstance : IsBlk _ _ _ _).out
  have hcb : Boxed X (u.w.heap.size + 1 + 1) 3 (.int .i64 s) := by rw [← hX]; exact (inferInstance : IsBlk _ _ _ _).out
  have hn : Boxed X (u.w.heap.size + 1 + 1 + 1) 3 (.int .i64 0) := by rw [← hX]; exact (inferInstance : IsBlk _ _ _ _).out
  have hr : Boxed X w.heap.size 4 (.bool false) := by rw [← hX]; exact (inferInstance : IsBlk _ _ _ _).out
  have hXs : X.heap.size = u.w.heap.size + 1 + 1 + 1 + 1 := by rw [← hX]; simp
  have hBX : Below w.heap.size w X := by rw [← hX]; (repeat' (first | (with_reducible exact Below.refl _ _) | (with_reducible assumption) | (with_reducible refine Below.setCell ?_ ?_ _) | (with_reducible refine Below.alloc ?_ ?_ _) | (with_reducible refine Below.drew ?_) | (with_reducible refine Up.base _ ?_ ?_) | (with_reducible exact LeSize.out) | exact LeSize.out | exact Nat.le_add_right_of_le LeSize.out | exact Nat.le_add_right_of_le (Nat.le_add_right_of_le LeSize.out) | (with_reducible exact Nat.le_refl _) | (simp; done) | (simp; omega)))
  have hcX : ∀ j, j < (listM s).length → X.cell? ⟨b, off + j, none⟩ = some (.int .i64 ((listM s).getD j 0)) := fun j hj => by
    rw [← hX]; simp only [cell_past]; exact hcl j hj
  rw [hX]
  clear hX
  have hwu : w.heap.size + 1 ≤ u.w.heap.size := by have := u.bel.size; simpa using this
  have h1 : (1 : Nat) ≤ 6 := by omega
  have hstops := each_stops 5 (by omega) (u.w.heap.size + 1 + 1) s X (by omega) hcb.cell
  refine wpIn_rangeFunc_ownG rfl h1 (gf := 27) (lb := #[.pointer (some ⟨u.w.heap.size + 1 + 1, 0, none⟩)]) rfl trivial (enters_of Try.func27 (by kernel_rfl) rfl)
    hstops keepB_t (keepB_b (by omega)) (Below.refl _ _) (fun _ => rfl)
    (fun pre W => ((Boxed W (u.w.heap.size + 1 + 1 + 1) 3 (.int .i64 (pre.length : Int))) ∧ Below (u.w.heap.size + 1 + 1 + 1) X W) ∧ (pre <+: listM s ∧ (pre.length : Int) ≤ p % ((listM s).length : Int)))
    (fun c pre W => (c = .exit 0 ∨ ¬ pre <+: listM s) ∧ (pre <+: listM s → (Boxed W (u.w.heap.size + 1 + 1 + 1) 3 (.int .i64 (p % ((listM s).length : Int))) ∧ Below (u.w.heap.size + 1 + 1 + 1) X W)))
    (OwnFrom.and (OwnFrom.and (Own.from (boxed_own (u.w.heap.size + 1 + 1 + 1) 3 fun pre : List Int => Value.int .i64 (pre.length : Int)) _) (ownFrom_below (by omega) (by omega))) (ownFrom_pure _ _))
    (fun c => OwnFrom.and (ownFrom_pure _ _) (ownFrom_imp (OwnFrom.and (Own.from (boxed_own _ _ _) _) (ownFrom_below (by omega) (by omega)))))
    ⟨⟨hn, Below.refl _ _⟩, List.nil_prefix, hK0⟩
    (fun x => { tmps := #[.int .i64 s, .int .i64 p, undef, undef, .pointer (some ⟨w.heap.size, 0, none⟩), .pointer (some ⟨u.w.heap.size, 0, none⟩), .pointer (some ⟨u.w.heap.size + 1, 0, none⟩), (.func (.func 27) #[] #[.pointer (some ⟨u.w.heap.size + 1 + 1, 0, none⟩)]), .pointer (some ⟨u.w.heap.size + 1 + 1 + 1, 0, none⟩), .int .i64 x, undef, undef, .int .i64 s, .slice (some ⟨b, off, none⟩) (listM s).length cap1, .slice (some ⟨b, off, none⟩) (listM s).length cap1, .int .i64 ((listM s).length : Int), .bool false, undef, undef, undef, undef, undef, undef, .int .i64 p, .slice (some ⟨b, off, none⟩) (listM s).length cap1, .int .i64 ((listM s).length : Int), .int .i64 (p % ((listM s).length : Int)), .int .i64 s, (.func (.func 27) #[] #[.pointer (some ⟨u.w.heap.size + 1 + 1, 0, none⟩)]), (.func (.func 27) #[] #[.pointer (some ⟨u.w.heap.size + 1 + 1, 0, none⟩)]), .int .i64 x, undef, undef, undef, undef, undef, undef, undef, undef, undef, undef, undef, undef, undef, undef, undef, undef, undef, undef, undef, undef, undef, undef, undef, undef, undef, undef, undef, undef, undef, undef, undef, undef, undef, undef, undef, undef, undef, undef, undef], defers := [] }) ?assign ?body ?done ?stop
  case assign =>
    intro l x W K hK
    gi_wp2
    exact hK
  case body =>
    rintro l pre x W ⟨⟨hnW, hB⟩, hp, hpk⟩ hlt
    have c1 := ret_of_below hB (by omega) hl.cell
    have c2 := ret_of_below hB (by omega) hk.cell
    have c3 := hnW.cell
    have f3 := hnW.frozen
    have c4 := ret_of_below hB (by omega) (hcX pre.length hlt)
    by_cases hx : x = (listM s).getD pre.length 0
    · have hpx := prefix_at hp hlt hx
      generalize (listM s).getD pre.length 0 = y at *
      subst hx
      by_cases hnk : (pre.length : Int) = p % ((listM s).length : Int)
      · have e1 : ((pre.length : Int) == p % ((listM s).length : Int)) = true := beq_iff_eq.2 hnk
        have HN := Lib.hid hnk
        clear hnk
        gi_wp2
        exact ⟨KeepsFrom.refl _ _, .inl rfl, fun _ => ⟨by rw [← HN.out]; exact hnW, hB⟩⟩
      · have e1 : ((pre.length : Int) == p % ((listM s).length : Int)) = false := beq_eq_false_iff_ne.2 hnk
        have hlt3 : (pre.length : Int) < p % ((listM s).length : Int) := by omega
        clear hnk
        gi_wp2
        exact ⟨(KeepsOthers.setCell _ _ _).from _, Below.heap_setCell _ _ _ _ (by simp), ⟨by simpa using hnW.set (.int .i64 ((pre.length : Int) + 1)), hB.setCell (p := ⟨u.w.heap.size + 1 + 1 + 1, 0, none⟩) (Nat.le_refl _) _⟩, hpx, by simp; omega⟩
    · have hbad : ¬ (pre ++ [x]) <+: listM s := fun h => hx (prefix_last h)
      generalize (listM s).getD pre.length 0 = y at *
      have e1 : (x != y) = true := by rw [bne_iff_ne]; exact hx
      clear hx
      have c5 := ret_of_below hB (by omega) hr.cell
      have f5 : W.frozen? ⟨w.heap.size, 0, none⟩ = false := by rw [hB.frozen (p := ⟨w.heap.size, 0, none⟩) (by simp; omega)]; exact hr.frozen
      gi_wp2
      exact ⟨(KeepsOthers.setCell _ _ _).from _, .inr hbad, fun h => absurd h hbad⟩
  case done =>
    rintro D ys W hD rfl ⟨⟨hnW, hB⟩, hp, hpk⟩ hK
    exact absurd hK1 (by omega)
  case stop =>
    rintro D c pre W hD hpre ⟨hc, hI⟩ hK
    rcases hc with rfl | hc
    · obtain ⟨hnW, hB⟩ := hI hpre
      clear hI
      gi_wp2
      have hDW : D < W.heap.size := (Array.getElem?_eq_some_iff.1 hK).1
      obtain ⟨Y, hY⟩ : ∃ Y, W.alloc (.cells #[.int .i64 0] 3) = Y := ⟨_, rfl⟩
      have hm : Boxed Y W.heap.size 3 (.int .i64 0) := by rw [← hY]; exact Boxed.new _ _ _
      have hl2 : Boxed Y u.w.heap.size 22 (.slice (some ⟨b, off, none⟩) (listM s).length cap1) := by rw [← hY]; exact Boxed.alloc ((hB.block _ (by omega)).trans hl) _
      have hk2 : Boxed Y (u.w.heap.size + 1) 3 (.int .i64 (p % ((listM s).length : Int))) := by rw [← hY]; exact Boxed.alloc ((hB.block _ (by omega)).trans hk) _
      have hcb2 : Boxed Y (u.w.heap.size + 1 + 1) 3 (.int .i64 s) := by rw [← hY]; exact Boxed.alloc ((hB.block _ (by omega)).trans hcb) _
      have hr2 : Boxed Y w.heap.size 4 (.bool false) := by rw [← hY]; exact Boxed.alloc ((hB.block _ (by omega)).trans hr) _
      have hn2 : Boxed Y (u.w.heap.size + 1 + 1 + 1) 3 (.int .i64 (p % ((listM s).length : Int))) := by rw [← hY]; exact hnW.alloc _
      have hKY : Y.heap[D]? = some (.deferred (some [])) := by rw [← hY, Below.heap_alloc _ _ _ hDW]; exact hK
      have hYs : Y.heap.size = W.heap.size + 1 := by rw [← hY]; simp
      have hWs := hnW.lt
      have hBY : Below w.heap.size w Y := by rw [← hY]; exact (hBX.trans (hB.mono (by omega))).alloc (by omega) _
      have hcY : ∀ j, j < (listM s).length → Y.cell? ⟨b, off + j, none⟩ = some (.int .i64 ((listM s).getD j 0)) := fun j hj => by
        rw [← hY, World.cell?_alloc_past _ _ _ (by omega)]; exact ret_of_below hB (by omega) (hcX j hj)
      rw [hY]
      clear hY hnW hl hk hcb hn hr hcX hB
      have hstops := each_stops 5 (by omega) (u.w.heap.size + 1 + 1) s Y (by omega) hcb2.cell
      refine wpIn_rangeFunc_ownG rfl h1 (gf := 27) (lb := #[.pointer (some ⟨u.w.heap.size + 1 + 1, 0, none⟩)]) rfl trivial (enters_of Try.func27 (by kernel_rfl) rfl)
        hstops keepB_t (keepB_b (by omega)) (Below.refl _ _) (fun _ => rfl)
        (fun pre W2 => ((Boxed W2 W.heap.size 3 (.int .i64 (pre.length : Int))) ∧ Below W.heap.size Y W2) ∧ pre <+: listM s)
        (fun c pre W2 => ¬ pre <+: listM s)
        (OwnFrom.and (OwnFrom.and (Own.from (boxed_own W.heap.size 3 fun pre : List Int => Value.int .i64 (pre.length : Int)) _) (ownFrom_below (by omega) (by omega))) (ownFrom_pure _ _))
        (fun c => ownFrom_pure _ _)
        ⟨⟨hm, Below.refl _ _⟩, List.nil_prefix⟩
        (fun x => { tmps := #[.int .i64 s, .int .i64 p, undef, undef, .pointer (some ⟨w.heap.size, 0, none⟩), .pointer (some ⟨u.w.heap.size, 0, none⟩), .pointer (some ⟨u.w.heap.size + 1, 0, none⟩), (.func (.func 27) #[] #[.pointer (some ⟨u.w.heap.size + 1 + 1, 0, none⟩)]), .pointer (some ⟨u.w.heap.size + 1 + 1 + 1, 0, none⟩), undef, .pointer (some ⟨W.heap.size, 0, none⟩), .int .i64 x, .int .i64 s, .slice (some ⟨b, off, none⟩) (listM s).length cap1, .slice (some ⟨b, off, none⟩) (listM s).length cap1, .int .i64 ((listM s).length : Int), .bool false, undef, undef, undef, undef, undef, undef, .int .i64 p, .slice (some ⟨b, off, none⟩) (listM s).length cap1, .int .i64 ((listM s).length : Int), .int .i64 (p % ((listM s).length : Int)), .int .i64 s, (.func (.func 27) #[] #[.pointer (some ⟨u.w.heap.size + 1 + 1, 0, none⟩)]), (.func (.func 27) #[] #[.pointer (some ⟨u.w.heap.size + 1 + 1, 0, none⟩)]), undef, undef, undef, undef, undef, undef, undef, undef, undef, undef, undef, undef, (.func (.func 27) #[] #[.pointer (some ⟨u.w.heap.size + 1 + 1, 0, none⟩)]), .int .i64 x, undef, undef, undef, undef, undef, undef, undef, undef, undef, undef, undef, undef, undef, undef, undef, undef, undef, undef, undef, undef, undef, undef, undef, undef, undef, undef], defers := [] }) ?assign2 ?body2 ?done2 ?stop2
      case assign2 =>
        intro l x W K hK
        gi_wp2
        exact hK
      case body2 =>
        rintro l pre x W2 ⟨⟨hmW, hB⟩, hp⟩ hlt
        have c1 := ret_of_below hB (by omega) hl2.cell
        have c3 := hmW.cell
        have f3 := hmW.frozen
        have c4 := ret_of_below hB (by omega) (hcY pre.length hlt)
        have hlt2 : (pre.length : Int) < (listM s).length := by omega
        by_cases hx : x = (listM s).getD pre.length 0
        · have hpx := prefix_at hp hlt hx
          generalize (listM s).getD pre.length 0 = y at *
          subst hx
          gi_wp2
          exact ⟨(KeepsOthers.setCell _ _ _).from _, Below.heap_setCell _ _ _ _ (by simp; omega), ⟨by simpa using hmW.set (.int .i64 ((pre.length : Int) + 1)), hB.setCell (p := ⟨W.heap.size, 0, none⟩) (Nat.le_refl _) _⟩, hpx⟩
        · have hbad : ¬ (pre ++ [x]) <+: listM s := fun h => hx (prefix_last h)
          generalize (listM s).getD pre.length 0 = y at *
          have e1 : (x != y) = true := by rw [bne_iff_ne]; exact hx
          clear hx
          have c5 := ret_of_below hB (by omega) hr2.cell
          have f5 : W2.frozen? ⟨w.heap.size, 0, none⟩ = false := by rw [hB.frozen (p := ⟨w.heap.size, 0, none⟩) (by simp; omega)]; exact hr2.frozen
          gi_wp2
          exact ⟨(KeepsOthers.setCell _ _ _).from _, hbad⟩
      case stop2 =>
        rintro D2 c2 pre2 W2 hD2 hpre2 hbad hK2
        exact absurd hpre2 hbad
      case done2 =>
        rintro D2 ys W2 hD2 rfl ⟨⟨hmW, hB⟩, _⟩ hK2
        have c1 := ret_of_below hB (by omega) hl2.cell
        have c2 := ret_of_below hB (by omega) hk2.cell
        have c3 := hmW.cell
        have c4 := ret_of_below hB (by omega) hn2.cell
        have c5 := ret_of_below hB (by omega) hr2.cell
        have f5 : W2.frozen? ⟨w.heap.size, 0, none⟩ = false := by rw [hB.frozen (p := ⟨w.heap.size, 0, none⟩) (by simp; omega)]; exact hr2.frozen
        have hKW : W2.heap[D]? = some (.deferred (some [])) := (hB.block _ hDW).trans hKY
        have j0 : LeSize (w.heap.size + 1) W2 := ⟨by have := hB.size; omega⟩
        have hD2W : D2 < W2.heap.size := (Array.getElem?_eq_some_iff.1 hK2).1
        have hDW2 : D < W2.heap.size := (Array.getElem?_eq_some_iff.1 hKW).1
        gi_wp2_with (refine ⟨trivial, ?_⟩; gi_at_call 8; refine (callsIn_wide.2 (Up.run (awake_any _))).mono ?_; rintro e w' ⟨rfl, u2, rfl⟩)
        have hu2 : u2.w.cell? ⟨w.heap.size, 0, none⟩ = some (.bool false) := by rw [Up.cell]; exact c5
        have hE2 : (u2.w.setCell ⟨w.heap.size, 0, none⟩ (.bool true)).heap[D2]? = some (.deferred (some [])) := by
          rw [Below.heap_setCell _ _ _ _ (by simp; omega), u2.bel.block _ hD2W]; exact hK2
        have hE1 : ((u2.w.setCell ⟨w.heap.size, 0, none⟩ (.bool true)).putObj D2 (.deferred none)).heap[D]? = some (.deferred (some [])) := by
          rw [World.putObj_heap_other (by omega), Below.heap_setCell _ _ _ _ (by simp; omega), u2.bel.block _ hDW2]; exact hKW
        refine ⟨by simp, .inl ⟨_, _, rfl, run_takeDeferred hE2, by simp, .inl ⟨_, _, rfl, run_takeDeferred hE1, ?_⟩⟩⟩
        have hc6 := cell_kept (World.cell?_setCell_same' u2.w ⟨w.heap.size, 0, none⟩ (.bool true) (by rw [hu2]; rfl)) (grownBy_putObj' _ D2 (.deferred none)) (fun r e => by cases e; exact ⟨_, hE2, rfl⟩)
        have hc7 := cell_kept hc6 (grownBy_putObj' _ D (.deferred none)) (fun r e => by cases e; exact ⟨_, hE1, rfl⟩)
        have hb1 : Below w.heap.size w (u2.w.setCell ⟨w.heap.size, 0, none⟩ (.bool true)) := ((hBY.trans (hB.mono (by omega))).trans (u2.bel.mono (by omega))).setCell (p := ⟨w.heap.size, 0, none⟩) (Nat.le_refl _) _
        have hb2 := hb1.trans (belowK_b (n₀ := w.heap.size) (w := w) (Nat.le_refl _) _ D2 _ (.deferred none) (by omega) hE2 rfl rfl)
        have hb3 := hb2.trans (belowK_b (n₀ := w.heap.size) (w := w) (Nat.le_refl _) _ D _ (.deferred none) (by omega) hE1 rfl rfl)
        refine ⟨.bool true, ?_, rfl, hb3⟩
        simp [results, Try.f5, go_sem, hc7]
    · exact absurd hpre hc

set_option maxRecDepth 100000 in
theorem SetLeft_lifted (os : Os) (started : os.Started) (H : Type) (enc : TypeId × Value → H) :
    ReturnsInHanded {} Try.checked os 5 .any (Rows.setLeftSpec.pre6 enc Try.prog Try.f5 Rows.setLeftRow.domain false) (Rows.setLeftSpec.post enc Try.prog Try.f5 false true false false) := by
  refine returnsInHanded_of_change (C := Try.checked) own started (by kernel_rfl) Try.func5
    (ChangeSpec.witness6 (enc := enc) (C := Try.checked) false ⟨#[], #[.int .i64 0, .int .i64 0], []⟩ 8 (by kernel_rfl) (by kernel_rfl) (by kernel_rfl) (by kernel_rfl)) ?_
  intro W base args ds gs before hval0 hW hcnd _
  have hval : ∀ (j : Nat) t v, Try.f5.params[j]? = some t → args[j]? = some v → Value.okWide Try.prog W .any base t v := hval0
  have hW' := hW
  obtain ⟨p, q, hA0, hV, rfl, hfz, hnd⟩ := hW
  have hA : DataW.TrodAll enc Try.prog W 0 (fun _ => true) true Try.f5.params.toList args.toList ds p := hA0
  rw [Try.params5] at hA hval
  obtain ⟨v0, vs0, d0, ds0, p0, q0, hargs, rfl, rfl, h0, r0⟩ := trodAll_cons hA
  obtain ⟨v1, vs1, d1, ds1, p1, q1, rfl, rfl, rfl, h1, r1⟩ := trodAll_cons r0
  obtain ⟨rfl, rfl, rfl⟩ := trodAll_nil r1
  obtain rfl : args = #[v0, v1] := by cases args; simp_all
  obtain ⟨rfl, rfl⟩ := trodVars_none hV
  have k0 := h0
  have lt0 : ∀ x ∈ p0, x.block < W.heap.size := by obtain ⟨m, hm⟩ := k0; exact DataW.trod_lt m _ _ _ hm
  have k1 := h1
  have lt1 : ∀ x ∈ p1, x.block < W.heap.size := by obtain ⟨m, hm⟩ := k1; exact DataW.trod_lt m _ _ _ hm
  obtain ⟨a0, rfl, w0⟩ := open_int1 Try.underlying3 (hval 0 3 v0 rfl rfl)
  obtain ⟨a1, rfl, w1⟩ := open_int1 Try.underlying3 (hval 1 3 v1 rfl rfl)
  clear hA0 hval0
  refine (setLeft_walk a0 a1 W w0 w1).mono fun e W' ⟨he, bel⟩ => ?_
  subst he
  exact ⟨_, rfl, _, _, _, [], _, [], hW', trodAll_mk1 (shut_bool Try.underlying4 _), (trodAll_cons_mk (Below.trod laidOut (by kernel_rfl) (of_decide_eq_true (by kernel_rfl)) k0 bel lt0) (trodAll_cons_mk (Below.trod laidOut (by kernel_rfl) (of_decide_eq_true (by kernel_rfl)) k1 bel lt1) trodAll_mk0)), rfl, bel.frame _, fun h => by cases h⟩

theorem SetLeft_over : Rows.setLeftRow.holds Try.pinned (OpenSpec.ofChange Rows.setLeftSpec) :=
  OpenClaim.holds_of_wide 5 Try.f5 rfl rfl rfl rfl rfl rfl rfl ⟨rfl, rfl, rfl, rfl, rfl⟩ rfl rfl rfl rfl rfl (by kernel_rfl) Try.func5 (by kernel_rfl)
    (of_decide_eq_true (by kernel_rfl)) (by unfold Func.isWrapper; first | (rw [if_pos (by decide +kernel)]; kernel_rfl) | (rw [if_neg (by decide +kernel)]; exact ⟨rfl, rfl⟩))
    (fun os started H enc _ => SetLeft_lifted os started H enc)

/-- The given statement. -/
theorem SetLeft_holds : Rows.SetLeftSaid := SetLeft_over
#print axioms SetLeft_holds
end Go.Proofs.Ytocjiigpljokmaa
