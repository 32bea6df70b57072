/- Rings: the answers' Put. Rings: Put. Rings: the answers' Put. -/
import Derived.Test.YtbnbakienajhmaaRngA
import Derived.Test.YtbnbakienajhmaaPlnK
import Derived.Test.YtbnbakienajhmaaSetT
import Derived.Test.YtbnbakienajhmaaQrIn
import Derived.Test.YtbnbakienajhmaaEdge
namespace Go.Proofs.Ytbnbakienajhmaa
section
open Go.RowKit Go.Shelf
set_option linter.unusedVariables false
attribute [local go_sem] IsBlk.cell IsBlk.frozen

def whP : Option Spot → Int | some s => s.p | none => 0
theorem spA_eq (o : Option Spot) : spA o = #[.int .i64 (whG o), .int .i64 (whK o), .int .i64 (whI o), .int .i64 (whP o)] := by cases o <;> rfl
theorem whK_01 {gr : List (List Int × List Int)} {p : Int} : whK (whereM gr p) = 0 ∨ whK (whereM gr p) = 1 := by
  cases h : whereM gr p with
  | none => exact .inl rfl
  | some s =>
    have hm : s ∈ spotsM gr := List.mem_of_find?_eq_some h
    unfold spotsM spG at hm
    obtain ⟨g, _, hm⟩ := List.mem_flatMap.1 hm
    unfold spK at hm
    obtain ⟨k, hk, hm⟩ := List.mem_flatMap.1 hm
    unfold spI at hm
    obtain ⟨i, _, hi⟩ := List.mem_filterMap.1 hm
    have hk2 : k < 2 := by simpa using hk
    split at hi
    · simp at hi
      subst hi
      simp only [whK]
      omega
    · cases hi
/-- One phase more, where it stands. -/
def putC (gr : List (List Int × List Int)) (G : Int) (s : Int × Int) (p : Int) : Int × Int :=
  if (whereM gr p).isSome = true ∧ whG (whereM gr p) = G then
    if whK (whereM gr p) = 0 then (if s.1 < 0 then (whI (whereM gr p), s.2) else s) else (if s.2 < 0 then (s.1, whI (whereM gr p)) else s)
  else s
def putG (gr : List (List Int × List Int)) (s : Int) : Int := whG (whereM gr (firstM s))
def putA (gr : List (List Int × List Int)) (s : Int) : Int × Int := (listM s).foldl (putC gr (putG gr s)) (-1, -1)
theorem putC_no {gr : List (List Int × List Int)} {G : Int} {s : Int × Int} {p : Int} (h : (whereM gr p).isSome = false ∨ whG (whereM gr p) ≠ G) : putC gr G s p = s := by
  unfold putC
  rw [if_neg]
  rintro ⟨h1, h2⟩
  rcases h with h | h
  · rw [h] at h1; cases h1
  · exact h h2
theorem putC_0 {gr : List (List Int × List Int)} {G : Int} {s : Int × Int} {p : Int} (h : (whereM gr p).isSome = true) (h1 : whG (whereM gr p) = G) (h2 : whK (whereM gr p) = 0) : putC gr G s p = if s.1 < 0 then (whI (whereM gr p), s.2) else s := by
  unfold putC; rw [if_pos ⟨h, h1⟩, if_pos h2]
theorem putC_1 {gr : List (List Int × List Int)} {G : Int} {s : Int × Int} {p : Int} (h : (whereM gr p).isSome = true) (h1 : whG (whereM gr p) = G) (h2 : whK (whereM gr p) = 1) : putC gr G s p = if s.2 < 0 then (s.1, whI (whereM gr p)) else s := by
  unfold putC; rw [if_pos ⟨h, h1⟩, if_neg (by omega)]
theorem foldl_snoc {α β : Type} (f : β → α → β) (s : β) (l : List α) {k : Nat} {x : α} (h : l[k]? = some x) : (l.take (k + 1)).foldl f s = f ((l.take k).foldl f s) x := by
  rw [List.take_add_one, h]; simp
theorem RetInts.up {w : World} {zs : List Int} {P : Program} {f : FuncId} {args : Array Value} (h : Calls P f args w (RetInts 0 w zs)) : Calls P f args w fun e w' => ∃ a cap, ∃ u : Up w, e = .returned (.slice a zs.length cap) ∧ w' = u.w ∧ Ints u.w a zs := by
  refine h.mono ?_
  rintro e w' ⟨v, rfl, hown, hb⟩
  obtain ⟨a, cap, rfl, hi⟩ := hown.opened
  exact ⟨a, cap, ⟨w', hb⟩, rfl, rfl, hi⟩
theorem RetInts.blk {w : World} {zs : List Int} {P : Program} {f : FuncId} {args : Array Value} (h : Calls P f args w (RetInts 0 w zs)) (hz : 0 < zs.length) : Calls P f args w fun e w' => ∃ b cap C, ∃ u : Up w, e = .returned (.slice (some ⟨b, 0, none⟩) zs.length cap) ∧ w' = u.w ∧ w.heap.size ≤ b ∧ b < u.w.heap.size ∧ IsBlk u.w b C 3 ∧ ∀ j, j < zs.length → C[j]? = some (.int .i64 (zs.getD j 0)) := by
  refine h.mono ?_
  rintro e w' ⟨v, rfl, hown, hb⟩
  obtain ⟨h1, h2⟩ := hown
  rcases h2 with ⟨_, h0⟩ | ⟨g, cap, cur, rfl, hg, hc, _, _, _, hx⟩
  · omega
  · refine ⟨g, cap, cur, ⟨w', hb⟩, rfl, rfl, hg, (Array.getElem?_eq_some_iff.1 hc).1, ⟨hc⟩, fun j hj => ?_⟩
    have e1 : (cur.toList.take (zs.length * 1))[j]? = (zs.map (Value.int .i64))[j]? := by rw [hx]
    rw [List.getElem?_take, if_pos (by omega), Array.getElem?_toList, List.getElem?_map, List.getElem?_eq_getElem hj] at e1
    rw [e1, List.getD_eq_getElem?_getD, List.getElem?_eq_getElem hj]
    rfl
end
section
open Go.RowKit Go.Shelf
set_option linter.unusedVariables false
attribute [local go_sem] Oper.semAt_some IsBlk.cell IsBlk.frozen

theorem blk_from {β : Type} (B b : Nat) (t : TypeId) (f : β → Array Value) : OwnFrom B (fun s W => W.heap[b]? = some (.cells (f s) t)) := fun s W W' row hs hg hr =>
  (hg.block b (Array.getElem?_eq_some_iff.1 hs).1 (fun e => by obtain ⟨_, o, ho, hc⟩ := hr b e.symm; rw [hs] at ho; cases ho; cases hc)).trans hs
set_option maxHeartbeats 8000000 in
set_option maxRecDepth 100000 in
theorem ring_put (T : Array Value) (t : Tab) (s : Int) (w : World) (hT : IsTab w T t) :
    Calls Try.prog 8 #[.agg T, .int .i64 s] w fun e w' => e = .returned (.agg #[.int .i64 (putG t.gr s), .int .i64 (putA t.gr s).1, .int .i64 (putA t.gr s).2, .bool false]) ∧ Below w.heap.size w w' := by
  haveI : Sz131 T := ⟨hT.size⟩
  have HT : Hid (∀ w', Below w.heap.size w w' → IsTab w' T t) := Lib.hid fun w' hb => hT.below hb (Nat.le_refl _)
  have HW : Hid (∀ w', Below w.heap.size w w' → ∀ p, Calls Try.prog 31 #[.agg T, .int .i64 p] w' fun e w'' => e = .returned (.tuple #[.int .i64 (whG (whereM t.gr p)), .int .i64 (whK (whereM t.gr p)), .int .i64 (whI (whereM t.gr p)), .bool (whereM t.gr p).isSome]) ∧ Below w'.heap.size w' w'') := Lib.hid fun w' hb p => pwhere_any T t p w' (HT.out w' hb)
  have HG : Hid (whG (whereM t.gr (firstM s)) = putG t.gr s) := Lib.hid rfl
  have HFA : Hid (putA t.gr s = (listM s).foldl (putC t.gr (putG t.gr s)) (-1, -1)) := Lib.hid rfl
  have HW0 : Hid (∀ w', Below w.heap.size w w' → Calls Try.prog 31 #[.agg T, .int .i64 (firstM s)] w' fun e w'' => e = .returned (.tuple #[.int .i64 (putG t.gr s), .int .i64 (whK (whereM t.gr (firstM s))), .int .i64 (whI (whereM t.gr (firstM s))), .bool (whereM t.gr (firstM s)).isSome]) ∧ Below w'.heap.size w' w'') := Lib.hid fun w' hb => by rw [← HG.out]; exact HW.out w' hb (firstM s)
  obtain ⟨V, hV⟩ : ∃ V, putA t.gr s = V := ⟨_, rfl⟩
  rw [hV] at HFA ⊢
  clear hV HG hT
  generalize putG t.gr s = G at *
  generalize whK (whereM t.gr (firstM s)) = fk at *
  generalize whI (whereM t.gr (firstM s)) = fi at *
  generalize (whereM t.gr (firstM s)).isSome = fo at *
  refine (callsIn_wide (n := 5)).1 ?_
  refine callsIn_of_wp_marks Try.func8 rfl trivial ?_ rfl
  simp only [Try.ntmps8, List.size_toArray, List.length_cons, List.length_nil, Nat.reduceAdd, Nat.reduceSub, Array.replicate_succ, Array.replicate_zero, List.push_toArray, List.append_toArray, List.nil_append, List.cons_append]
  refine wpIn_wide.2 ?_
  haveI a1' : Apart w.heap.size (w.heap.size + 1 + 1) := ⟨by omega⟩
  go_upto_region 2 with fail
  (refine wp_region_up_tail_e [(6, 10), (7, 10), (8, 10)] 10 (by kernel_rfl) (by kernel_rfl) (by kernel_rfl) ?_; (repeat (first | simp only [addL] | simp only [addAt] | simp only [List.push_toArray] | simp only [List.append_toArray] | simp only [List.nil_append] | simp only [List.cons_append] | simp only [List.take_succ_cons] | simp only [List.take_zero] | simp only [List.drop_succ_cons] | simp only [List.drop_zero] | simp only [List.eraseIdx_cons_succ] | simp only [List.eraseIdx_cons_zero])); (repeat (first | (go_big_quiet_want; refine q_ltab rfl rfl ?_; simp only [Act.put, List.setIfInBounds_toArray, List.set_cons_succ, List.set_cons_zero]; go_big_quiet_on) | go_big_quiet_step ((first | (go_at_call 32; exact Up.calls (sfirst_any _ _)) | (go_at_call 31; (with_reducible refine Up.calls (HW0.out _ ?_)); (repeat' (first | (with_reducible exact Below.refl _ _) | (with_reducible assumption) | (with_reducible refine Below.setCell ?_ ?_ _) | (with_reducible refine Below.alloc ?_ ?_ _) | (with_reducible refine Below.drew ?_) | (with_reducible refine Up.base _ ?_ ?_) | (with_reducible exact LeSize.out) | exact LeSize.out | exact Nat.le_add_right_of_le LeSize.out | exact Nat.le_add_right_of_le (Nat.le_add_right_of_le LeSize.out) | (with_reducible exact Nat.le_refl _) | (simp; done) | (simp; omega)))) | fail)))); refine wpQuiet_nil ?_; rintro _ ⟨u, rfl⟩)
  go_wp2
  refine NoPanic.normal ?_
  go_wp2_with (go_at_call 33; refine (each_any _ _).mono ?_; rintro e w' ⟨rfl, rfl⟩)
  obtain ⟨U, hU⟩ : ∃ U, u.w.heap.size = U := ⟨_, rfl⟩
  have hsu := u.bel.size
  simp only [World.size_alloc] at hsu
  obtain ⟨X, hX⟩ : ∃ X, (u.w.setCell ⟨w.heap.size + 1 + 1, 0, none⟩ (.int .i64 G)).alloc (.cells #[.int .i64 s] 3) = X := ⟨_, rfl⟩
  have iT : IsBlk X w.heap.size T 32 := by rw [← hX]; infer_instance
  haveI a2' : Apart (w.heap.size + 1) (w.heap.size + 1 + 1) := ⟨by omega⟩
  have iR : IsBlk X (w.heap.size + 1) #[.int .i64 0, .int .i64 0, .int .i64 0, .bool false] 36 := by rw [← hX]; infer_instance
  have iO : X.heap[w.heap.size + 1 + 1]? = some (.cells #[.int .i64 G, .int .i64 (-1), .int .i64 (-1), .bool false] 36) := by rw [← hX]; exact IsBlk.out
  have hXs : X.heap.size = U + 1 := by rw [← hX, ← hU]; simp [World.setCell]
  have bN : Boxed X U 3 (.int .i64 s) := by rw [← hX, ← hU]; exact (inferInstance : IsBlk _ _ _ _).out
  have hX0 : Below w.heap.size w X := by rw [← hX]; (repeat' (first | (with_reducible exact Below.refl _ _) | (with_reducible assumption) | (with_reducible refine Below.setCell ?_ ?_ _) | (with_reducible refine Below.alloc ?_ ?_ _) | (with_reducible refine Below.drew ?_) | (with_reducible refine Up.base _ ?_ ?_) | (with_reducible exact LeSize.out) | exact LeSize.out | exact Nat.le_add_right_of_le LeSize.out | exact Nat.le_add_right_of_le (Nat.le_add_right_of_le LeSize.out) | (with_reducible exact Nat.le_refl _) | (simp; done) | (simp; omega)))
  rw [hX, hU]
  rw [hU] at hsu
  clear hX hU
  have h1' : (1 : Nat) ≤ 5 := by omega
  have hstops := each_stops 4 (by omega) U s X (by omega) bN.cell
  have HBI : Hid (∀ W, Below (w.heap.size + 1 + 1) X W → IsBlk W w.heap.size T 32 ∧ IsBlk W (w.heap.size + 1) #[.int .i64 0, .int .i64 0, .int .i64 0, .bool false] 36) := Lib.hid fun W hb => ⟨⟨(hb.block _ (by omega)).trans iT.out⟩, ⟨(hb.block _ (by omega)).trans iR.out⟩⟩
  clear iT iR bN
  refine (wpIn_wide (n := 5)).1 ?_
  refine wpIn_rangeFunc_ownG rfl h1' (gf := 59) (lb := #[.pointer (some ⟨U, 0, none⟩)]) rfl trivial (enters_of Try.func59 (by kernel_rfl) rfl)
    hstops keepB_t (keepB_b (by omega)) (Below.refl _ _) (fun _ => rfl)
    (fun pre W => W.heap[w.heap.size + 1 + 1]? = some (.cells #[.int .i64 G, .int .i64 (pre.foldl (putC t.gr G) (-1, -1)).1, .int .i64 (pre.foldl (putC t.gr G) (-1, -1)).2, .bool false] 36) ∧ Below (w.heap.size + 1 + 1) X W)
    (fun c pre W => False)
    (OwnFrom.and (blk_from _ _ _ (fun pre : List Int => #[.int .i64 G, .int .i64 (pre.foldl (putC t.gr G) (-1, -1)).1, .int .i64 (pre.foldl (putC t.gr G) (-1, -1)).2, .bool false])) (ownFrom_below (by omega) (by omega)))
    (fun c _ _ _ _ hs _ _ => hs)
    ⟨iO, Below.refl _ _⟩
    (fun x => { tmps := #[.agg T, .int .i64 s, .pointer (some ⟨w.heap.size, 0, none⟩), undef, .pointer (some ⟨w.heap.size + 1, 0, none⟩), .pointer (some ⟨w.heap.size + 1 + 1, 0, none⟩), .int .i64 x, undef, undef, undef, undef, .agg #[.int .i64 (-1), .int .i64 (-1)], .agg #[.int .i64 0, .int .i64 (-1), .int .i64 (-1), .bool false], .tuple #[.int .i64 G, .int .i64 fk, .int .i64 fi, .bool fo], .agg T, .int .i64 s, .int .i64 (firstM s), .tuple #[.int .i64 G, .int .i64 fk, .int .i64 fi, .bool fo], .int .i64 G, .int .i64 fk, .int .i64 fi, .bool fo, .pointer (some ⟨w.heap.size + 1 + 1, 0, none⟩), .int .i64 s, (.func (.func 59) #[] #[.pointer (some ⟨U, 0, none⟩)]), .int .i64 x, undef, undef, undef, undef, undef, undef, undef, undef, undef, undef, undef, undef, undef, undef, undef, undef, undef, undef, undef, undef, undef, undef, undef, undef, undef, undef, undef], defers := [] }) ?assign ?body ?done ?stop
  case assign =>
    intro l x W K hK
    gi_wp2
    exact hK
  case body =>
    rintro l pre x W ⟨hO, hB⟩ hlt
    obtain ⟨iT, iR⟩ := HBI.out W hB
    have hWs := hB.size
    obtain ⟨⟨b0, b1⟩, hF⟩ : ∃ z, pre.foldl (putC t.gr G) (-1, -1) = z := ⟨_, rfl⟩
    rw [hF] at hO
    have iO : IsBlk W (w.heap.size + 1 + 1) #[.int .i64 G, .int .i64 b0, .int .i64 b1, .bool false] 36 := ⟨hO⟩
    have hstep : (pre ++ [x]).foldl (putC t.gr G) (-1, -1) = putC t.gr G (b0, b1) x := by rw [List.foldl_append, hF]; rfl
    have el : Sem.run Try.prog (Instr.loadAt 32 (.pointer (some ⟨w.heap.size, 0, none⟩))) W = .ok (.agg T) W := load_tab
    have hBw : Below w.heap.size w W := hX0.trans (hB.mono (by omega))
    have HKF : Hid (∀ (u2 : Up W), KeepsFrom X.heap.size W u2.w) := Lib.hid fun u2 => ⟨u2.bel.size, fun j o _ h _ => by rw [u2.bel.block j (Array.getElem?_eq_some_iff.1 h).1]; exact h⟩
    have HKU : Hid (∀ (u2 : Up W), u2.w.heap[U]? = W.heap[U]?) := Lib.hid fun u2 => u2.bel.block U (by omega)
    have HBU : Hid (∀ (u2 : Up W), Below (w.heap.size + 1 + 1) X u2.w) := Lib.hid fun u2 => hB.trans (u2.bel.mono (by omega))
    haveI : LeSize (w.heap.size + 1 + 1 + 1) W := ⟨by omega⟩
    clear hO hF hB
    have HNO : Hid ((whereM t.gr x).isSome = false ∨ whG (whereM t.gr x) ≠ G → (pre ++ [x]).foldl (putC t.gr G) (-1, -1) = (b0, b1)) := Lib.hid fun h => by rw [hstep, putC_no h]
    have HY0 : Hid ((whereM t.gr x).isSome = true → whG (whereM t.gr x) = G → whK (whereM t.gr x) = 0 → (pre ++ [x]).foldl (putC t.gr G) (-1, -1) = if b0 < 0 then (whI (whereM t.gr x), b1) else (b0, b1)) := Lib.hid fun h1 h2 h3 => by rw [hstep, putC_0 h1 h2 h3]
    have HY1 : Hid ((whereM t.gr x).isSome = true → whG (whereM t.gr x) = G → whK (whereM t.gr x) = 1 → (pre ++ [x]).foldl (putC t.gr G) (-1, -1) = if b1 < 0 then (b0, whI (whereM t.gr x)) else (b0, b1)) := Lib.hid fun h1 h2 h3 => by rw [hstep, putC_1 h1 h2 h3]
    have hk01 := whK_01 (gr := t.gr) (p := x)
    have HWX : Hid (Calls Try.prog 31 #[.agg T, .int .i64 x] W fun e w'' => e = .returned (.tuple #[.int .i64 (whG (whereM t.gr x)), .int .i64 (whK (whereM t.gr x)), .int .i64 (whI (whereM t.gr x)), .bool (whereM t.gr x).isSome]) ∧ Below W.heap.size W w'') := Lib.hid (HW.out W hBw x)
    clear hstep
    generalize whG (whereM t.gr x) = og at *
    generalize whK (whereM t.gr x) = okk at *
    generalize whI (whereM t.gr x) = oi at *
    generalize whP (whereM t.gr x) = oq at *
    generalize (whereM t.gr x).isSome = is at *
    cases is
    · clear hk01
      have HX := Lib.hid (HNO.out (.inl rfl))
      clear HNO HY0 HY1
      gi_wp2_with (first | (refine wpListIn_load_of rfl rfl rfl el ?_; go_simp) | (refine ⟨trivial, ?_⟩; gi_at_call 31; refine (CallsIn.inRound l (callsIn_wide.2 (Up.run HWX.out))).mono ?_; rintro e w' ⟨rfl, uwx, rfl⟩))
      exact ⟨HKF.out uwx, HKU.out uwx, by rw [HX.out]; exact IsBlk.out, HBU.out uwx⟩
    · cases e : (og == G)
      · clear hk01
        have HX := Lib.hid (HNO.out (.inr (beq_eq_false_iff_ne.1 e)))
        clear HNO HY0 HY1
        gi_wp2_with (first | (refine wpListIn_load_of rfl rfl rfl el ?_; go_simp) | (refine ⟨trivial, ?_⟩; gi_at_call 31; refine (CallsIn.inRound l (callsIn_wide.2 (Up.run HWX.out))).mono ?_; rintro e w' ⟨rfl, uwx, rfl⟩))
        exact ⟨HKF.out uwx, HKU.out uwx, by rw [HX.out]; exact IsBlk.out, HBU.out uwx⟩
      · obtain rfl : og = G := beq_iff_eq.1 e
        rcases hk01 with rfl | rfl
        · cases d : decide (b0 < 0)
          · have d' : ¬ b0 < 0 := of_decide_eq_false d
            have HX := Lib.hid ((HY0.out rfl rfl rfl).trans (if_neg d'))
            clear HNO HY0 HY1
            gi_wp2_with (first | (refine wpListIn_load_of rfl rfl rfl el ?_; go_simp) | (refine ⟨trivial, ?_⟩; gi_at_call 31; refine (CallsIn.inRound l (callsIn_wide.2 (Up.run HWX.out))).mono ?_; rintro e w' ⟨rfl, uwx, rfl⟩))
            exact ⟨HKF.out uwx, HKU.out uwx, by rw [HX.out]; exact IsBlk.out, HBU.out uwx⟩
          · have d' : b0 < 0 := of_decide_eq_true d
            have HX := Lib.hid ((HY0.out rfl rfl rfl).trans (if_pos d'))
            clear HNO HY0 HY1
            gi_wp2_with (first | (refine wpListIn_load_of rfl rfl rfl el ?_; go_simp) | (refine ⟨trivial, ?_⟩; gi_at_call 31; refine (CallsIn.inRound l (callsIn_wide.2 (Up.run HWX.out))).mono ?_; rintro e w' ⟨rfl, uwx, rfl⟩))
            exact ⟨(HKF.out uwx).trans ((KeepsOthers.setCell _ _ _).from _), (Below.heap_setCell _ _ _ _ (show U ≠ w.heap.size + 1 + 1 by omega)).trans (HKU.out uwx), by rw [HX.out]; exact IsBlk.out, (HBU.out uwx).setCell (p := ⟨w.heap.size + 1 + 1, 1, none⟩) (Nat.le_refl _) _⟩
        · cases d : decide (b1 < 0)
          · have d' : ¬ b1 < 0 := of_decide_eq_false d
            have HX := Lib.hid ((HY1.out rfl rfl rfl).trans (if_neg d'))
            clear HNO HY0 HY1
            gi_wp2_with (first | (refine wpListIn_load_of rfl rfl rfl el ?_; go_simp) | (refine ⟨trivial, ?_⟩; gi_at_call 31; refine (CallsIn.inRound l (callsIn_wide.2 (Up.run HWX.out))).mono ?_; rintro e w' ⟨rfl, uwx, rfl⟩))
            exact ⟨HKF.out uwx, HKU.out uwx, by rw [HX.out]; exact IsBlk.out, HBU.out uwx⟩
          · have d' : b1 < 0 := of_decide_eq_true d
            have HX := Lib.hid ((HY1.out rfl rfl rfl).trans (if_pos d'))
            clear HNO HY0 HY1
            gi_wp2_with (first | (refine wpListIn_load_of rfl rfl rfl el ?_; go_simp) | (refine ⟨trivial, ?_⟩; gi_at_call 31; refine (CallsIn.inRound l (callsIn_wide.2 (Up.run HWX.out))).mono ?_; rintro e w' ⟨rfl, uwx, rfl⟩))
            exact ⟨(HKF.out uwx).trans ((KeepsOthers.setCell _ _ _).from _), (Below.heap_setCell _ _ _ _ (show U ≠ w.heap.size + 1 + 1 by omega)).trans (HKU.out uwx), by rw [HX.out]; exact IsBlk.out, (HBU.out uwx).setCell (p := ⟨w.heap.size + 1 + 1, 2, none⟩) (Nat.le_refl _) _⟩
  case done =>
    rintro D ys W hD rfl ⟨hO, hB⟩ hK
    obtain ⟨iT, iR⟩ := HBI.out W hB
    have hWs := hB.size
    rw [← HFA.out] at hO
    have iO : IsBlk W (w.heap.size + 1 + 1) #[.int .i64 G, .int .i64 V.1, .int .i64 V.2, .bool false] 36 := ⟨hO⟩
    have hne : D ≠ w.heap.size + 1 := by omega
    have hb0 : Below w.heap.size w W := hX0.trans (hB.mono (by omega))
    go_wp2
    obtain ⟨WF, hWF⟩ : ∃ WF, ((((W.setCell ⟨w.heap.size + 1, 0, none⟩ (.int .i64 G)).setCell ⟨w.heap.size + 1, 1, none⟩ (.int .i64 V.1)).setCell ⟨w.heap.size + 1, 2, none⟩ (.int .i64 V.2)).setCell ⟨w.heap.size + 1, 3, none⟩ (.bool false)) = WF := ⟨_, rfl⟩
    have hKF : WF.heap[D]? = some (.deferred (some [])) := by rw [← hWF, Below.heap_setCell _ _ _ _ hne, Below.heap_setCell _ _ _ _ hne, Below.heap_setCell _ _ _ _ hne, Below.heap_setCell _ _ _ _ hne]; exact hK
    have hRF : WF.heap[w.heap.size + 1]? = some (.cells #[.int .i64 G, .int .i64 V.1, .int .i64 V.2, .bool false] 36) := by rw [← hWF]; exact IsBlk.out
    have hbF : Below w.heap.size w WF := by
      rw [← hWF]
      exact (((hb0.setCell (p := ⟨w.heap.size + 1, 0, none⟩) (Nat.le_succ _) _).setCell (p := ⟨w.heap.size + 1, 1, none⟩) (Nat.le_succ _) _).setCell (p := ⟨w.heap.size + 1, 2, none⟩) (Nat.le_succ _) _).setCell (p := ⟨w.heap.size + 1, 3, none⟩) (Nat.le_succ _) _
    rw [hWF]
    refine ⟨by simp, .inl ⟨_, _, rfl, run_takeDeferred hKF, ?_⟩⟩
    refine ⟨_, results_cell_row (p := 4) (ty := 36) rfl _ _ (w.heap.size + 1) 36 #[.int .i64 G, .int .i64 V.1, .int .i64 V.2, .bool false] (0, 0) _ rfl ((World.putObj_heap_other (by omega)).trans hRF) Try.underlying36 rfl (by kernel_rfl), rfl, hbF.trans (belowK_b (w := w) (Nat.le_refl _) WF D _ _ (by omega) hKF rfl rfl)⟩
  case stop =>
    rintro D c pre W hD hpre h hK
    exact h.elim
end
section
open Go.RowKit Go.Shelf
set_option linter.unusedVariables false
attribute [local go_sem] IsBlk.cell IsBlk.frozen

set_option maxHeartbeats 8000000 in
set_option maxRecDepth 100000 in
theorem rput_any (T : Array Value) (t : Tab) (s : Int) (w : World) (hT : IsTab w T t) :
    Calls Try.prog 9 #[.agg T, .int .i64 s] w fun e w' => e = .returned (.agg #[.int .i64 (putG t.gr s), .int .i64 (putA t.gr s).1, .int .i64 (putA t.gr s).2, .bool false]) ∧ Below w.heap.size w w' := by
  haveI : Sz131 T := ⟨hT.size⟩
  have HT : Hid (∀ w', Below w.heap.size w w' → IsTab w' T t) := Lib.hid fun w' hb => hT.below hb (Nat.le_refl _)
  have HW : Hid (∀ w', Below w.heap.size w w' → ∀ p, Calls Try.prog 34 #[.agg T, .int .i64 p] w' fun e w'' => e = .returned (.tuple #[.agg #[.int .i64 (whG (whereM t.gr p)), .int .i64 (whK (whereM t.gr p)), .int .i64 (whI (whereM t.gr p)), .int .i64 (whP (whereM t.gr p))], .bool (whereM t.gr p).isSome]) ∧ Below w'.heap.size w' w'') := Lib.hid fun w' hb p => by rw [← spA_eq]; exact where_any T t p w' (HT.out w' hb)
  have hlen : (listM s).length ≤ 8 := setL_length s 8
  clear hT
  cases hL : listM s with
  | nil =>
    have hF : firstM s = -1 := by unfold firstM; rw [hL]; rfl
    have hG : putG t.gr s = 0 := by unfold putG; rw [hF, where_out (by decide)]; rfl
    have hA : putA t.gr s = (-1, -1) := by unfold putA; rw [hL]; rfl
    rw [hG, hA]
    clear hG hA hF
    go_enter Try.func9, Try.ntmps9
    go_wp2_with (go_at_call 13; refine (RetInts.up (rlist_any _ _)).mono ?_; rw [hL]; rintro e w' ⟨a1, cap1, ul, rfl, rfl, hi⟩; simp only [List.length_nil])
    go_returns
    exact ⟨rfl, by (repeat' (first | (with_reducible exact Below.refl _ _) | (with_reducible assumption) | (with_reducible refine Below.setCell ?_ ?_ _) | (with_reducible refine Below.alloc ?_ ?_ _) | (with_reducible refine Below.drew ?_) | (with_reducible refine Up.base _ ?_ ?_) | (with_reducible exact LeSize.out) | exact LeSize.out | exact Nat.le_add_right_of_le LeSize.out | exact Nat.le_add_right_of_le (Nat.le_add_right_of_le LeSize.out) | (with_reducible exact Nat.le_refl _) | (simp; done) | (simp; omega)))⟩
  | cons z zs =>
    have hF : firstM s = z := by unfold firstM; rw [hL]; rfl
    have HFA : Hid (putA t.gr s = (z :: zs).foldl (putC t.gr (putG t.gr s)) (-1, -1)) := Lib.hid (by unfold putA; rw [hL])
    have HG : Hid (whG (whereM t.gr z) = putG t.gr s) := Lib.hid (by unfold putG; rw [hF])
    have hlz : ((z :: zs).length : Int) ≤ 8 := by rw [hL] at hlen; omega
    have hl0 : (((z :: zs).length : Int) == 0) = false := beq_eq_false_iff_ne.2 (by simp; omega)
    have HW0 : Hid (∀ w', Below w.heap.size w w' → Calls Try.prog 34 #[.agg T, .int .i64 z] w' fun e w'' => e = .returned (.tuple #[.agg #[.int .i64 (putG t.gr s), .int .i64 (whK (whereM t.gr z)), .int .i64 (whI (whereM t.gr z)), .int .i64 (whP (whereM t.gr z))], .bool (whereM t.gr z).isSome]) ∧ Below w'.heap.size w' w'') := Lib.hid fun w' hb => by rw [← HG.out]; exact HW.out w' hb z
    have hl1 : 0 < (z :: zs).length := by simp
    have hz0 : (z :: zs)[0]? = some z := rfl
    have HLL := Lib.hid hL
    obtain ⟨V, hV⟩ : ∃ V, putA t.gr s = V := ⟨_, rfl⟩
    rw [hV] at HFA ⊢
    clear hF hV HG
    generalize z :: zs = L at *
    generalize putG t.gr s = G at *
    go_enter Try.func9, Try.ntmps9
    go_upto_region 5 with (go_at_call 13; refine (RetInts.blk (rlist_any _ _) (by rw [HLL.out]; exact hl1)).mono ?_; rw [HLL.out]; rintro e w' ⟨b, cap1, C, ul, rfl, rfl, hbg, hbs, iC, hcl⟩)
    have hc0 := hcl 0 hl1
    have HCL := Lib.hid hcl
    have hd0 : L.getD 0 0 = z := by rw [List.getD_eq_getElem?_getD, hz0]; rfl
    rw [hd0] at hc0
    simp only [World.size_alloc] at hbg
    have hus := ul.bel.size
    simp only [World.size_alloc] at hus
    clear hcl hd0 hz0
    have hl1I : (0 : Int) < (L.length : Int) := by omega
    haveI : LeSize (w.heap.size + 1 + 1 + 1) ul.w := ⟨hus⟩
    (refine wp_region_up_alloc_e [(7, 9)] 9 8 (by kernel_rfl) (by kernel_rfl) (by kernel_rfl) rfl rfl (fun A w => by simp only [go_sem]; rfl) ?_; intro X; (repeat (first | simp only [addL] | simp only [addAt] | simp only [List.push_toArray] | simp only [List.append_toArray] | simp only [List.nil_append] | simp only [List.cons_append] | simp only [List.take_succ_cons] | simp only [List.take_zero] | simp only [List.drop_succ_cons] | simp only [List.drop_zero] | simp only [List.eraseIdx_cons_succ] | simp only [List.eraseIdx_cons_zero])); (repeat (first | (go_big_quiet_want; refine q_ltab rfl rfl ?_; simp only [Act.put, List.setIfInBounds_toArray, List.set_cons_succ, List.set_cons_zero]; go_big_quiet_on) | go_big_quiet_step ((first | (go_at_call 34; (with_reducible refine Up.calls (HW0.out _ ?_)); (repeat' (first | (with_reducible exact Below.refl _ _) | (with_reducible assumption) | (with_reducible refine Below.setCell ?_ ?_ _) | (with_reducible refine Below.alloc ?_ ?_ _) | (with_reducible refine Below.drew ?_) | (with_reducible refine Up.base _ ?_ ?_) | (with_reducible exact LeSize.out) | exact LeSize.out | exact Nat.le_add_right_of_le LeSize.out | exact Nat.le_add_right_of_le (Nat.le_add_right_of_le LeSize.out) | (with_reducible exact Nat.le_refl _) | (simp; done) | (simp; omega)))) | fail)))); refine wpQuiet_nil ?_; clear X; rintro q u hq hO; (try simp at hq); have lO := laid_le hO; have hOB : IsBlk u.w q _ _ := ⟨hO⟩; clear hO; go_simp)
    haveI a1' : Apart w.heap.size q := ⟨by omega⟩
    haveI a2' : Apart (w.heap.size + 1) q := ⟨by omega⟩
    haveI a3' : Apart (w.heap.size + 1 + 1) q := ⟨by omega⟩
    haveI a4' : Apart b q := ⟨by omega⟩
    haveI a5' : Apart w.heap.size (w.heap.size + 1 + 1) := ⟨by omega⟩
    haveI a6' : Apart b (w.heap.size + 1 + 1) := ⟨by omega⟩
    haveI a7' : Apart q (w.heap.size + 1 + 1) := ⟨by omega⟩
    haveI a8' : Apart (w.heap.size + 1) (w.heap.size + 1 + 1) := ⟨by omega⟩
    go_wp2
    refine NoPanic.normal ?_
    go_wp2
    clear HW0 hc0
    go_loopw [34] (fun i wr => ∃ k : Nat, k ≤ L.length ∧ i = .int .i64 k ∧ Below w.heap.size w wr ∧ LeSize (w.heap.size + 1 + 1 + 1) wr ∧ IsBlk wr w.heap.size T 32 ∧ IsBlk wr b C 3 ∧ IsBlk wr (w.heap.size + 1) #[.int .i64 0, .int .i64 0, .int .i64 0, .bool false] 36 ∧ ∃ b0 b1, IsBlk wr (w.heap.size + 1 + 1) #[.int .i64 G, .int .i64 b0, .int .i64 b1, .bool false] 36 ∧ Hid ((L.take k).foldl (putC t.gr G) (-1, -1) = (b0, b1))) (fun i _ => L.length - (intOf i).toNat)
    case atStart => exact ⟨0, Nat.zero_le _, rfl, by (repeat' (first | (with_reducible exact Below.refl _ _) | (with_reducible assumption) | (with_reducible refine Below.setCell ?_ ?_ _) | (with_reducible refine Below.alloc ?_ ?_ _) | (with_reducible refine Below.drew ?_) | (with_reducible refine Up.base _ ?_ ?_) | (with_reducible exact LeSize.out) | exact LeSize.out | exact Nat.le_add_right_of_le LeSize.out | exact Nat.le_add_right_of_le (Nat.le_add_right_of_le LeSize.out) | (with_reducible exact Nat.le_refl _) | (simp; done) | (simp; omega))), inferInstance, inferInstance, inferInstance, inferInstance, -1, -1, ⟨IsBlk.out⟩, Lib.hid rfl⟩
    case round =>
      obtain ⟨k, hk, rfl, hb, iS, iT, iC, iR, b0, b1, iO, hF⟩ := hrel
      haveI : LeSize w.heap.size wr := ⟨hb.size⟩
      have hbs' := hb.size
      have hS' := iS.out
      by_cases hlt : k < L.length
      · have hck := HCL.out k hlt
        have g1 : L[k]? = some (L.getD k 0) := by rw [List.getD_eq_getElem?_getD, List.getElem?_eq_getElem hlt]; rfl
        have hstep := (foldl_snoc (putC t.gr G) (-1, -1) L g1).trans (by rw [hF.out])
        have hltI : (k : Int) < L.length := by omega
        clear g1
        generalize L.getD k 0 = x at *
        have HNO : Hid ((whereM t.gr x).isSome = false ∨ whG (whereM t.gr x) ≠ G → (L.take (k + 1)).foldl (putC t.gr G) (-1, -1) = (b0, b1)) := Lib.hid fun h => by rw [hstep, putC_no h]
        have HY0 : Hid ((whereM t.gr x).isSome = true → whG (whereM t.gr x) = G → whK (whereM t.gr x) = 0 → (L.take (k + 1)).foldl (putC t.gr G) (-1, -1) = if b0 < 0 then (whI (whereM t.gr x), b1) else (b0, b1)) := Lib.hid fun h1 h2 h3 => by rw [hstep, putC_0 h1 h2 h3]
        have HY1 : Hid ((whereM t.gr x).isSome = true → whG (whereM t.gr x) = G → whK (whereM t.gr x) = 1 → (L.take (k + 1)).foldl (putC t.gr G) (-1, -1) = if b1 < 0 then (b0, whI (whereM t.gr x)) else (b0, b1)) := Lib.hid fun h1 h2 h3 => by rw [hstep, putC_1 h1 h2 h3]
        have hk01 := whK_01 (gr := t.gr) (p := x)
        have HWX : Hid (∀ w', Below w.heap.size w w' → Calls Try.prog 34 #[.agg T, .int .i64 x] w' fun e w'' => e = .returned (.tuple #[.agg #[.int .i64 (whG (whereM t.gr x)), .int .i64 (whK (whereM t.gr x)), .int .i64 (whI (whereM t.gr x)), .int .i64 (whP (whereM t.gr x))], .bool (whereM t.gr x).isSome]) ∧ Below w'.heap.size w' w'') := Lib.hid fun w' hb => HW.out w' hb x
        clear hstep
        generalize whG (whereM t.gr x) = og at *
        generalize whK (whereM t.gr x) = okk at *
        generalize whI (whereM t.gr x) = oi at *
        generalize whP (whereM t.gr x) = oq at *
        generalize (whereM t.gr x).isSome = is at *
        cases is
        · clear hk01
          have HX := Lib.hid (HNO.out (.inl rfl))
          clear HNO HY0 HY1
          go_wp2_with (first | (refine l_ltab rfl rfl rfl ?_; go_simp) | (go_at_call 34; refine (Up.run (HWX.out _ (by (repeat' (first | (with_reducible exact Below.refl _ _) | (with_reducible assumption) | (with_reducible refine Below.setCell ?_ ?_ _) | (with_reducible refine Below.alloc ?_ ?_ _) | (with_reducible refine Below.drew ?_) | (with_reducible refine Up.base _ ?_ ?_) | (with_reducible exact LeSize.out) | exact LeSize.out | exact Nat.le_add_right_of_le LeSize.out | exact Nat.le_add_right_of_le (Nat.le_add_right_of_le LeSize.out) | (with_reducible exact Nat.le_refl _) | (simp; done) | (simp; omega)))))).mono ?_; rintro e w' ⟨rfl, uwx, rfl⟩))
          go_roundw
          case rel => exact ⟨k + 1, by omega, by go_num, by (repeat' (first | (with_reducible exact Below.refl _ _) | (with_reducible assumption) | (with_reducible refine Below.setCell ?_ ?_ _) | (with_reducible refine Below.alloc ?_ ?_ _) | (with_reducible refine Below.drew ?_) | (with_reducible refine Up.base _ ?_ ?_) | (with_reducible exact LeSize.out) | exact LeSize.out | exact Nat.le_add_right_of_le LeSize.out | exact Nat.le_add_right_of_le (Nat.le_add_right_of_le LeSize.out) | (with_reducible exact Nat.le_refl _) | (simp; done) | (simp; omega))), inferInstance, inferInstance, inferInstance, inferInstance, b0, b1, ⟨IsBlk.out⟩, HX⟩
          case measure => simp [intOf]; omega
        · cases e : (og == G)
          · clear hk01
            have HX := Lib.hid (HNO.out (.inr (beq_eq_false_iff_ne.1 e)))
            clear HNO HY0 HY1
            go_wp2_with (first | (refine l_ltab rfl rfl rfl ?_; go_simp) | (go_at_call 34; refine (Up.run (HWX.out _ (by (repeat' (first | (with_reducible exact Below.refl _ _) | (with_reducible assumption) | (with_reducible refine Below.setCell ?_ ?_ _) | (with_reducible refine Below.alloc ?_ ?_ _) | (with_reducible refine Below.drew ?_) | (with_reducible refine Up.base _ ?_ ?_) | (with_reducible exact LeSize.out) | exact LeSize.out | exact Nat.le_add_right_of_le LeSize.out | exact Nat.le_add_right_of_le (Nat.le_add_right_of_le LeSize.out) | (with_reducible exact Nat.le_refl _) | (simp; done) | (simp; omega)))))).mono ?_; rintro e w' ⟨rfl, uwx, rfl⟩))
            go_roundw
            case rel => exact ⟨k + 1, by omega, by go_num, by (repeat' (first | (with_reducible exact Below.refl _ _) | (with_reducible assumption) | (with_reducible refine Below.setCell ?_ ?_ _) | (with_reducible refine Below.alloc ?_ ?_ _) | (with_reducible refine Below.drew ?_) | (with_reducible refine Up.base _ ?_ ?_) | (with_reducible exact LeSize.out) | exact LeSize.out | exact Nat.le_add_right_of_le LeSize.out | exact Nat.le_add_right_of_le (Nat.le_add_right_of_le LeSize.out) | (with_reducible exact Nat.le_refl _) | (simp; done) | (simp; omega))), inferInstance, inferInstance, inferInstance, inferInstance, b0, b1, ⟨IsBlk.out⟩, HX⟩
            case measure => simp [intOf]; omega
          · obtain rfl : og = G := beq_iff_eq.1 e
            rcases hk01 with rfl | rfl
            · cases d : decide (b0 < 0)
              · have d' : ¬ b0 < 0 := of_decide_eq_false d
                have HX := Lib.hid ((HY0.out rfl rfl rfl).trans (if_neg d'))
                clear HNO HY0 HY1
                go_wp2_with (first | (refine l_ltab rfl rfl rfl ?_; go_simp) | (go_at_call 34; refine (Up.run (HWX.out _ (by (repeat' (first | (with_reducible exact Below.refl _ _) | (with_reducible assumption) | (with_reducible refine Below.setCell ?_ ?_ _) | (with_reducible refine Below.alloc ?_ ?_ _) | (with_reducible refine Below.drew ?_) | (with_reducible refine Up.base _ ?_ ?_) | (with_reducible exact LeSize.out) | exact LeSize.out | exact Nat.le_add_right_of_le LeSize.out | exact Nat.le_add_right_of_le (Nat.le_add_right_of_le LeSize.out) | (with_reducible exact Nat.le_refl _) | (simp; done) | (simp; omega)))))).mono ?_; rintro e w' ⟨rfl, uwx, rfl⟩))
                go_roundw
                case rel => exact ⟨k + 1, by omega, by go_num, by (repeat' (first | (with_reducible exact Below.refl _ _) | (with_reducible assumption) | (with_reducible refine Below.setCell ?_ ?_ _) | (with_reducible refine Below.alloc ?_ ?_ _) | (with_reducible refine Below.drew ?_) | (with_reducible refine Up.base _ ?_ ?_) | (with_reducible exact LeSize.out) | exact LeSize.out | exact Nat.le_add_right_of_le LeSize.out | exact Nat.le_add_right_of_le (Nat.le_add_right_of_le LeSize.out) | (with_reducible exact Nat.le_refl _) | (simp; done) | (simp; omega))), inferInstance, inferInstance, inferInstance, inferInstance, b0, b1, ⟨IsBlk.out⟩, HX⟩
                case measure => simp [intOf]; omega
              · have d' : b0 < 0 := of_decide_eq_true d
                have HX := Lib.hid ((HY0.out rfl rfl rfl).trans (if_pos d'))
                clear HNO HY0 HY1
                go_wp2_with (first | (refine l_ltab rfl rfl rfl ?_; go_simp) | (go_at_call 34; refine (Up.run (HWX.out _ (by (repeat' (first | (with_reducible exact Below.refl _ _) | (with_reducible assumption) | (with_reducible refine Below.setCell ?_ ?_ _) | (with_reducible refine Below.alloc ?_ ?_ _) | (with_reducible refine Below.drew ?_) | (with_reducible refine Up.base _ ?_ ?_) | (with_reducible exact LeSize.out) | exact LeSize.out | exact Nat.le_add_right_of_le LeSize.out | exact Nat.le_add_right_of_le (Nat.le_add_right_of_le LeSize.out) | (with_reducible exact Nat.le_refl _) | (simp; done) | (simp; omega)))))).mono ?_; rintro e w' ⟨rfl, uwx, rfl⟩))
                go_roundw
                case rel => exact ⟨k + 1, by omega, by go_num, by (repeat' (first | (with_reducible exact Below.refl _ _) | (with_reducible assumption) | (with_reducible refine Below.setCell ?_ ?_ _) | (with_reducible refine Below.alloc ?_ ?_ _) | (with_reducible refine Below.drew ?_) | (with_reducible refine Up.base _ ?_ ?_) | (with_reducible exact LeSize.out) | exact LeSize.out | exact Nat.le_add_right_of_le LeSize.out | exact Nat.le_add_right_of_le (Nat.le_add_right_of_le LeSize.out) | (with_reducible exact Nat.le_refl _) | (simp; done) | (simp; omega))), inferInstance, inferInstance, inferInstance, inferInstance, oi, b1, ⟨IsBlk.out⟩, HX⟩
                case measure => simp [intOf]; omega
            · cases d : decide (b1 < 0)
              · have d' : ¬ b1 < 0 := of_decide_eq_false d
                have HX := Lib.hid ((HY1.out rfl rfl rfl).trans (if_neg d'))
                clear HNO HY0 HY1
                go_wp2_with (first | (refine l_ltab rfl rfl rfl ?_; go_simp) | (go_at_call 34; refine (Up.run (HWX.out _ (by (repeat' (first | (with_reducible exact Below.refl _ _) | (with_reducible assumption) | (with_reducible refine Below.setCell ?_ ?_ _) | (with_reducible refine Below.alloc ?_ ?_ _) | (with_reducible refine Below.drew ?_) | (with_reducible refine Up.base _ ?_ ?_) | (with_reducible exact LeSize.out) | exact LeSize.out | exact Nat.le_add_right_of_le LeSize.out | exact Nat.le_add_right_of_le (Nat.le_add_right_of_le LeSize.out) | (with_reducible exact Nat.le_refl _) | (simp; done) | (simp; omega)))))).mono ?_; rintro e w' ⟨rfl, uwx, rfl⟩))
                go_roundw
                case rel => exact ⟨k + 1, by omega, by go_num, by (repeat' (first | (with_reducible exact Below.refl _ _) | (with_reducible assumption) | (with_reducible refine Below.setCell ?_ ?_ _) | (with_reducible refine Below.alloc ?_ ?_ _) | (with_reducible refine Below.drew ?_) | (with_reducible refine Up.base _ ?_ ?_) | (with_reducible exact LeSize.out) | exact LeSize.out | exact Nat.le_add_right_of_le LeSize.out | exact Nat.le_add_right_of_le (Nat.le_add_right_of_le LeSize.out) | (with_reducible exact Nat.le_refl _) | (simp; done) | (simp; omega))), inferInstance, inferInstance, inferInstance, inferInstance, b0, b1, ⟨IsBlk.out⟩, HX⟩
                case measure => simp [intOf]; omega
              · have d' : b1 < 0 := of_decide_eq_true d
                have HX := Lib.hid ((HY1.out rfl rfl rfl).trans (if_pos d'))
                clear HNO HY0 HY1
                go_wp2_with (first | (refine l_ltab rfl rfl rfl ?_; go_simp) | (go_at_call 34; refine (Up.run (HWX.out _ (by (repeat' (first | (with_reducible exact Below.refl _ _) | (with_reducible assumption) | (with_reducible refine Below.setCell ?_ ?_ _) | (with_reducible refine Below.alloc ?_ ?_ _) | (with_reducible refine Below.drew ?_) | (with_reducible refine Up.base _ ?_ ?_) | (with_reducible exact LeSize.out) | exact LeSize.out | exact Nat.le_add_right_of_le LeSize.out | exact Nat.le_add_right_of_le (Nat.le_add_right_of_le LeSize.out) | (with_reducible exact Nat.le_refl _) | (simp; done) | (simp; omega)))))).mono ?_; rintro e w' ⟨rfl, uwx, rfl⟩))
                go_roundw
                case rel => exact ⟨k + 1, by omega, by go_num, by (repeat' (first | (with_reducible exact Below.refl _ _) | (with_reducible assumption) | (with_reducible refine Below.setCell ?_ ?_ _) | (with_reducible refine Below.alloc ?_ ?_ _) | (with_reducible refine Below.drew ?_) | (with_reducible refine Up.base _ ?_ ?_) | (with_reducible exact LeSize.out) | exact LeSize.out | exact Nat.le_add_right_of_le LeSize.out | exact Nat.le_add_right_of_le (Nat.le_add_right_of_le LeSize.out) | (with_reducible exact Nat.le_refl _) | (simp; done) | (simp; omega))), inferInstance, inferInstance, inferInstance, inferInstance, b0, oi, ⟨IsBlk.out⟩, HX⟩
                case measure => simp [intOf]; omega
      · obtain rfl : k = L.length := by omega
        have HV : Hid (V = (b0, b1)) := Lib.hid (by rw [HFA.out, ← hF.out, List.take_length])
        go_wp2
        go_returns
        exact ⟨by rw [HV.out], by (repeat' (first | (with_reducible exact Below.refl _ _) | (with_reducible assumption) | (with_reducible refine Below.setCell ?_ ?_ _) | (with_reducible refine Below.alloc ?_ ?_ _) | (with_reducible refine Below.drew ?_) | (with_reducible refine Up.base _ ?_ ?_) | (with_reducible exact LeSize.out) | exact LeSize.out | exact Nat.le_add_right_of_le LeSize.out | exact Nat.le_add_right_of_le (Nat.le_add_right_of_le LeSize.out) | (with_reducible exact Nat.le_refl _) | (simp; done) | (simp; omega)))⟩
end
end Go.Proofs.Ytbnbakienajhmaa
