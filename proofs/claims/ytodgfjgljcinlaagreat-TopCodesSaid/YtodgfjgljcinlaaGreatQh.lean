/- Part Qh of the proof: BnA, BnE, BnB, BnC, BnD, BnF, BnG. -/
import Derived.Test.YtodgfjgljcinlaaGreatQb
import Derived.Test.YtodgfjgljcinlaaGreatQe
import Derived.Test.YtodgfjgljcinlaaGreatQc
import Derived.Test.YtodgfjgljcinlaaGreatQa
import Derived.Sort.BigQuietIn
import Derived.RangeFuncNested
import Derived.Test.YtodgfjgljcinlaaGreatQi
namespace Go.Proofs.YtodgfjgljcinlaaGreat
set_option maxHeartbeats 8000000
set_option maxRecDepth 100000
set_option linter.unusedVariables false
section
open Go.RowKit
attribute [local go_sem] IsBlk.cell IsBlk.frozen
theorem kZ (p : Phs) (w : World) : Calls Tryz.prog 116 #[.agg #[.bool p.on, .int .i64 p.min, .int .i64 p.gap, .int .i64 p.max, .int .i64 p.top, .int .i64 p.step, .int .i64 p.yel, .int .i64 p.red, .int .i64 p.walk, .int .i64 p.blinks, .int .i64 p.recl, .bool p.lock, .bool p.rest]] w fun e w' => e = .returned (.int .i64 (aP p.walk p.blinks)) ∧ Below w.heap.size w w' := by
 obtain ⟨on, a1, a2, a3, a4, a5, a6, a7, a8, a9, a10, lk, rs⟩ := p
 go_enter Tryz.func116, Tryz.ntmps116
 go_wp2_with (go_at_call 92; refine (dx _ _ _).mono ?_; rintro e w' ⟨rfl, rfl⟩)
 go_ret
 exact ⟨rfl, by exact yd⟩
theorem vp (a b c : Int) : (if (if a < b then b else a) < c then c else if a < b then b else a) = max (max a b) c := by split <;> split <;> omega
theorem gl (a b : Int) : aP a b = ch [a, b] := by simp [ch, aP, aU]; omega
theorem ud {a b : Int} (l : List Int) (h : aU a = aU b) : ch (a :: l) = ch (b :: l) := by
 unfold ch
 simp only [List.foldl_cons]
 rw [show aP 0 a = aP 0 b by unfold aP; rw [h]]
theorem ado (a b c d : Int) : aU (max (max a (aP b c)) d) = aU (cd [aU a, ch [b, c], aU d]) := by
 rw [← gl]
 have := cg (aU b + aU c)
 simp only [cd, List.foldl_cons, List.foldl_nil]
 unfold aP
 generalize aU (aU b + aU c) = s at *
 unfold aU
 omega
theorem n3 (T : Array Value) (t : Tab) (p : Int) (w : World) (hT : ag w T t) :
  Calls Tryz.prog 37 #[.agg T, .int .i64 p] w fun e w' => e = .returned (.int .i64 (cZ t p)) ∧ Below w.heap.size w w' := by
 haveI : Sz131 T := ⟨hT.size⟩
 have HT : Hid (∀ w', Below w.heap.size w w' → ag w' T t) := Lib.hid fun w' hb => hT.below hb (Nat.le_refl _)
 cases hh : aT (eB t) p
 ·rw [show cZ t p = 0 by simp [cZ, hh]]
  clear hT
  go_enter Tryz.func37, Tryz.ntmps37
  go_wp2_with (first | (refine aJ rfl rfl rfl ?_; go_simp) | (go_at_call 56; refine (Up.run (eE _ _ _ (HT.out _ (by exact yd)))).mono ?_; rintro e w' ⟨rfl, upo, rfl⟩) | (go_at_call 63; refine (bA _ _ _).mono ?_; rintro e w' ⟨rfl, rfl⟩))
  go_ret
  exact ⟨rfl, by exact yd⟩
 ·obtain ⟨k, rfl, hk⟩ := pa hh
  have hkI : (k : Int) < 8 := by omega
  haveI := hT.isPh k hk
  have t116 : T[116]? = some (.int .i64 t.ext) := by obtain ⟨g, d, r, b, rfl, _⟩ := hT; rw [ab _ _ _ (by omega)]; rfl
  have t119 : T[119]? = some (.int .i64 t.rev) := by obtain ⟨g, d, r, b, rfl, _⟩ := hT; rw [ab _ _ _ (by omega)]; rfl
  obtain ⟨R, hR⟩ : ∃ R, cZ t k = R := ⟨_, rfl⟩
  have HR := Lib.hid (show ch [(if (if (t.ph k).min < aP (t.ph k).walk (t.ph k).blinks then aP (t.ph k).walk (t.ph k).blinks else (t.ph k).min) < (t.ph k).top then (t.ph k).top else if (t.ph k).min < aP (t.ph k).walk (t.ph k).blinks then aP (t.ph k).walk (t.ph k).blinks else (t.ph k).min), t.ext, (t.ph k).yel, (t.ph k).red, t.rev, 8] = R by rw [← hR, vp, ud _ (ado _ _ _ _)]; simp [cZ, hh, se])
  rw [hR]
  clear hR
  generalize t.ph k = x at *
  generalize t.ext = ext at *
  generalize t.rev = rev at *
  clear hT
  go_enter Tryz.func37, Tryz.ntmps37
  go_wp2_with (first | (refine aJ rfl rfl rfl ?_; go_simp) | (go_at_call 56; refine (Up.run (eE _ _ _ (HT.out _ (by exact yd)))).mono ?_; rintro e w' ⟨rfl, upo, rfl⟩) | (go_at_call 63; refine (bA _ _ _).mono ?_; rintro e w' ⟨rfl, rfl⟩) | (refine xr rfl rfl rfl ?_; go_simp))
  (refine wp_region_noPanic ?_; refine cX [] [0, 1, 2, 3, 4, 5, 6, 7, 8, 9, 10, 11, 12, 13, 14, 15, 16] [17] [15] [(16, 15)] oJ (by kernel_rfl) (by kernel_rfl) (fun _ _ _ _ _ h => (h : False).elim) dY ?_; simp only [bD, List.filterMap_cons, List.filterMap_nil, List.getElem?_cons_succ, List.getElem?_cons_zero]; refine eS ?_)
  (repeat (first | (refine cL rfl rfl ?_; simp only [Act.put, List.setIfInBounds_toArray, List.set_cons_succ, List.set_cons_zero]) | (refine cM rfl rfl ?_; intro Z hZs hZi hZn K hK; (first | (go_big_quiet_op; (first | go_big_quiet_on | go_big_quiet_call ((first | (go_at_call 116; exact eZ.calls hZs (kZ x _)) | fail))))); clear hZs hZi hZn Z)))
  generalize (if (if x.min < aP x.walk x.blinks then aP x.walk x.blinks else x.min) < x.top then x.top else if x.min < aP x.walk x.blinks then aP x.walk x.blinks else x.min) = M at *
  (refine eV 6 (.cells #[.int .i64 M, .int .i64 ext, .int .i64 x.yel, .int .i64 x.red, .int .i64 rev, .int .i64 8] 3) rfl rfl (fun w => (by simp [go_sem] <;> rfl)) ?_; intro q15 p15 hq15 hp15; simp only [Act.put, List.setIfInBounds_toArray, List.set_cons_succ, List.set_cons_zero])
  (repeat (first | (refine cL rfl rfl ?_; simp only [Act.put, List.setIfInBounds_toArray, List.set_cons_succ, List.set_cons_zero]) | (refine cM rfl rfl ?_; intro Z hZs hZi hZn K hK; (first | (go_big_quiet_op; (first | go_big_quiet_on | go_big_quiet_call ((first | (go_at_call 94; exact eZ.pure (gT _ _ [M, ext, x.yel, x.red, rev, 8] _ (by simp) (eG [M, ext, x.yel, x.red, rev, 8] (hp15 _ (my (h := 15) (hZi _ (eZ.z _)) rfl rfl))))) | fail))))); clear hZs hZi hZn Z)))
  (refine gX ?_; intro u hinv; clear hinv; go_simp)
  go_wp2
  refine NoPanic.normal ?_
  go_wp2
  go_ret
  exact ⟨bU HR.out, by exact yd⟩
end
section
open Go.RowKit Go.Shelf
attribute [local go_sem] Oper.semAt_some IsBlk.cell IsBlk.frozen
theorem ig {F : Fence} {n : Nat} {W : World} {K : Act → Prop} {o : Oper} {a : Act} {x : Operand} {ty : TypeId} {ptr v : Value} (ho : o.op = .load ty x) (hx : a.eval x = ptr)
  (hrun : ∀ u : Up W, Sem.run Tryz.prog (Instr.loadAt ty ptr) u.w = .ok v u.w) (hk : K (a.put o.dst v)) : o.quietIn F n Tryz.prog a (fun w' => ∃ u : Up W, w' = u.w) K := by
 refine ⟨v, ?_, hk⟩
 rintro w ⟨u, rfl⟩
 have e := hrun u
 simp only [Oper.quietAtIn, execOp, ho, hx]
 generalize Instr.loadAt ty ptr = L at e ⊢
 simp [go_sem, e, Oper.quietUponIn]
theorem co {β : Type} (B b : Nat) (t : TypeId) (f : β → Array Value) : OwnFrom B (fun s W => W.heap[b]? = some (.cells (f s) t)) := fun s W W' row hs hg hr =>
 (hg.block b (Array.getElem?_eq_some_iff.1 hs).1 (fun e => by obtain ⟨_, o, ho, hc⟩ := hr b e.symm; rw [hs] at ho; cases ho; cases hc)).trans hs
def rC (q : Nat → Int) (l : List (Fin 8)) : Int := l.foldl (fun n p => max n (aU (q p.val))) 0
theorem tW (q : Nat → Int) (l : List (Fin 8)) (p : Fin 8) : rC q (l ++ [p]) = max (rC q l) (aU (q p.val)) := by unfold rC; rw [List.foldl_append]; rfl
theorem r7 (q : Nat → Int) (on : Int) : rC q (aX on 8) = cd ((ci on).map fun p => aU (q p.toNat)) := by
 unfold rC cd ci
 rw [← gK on 8 (Nat.le_refl _), List.map_map, List.foldl_map]
 rfl
theorem lA (a b : Int) : (if a < b then b else a) = max a b := by split <;> omega
theorem bE {B : Nat} {W : World} (u : Up W) : KeepsFrom B W u.w := ⟨u.bel.size, fun j o _ h1 _ => by rw [u.bel.block j (Array.getElem?_eq_some_iff.1 h1).1]; exact h1⟩
theorem rf (T : Array Value) [hz : Sz131 T] (on : Int) (ph : Nat → Array Value) (g : Nat) (q : Nat → Int) (V : Int) (w : World) (eg : Enters Tryz.prog g)
  (HON : Hid (∀ W, Below w.heap.size w W → Calls Tryz.prog 56 #[.agg T] W fun e w' => e = .returned (.int .i64 on) ∧ Below W.heap.size W w'))
  (HPH : Hid (∀ p, p < 8 → ∀ W, IsBlk W w.heap.size T 34 → Sem.run Tryz.prog (Instr.loadAt 26 (.pointer (some ⟨w.heap.size, p * 13, none⟩))) W = .ok (.agg (ph p)) W))
  (HQ : Hid (∀ p, p < 8 → ∀ W, Below w.heap.size w W → Calls Tryz.prog g #[.agg (ph p)] W fun e w' => e = .returned (.int .i64 (q p)) ∧ Below W.heap.size W w'))
  (hV : rC q (aX on 8) = V) :
  Calls Tryz.prog 153 #[.agg T, .func (.func g) #[] #[]] w fun e w' => e = .returned (.int .i64 V) ∧ Below w.heap.size w w' := by
 unfold Enters at eg
 refine (callsIn_wide (n := 5)).1 ?_
 refine callsIn_of_wp_marks Tryz.func153 rfl trivial ?_ rfl
 simp only [Tryz.ntmps153, List.size_toArray, List.length_cons, List.length_nil, Nat.reduceAdd, Nat.reduceSub, Array.replicate_succ, Array.replicate_zero, List.push_toArray, List.append_toArray, List.nil_append, List.cons_append]
 refine wpIn_wide.2 ?_
 go_wp2_with (first | (refine aJ rfl rfl rfl ?_; go_simp) | (go_at_call 56; refine (Up.run (HON.out _ (by exact yd))).mono ?_; rintro e w' ⟨rfl, u, rfl⟩) | (go_at_call 55; refine (dz _ _).mono ?_; rintro e w' ⟨rfl, rfl⟩))
 obtain ⟨U, hU⟩ : ∃ U, u.w.heap.size = U := ⟨_, rfl⟩
 have hsu := u.bel.size
 simp only [World.size_alloc] at hsu
 obtain ⟨X, hX⟩ : ∃ X, u.w.alloc (.cells #[.int .i64 on] 3) = X := ⟨_, rfl⟩
 have iT : IsBlk X w.heap.size T 34 := by rw [← hX]; infer_instance
 have iG : IsBlk X (w.heap.size + 1) #[.func (.func g) #[] #[]] 177 := by rw [← hX]; infer_instance
 have iN : IsBlk X (w.heap.size + 1 + 1) #[.int .i64 0] 3 := by rw [← hX]; infer_instance
 have bN : Boxed X U 3 (.int .i64 on) := by rw [← hX, ← hU]; exact (inferInstance : IsBlk _ _ _ _).out
 have hXs : X.heap.size = U + 1 := by rw [← hX, ← hU]; simp
 have hX0 : Below w.heap.size w X := by rw [← hX]; all_goals try exact yd
 rw [hX, hU]
 rw [hU] at hsu
 clear hX hU
 have h1' : (1 : Nat) ≤ 5 := by omega
 have hstops := ce 4 (by omega) U on X (by omega) bN.cell
 have HV := Lib.hid hV
 clear hV
 refine (wpIn_wide (n := 5)).1 ?_
 refine wpIn_rangeFunc_ownG rfl h1' (gf := 143) (lb := #[.pointer (some ⟨U, 0, none⟩)]) rfl trivial (enters_of Tryz.func143 (by kernel_rfl) rfl)
  hstops dV (d7 (by omega)) (Below.refl _ _) (fun _ => rfl)
  (fun pre W => (W.heap[w.heap.size + 1 + 1]? = some (.cells #[.int .i64 (rC q pre)] 3) ∧ (W.heap[w.heap.size]? = some (.cells T 34) ∧ W.heap[w.heap.size + 1]? = some (.cells #[.func (.func g) #[] #[]] 177))) ∧ (Below w.heap.size w W ∧ KeepsFrom X.heap.size X W))
  (fun _ _ _ => False)
  (OwnFrom.and (OwnFrom.and (co _ _ _ (fun pre : List (Fin 8) => #[.int .i64 (rC q pre)])) (OwnFrom.and (co _ _ _ (fun _ : List (Fin 8) => T)) (co _ _ _ (fun _ : List (Fin 8) => #[.func (.func g) #[] #[]])))) (OwnFrom.and (ownFrom_below (Nat.le_refl _) (by omega)) (ownFrom_keepsFrom (Nat.le_refl _))))
  (fun _ _ _ _ _ hs _ _ => hs)
  ⟨⟨iN.out, iT.out, iG.out⟩, hX0, KeepsFrom.refl _ _⟩
  (fun k => { tmps := #[.agg T, .func (.func g) #[] #[], .pointer (some ⟨w.heap.size, 0, none⟩), .pointer (some ⟨w.heap.size + 1, 0, none⟩), .int .i64 0, .pointer (some ⟨w.heap.size + 1 + 1, 0, none⟩), .int .i64 (k.val : Nat), .agg T, .int .i64 on, (.func (.func 143) #[] #[.pointer (some ⟨U, 0, none⟩)]), .int .i64 (k.val : Nat), undef, undef, undef, undef, undef, undef, undef, undef, undef, undef], defers := [] }) ?assign ?body ?done ?stop
 case assign =>
  intro l x W K hK
  gi_wp2
  exact hK
 case body =>
  rintro l pre ⟨k, hk⟩ W ⟨⟨h2, h0, h1⟩, hB, hKX⟩ hlt
  haveI jN : IsBlk W (w.heap.size + 1 + 1) #[.int .i64 (rC q pre)] 3 := ⟨h2⟩
  haveI jT : IsBlk W w.heap.size T 34 := ⟨h0⟩
  haveI jG : IsBlk W (w.heap.size + 1) #[.func (.func g) #[] #[]] 177 := ⟨h1⟩
  have hkI : (k : Int) < 8 := by omega
  have HLT := jN.le
  have el : ∀ u : Up W, Sem.run Tryz.prog (Instr.loadAt 26 (.pointer (some ⟨w.heap.size, k * 13, none⟩))) u.w = .ok (.agg (ph k)) u.w := fun u => HPH.out k hk u.w inferInstance
  have HQK : Hid (∀ u : Up W, Calls Tryz.prog g #[.agg (ph k)] u.w fun e w' => e = .returned (.int .i64 (q k)) ∧ Below u.w.heap.size u.w w') := Lib.hid fun u => HQ.out k hk u.w (hB.trans (u.bel.mono hB.size))
  generalize ph k = phk at *
  have HG := tW q pre ⟨k, hk⟩
  simp only at HG
  have HFIN : Hid (∀ (u : Up W) (v : Int), v = rC q (pre ++ [⟨k, hk⟩]) → KeepsFrom X.heap.size W (u.w.setCell ⟨w.heap.size + 1 + 1, 0, none⟩ (.int .i64 v)) ∧ True) := Lib.hid fun u v _ => ⟨(bE u).trans ((KeepsOthers.setCell _ _ _).from _), trivial⟩
  generalize hgp : rC q pre = n0 at *
  generalize q k = qk at *
  gi_wp2_with fail
  refine dC 9 rfl (by kernel_rfl) (by kernel_rfl) ?_
  simp only [List.take_succ_cons, List.take_zero, List.drop_succ_cons, List.drop_zero]
  have hwf : ∀ k, Fence.wide.fn k := fun k => trivial
  repeat (first | (gi_big_quiet_want; refine ig rfl rfl el ?_; simp only [Act.put, List.setIfInBounds_toArray, List.set_cons_succ, List.set_cons_zero]; go_big_quiet_on) | gi_big_quiet_step ((first | (gi_at_call 152; exact CallsIn.inRound l (callsIn_wide.2 (Up.pure (j3 _ _)))) | exact CallsIn.inRound l (callsIn_wide.2 (Up.calls (HQK.out _))))))
  simp only [lA]
  generalize max n0 (aU qk) = n1 at *
  refine wpQuietIn_nil ?_
  rintro _ ⟨u2, rfl⟩
  have hjc : HasCell W (w.heap.size + 1 + 1) 0 := HasCell.of (v := .int .i64 n0) (by rw [IsBlk.cell]; rfl)
  have hsz := hB.size
  have ea : (u2.w.setCell ⟨w.heap.size + 1 + 1, 0, none⟩ (.int .i64 n1)).heap[w.heap.size + 1 + 1]? = some (.cells (#[.int .i64 n0].setIfInBounds 0 (.int .i64 n1)) 3) := (inferInstance : IsBlk (u2.w.setCell ⟨w.heap.size + 1 + 1, 0, none⟩ (.int .i64 n1)) (w.heap.size + 1 + 1) (#[.int .i64 n0].setIfInBounds 0 (.int .i64 n1)) 3).out
  have eo : ∀ j, j < W.heap.size → j ≠ w.heap.size + 1 + 1 → (u2.w.setCell ⟨w.heap.size + 1 + 1, 0, none⟩ (.int .i64 n1)).heap[j]? = W.heap[j]? := fun j hj hne => by rw [Below.heap_setCell _ _ _ _ (by simpa using hne)]; exact u2.bel.block _ hj
  gi_wp2
  have hWX : U < W.heap.size := by have := hKX.1; omega
  exact ⟨(HFIN.out u2 n1 HG.symm).1, eo U (by omega) (by omega), ⟨⟨by rw [HG]; exact ea, (eo _ (by omega) (by omega)).trans h0, (eo _ (by omega) (by omega)).trans h1⟩, (hB.trans (u2.bel.mono hsz)).setCell (p := ⟨w.heap.size + 1 + 1, 0, none⟩) (Nat.le_trans (Nat.le_succ _) (Nat.le_succ _)) _, hKX.trans (HFIN.out u2 n1 HG.symm).1⟩⟩
 case done =>
  rintro D ys W hD rfl ⟨⟨h2, h0, h1⟩, hB, hKX⟩ hK
  rw [HV.out] at h2
  haveI jN : IsBlk W (w.heap.size + 1 + 1) #[.int .i64 V] 3 := ⟨h2⟩
  have HLT := jN.le
  go_wp2
  refine ⟨by simp, .inl ⟨_, _, rfl, run_takeDeferred hK, ?_⟩⟩
  exact ⟨_, results_tmp rfl _ _ _, rfl, hB.trans (belowK_b (w := w) (Nat.le_refl _) W D _ _ (by omega) hK rfl rfl)⟩
 case stop =>
  rintro D c pre W _ _ h _
  exact h.elim
end
section
open Go.RowKit
theorem xx {r : List Int} {g k n : Nat} {s : Spot} (h : s ∈ za r g k n) : s.g = g := by
 unfold za at h
 obtain ⟨i, _, h⟩ := List.mem_filterMap.1 h
 split at h
 ·simp only [Option.some.injEq] at h; subst h; rfl
 ·cases h
theorem sd {gr : List (List Int × List Int)} {g n : Nat} {s : Spot} (h : s ∈ gB gr g n) : s.g = g := by
 unfold gB at h
 obtain ⟨k, _, h⟩ := List.mem_flatMap.1 h
 exact xx h
theorem ke (gr : List (List Int × List Int)) (g : Nat) : ∀ n, (ja gr n).filter (fun s => (s.g : Int) == (g : Int)) = if g < n then gB gr g 2 else []
 | 0 => rfl
 | n + 1 => by
  rw [fp, List.filter_append, ke gr g n]
  by_cases h1 : g < n
  ·rw [if_pos h1, if_pos (by omega)]
   have : (gB gr n 2).filter (fun s => (s.g : Int) == (g : Int)) = [] := by
    rw [List.filter_eq_nil_iff]
    intro s hs
    have := sd hs
    simp; omega
   rw [this, List.append_nil]
  ·rw [if_neg h1, List.nil_append]
   by_cases h2 : g = n
   ·subst h2
    rw [if_pos (by omega)]
    rw [List.filter_eq_self]
    intro s hs
    have := sd hs
    simp; omega
   ·rw [if_neg (by omega), List.filter_eq_nil_iff]
    intro s hs
    have := sd hs
    simp; omega
theorem oO {t : Tab} {p : Int} (h : qL p = false) : cZ t p = 0 := by
 unfold cZ
 rw [if_neg]
 intro hh
 obtain ⟨k, rfl, hk⟩ := pa hh
 unfold qL at h
 simp at h
 omega
theorem th {a : Int} (h : 0 ≤ a ∧ a ≤ 2147483647) : aP a 0 = a := by unfold aP aU; omega
theorem jj : ∀ (l : List Int) (a : Int), 0 ≤ a ∧ a ≤ 2147483647 → 0 ≤ l.foldl aP a ∧ l.foldl aP a ≤ 2147483647
 | [], _, h => h
 | x :: l, a, h => by rw [List.foldl_cons]; exact jj l _ (by unfold aP; exact cg _)
theorem kf (t : Tab) (row : List Int) (g k : Nat) {a : Int} (ha : 0 ≤ a ∧ a ≤ 2147483647) : ∀ n, n ≤ row.length → ((za row g k n).map fun s => cZ t s.p).foldl aP a = ((row.take n).map (cZ t)).foldl aP a
 | 0, _ => rfl
 | n + 1, h => by
  have ih := kf t row g k ha n (by omega)
  rw [fP, List.map_append, List.foldl_append, ih, List.take_succ_eq_append_getElem (by omega), List.map_append, List.foldl_append]
  have hg : row.getD n 0 = row[n] := by rw [List.getD_eq_getElem?_getD, List.getElem?_eq_getElem (by omega)]; rfl
  rw [hg]
  cases hk : qL row[n]
  ·simp only [Bool.false_eq_true, if_false, List.map_nil, List.foldl_nil, List.map_cons, List.foldl_cons]
   rw [oO hk, th (jj _ _ ha)]
  ·simp
theorem pS (t : Tab) {g : Nat} (hg : g < t.gr.length) : cK t g = ((ak t.gr g 0 ++ ak t.gr g 1).map (cZ t)).foldl aP 8 := by
 unfold cK
 rw [if_pos ⟨by omega, by omega⟩]
 unfold xW io ch
 rw [ke, if_pos hg]
 have h8 : (0 : Int) ≤ 8 ∧ (8 : Int) ≤ 2147483647 := by omega
 have e2 : gB t.gr g 2 = za (ak t.gr g 0) g 0 (ak t.gr g 0).length ++ za (ak t.gr g 1) g 1 (ak t.gr g 1).length := by
  simp [gB, List.range_succ]
 rw [e2, List.foldl_cons, show aP 0 8 = 8 by rfl, List.map_append, List.foldl_append, kf t _ g 0 h8 _ (Nat.le_refl _), kf t _ g 1 (jj _ _ h8) _ (Nat.le_refl _), List.take_length, List.take_length, List.map_append, List.foldl_append]
end
section
open Go.RowKit
attribute [local go_sem] IsBlk.cell IsBlk.frozen
theorem qy (T : Array Value) (t : Tab) (g : Int) (w : World) (hT : ag w T t) :
  Calls Tryz.prog 109 #[.agg T, .int .i64 g] w fun e w' => e = .returned (.int .i64 (cK t g)) ∧ Below w.heap.size w w' := by
 haveI : Sz131 T := ⟨hT.size⟩
 have HT : Hid (∀ w', Below w.heap.size w w' → ag w' T t) := Lib.hid fun w' hb => hT.below hb (Nat.le_refl _)
 obtain ⟨gv, d, r, b, hTe, hI⟩ := hT
 obtain ⟨ga, gcap, H, rfl, hrow, hints⟩ := hI.gr
 have t104 : T[104]? = some (.slice ga t.gr.length gcap) := by rw [hTe, ab _ _ _ (by omega)]; rfl
 have lg := hI.lg
 have LR := Lib.hid hI.lr
 have HR := Lib.hid hrow
 have HI := Lib.hid hints
 have HNO : Hid (g < 0 ∨ (t.gr.length : Int) ≤ g → cK t g = 0) := Lib.hid fun h => by unfold cK; rw [if_neg (by omega)]
 have HYE : Hid (∀ n : Nat, n < t.gr.length → cK t n = ((ak t.gr n 0 ++ ak t.gr n 1).map (cZ t)).foldl aP 8) := Lib.hid fun n hn => pS t hn
 have HSV : Hid (∀ p w', Below w.heap.size w w' → Calls Tryz.prog 37 #[.agg T, .int .i64 p] w' fun e w'' => e = .returned (.int .i64 (cZ t p)) ∧ Below w'.heap.size w' w'') := Lib.hid fun p w' hb => n3 T t p w' (HT.out w' hb)
 obtain ⟨F, hF⟩ : ∃ F, cK t g = F := ⟨_, rfl⟩
 clear hrow hints hI hTe
 generalize hsv : cZ t = sv at *
 generalize hgr : t.gr = gr at *
 clear hsv
 by_cases h1 : g < 0
 ·rw [HNO.out (.inl h1)]
  clear HNO HYE hF
  go_enter Tryz.func109, Tryz.ntmps109
  go_wp2
  go_ret
  exact ⟨rfl, by exact yd⟩
 ·by_cases h2 : (gr.length : Int) ≤ g
  ·rw [HNO.out (.inr h2)]
   clear HNO HYE hF
   go_enter Tryz.func109, Tryz.ntmps109
   go_wp2
   go_ret
   exact ⟨rfl, by exact yd⟩
  ·obtain ⟨n, rfl⟩ := Int.eq_ofNat_of_zero_le (show 0 ≤ g by omega)
   have hlt : n < gr.length := by omega
   have hnI : (n : Int) < gr.length := by omega
   rw [hF]
   have HF : Hid (((ak gr n 0 ++ ak gr n 1).map sv).foldl aP 8 = F) := Lib.hid (by rw [← HYE.out n hlt]; exact hF)
   clear HNO HYE hF h1
   obtain ⟨gb, goff, rfl, hgb, hgc⟩ := HR.out.resolve_left (by omega)
   have hc0 := hgc n hlt 0 (by omega)
   have hc1 := hgc n hlt 1 (by omega)
   simp only at hc0 hc1
   have hi0 := HI.out n hlt 0 (by omega)
   have hi1 := HI.out n hlt 1 (by omega)
   have hl0 := LR.out n 0
   have hl1 := LR.out n 1
   obtain ⟨r, hr⟩ : ∃ r : List Int × List Int, (ak gr n 0, ak gr n 1) = r := ⟨_, rfl⟩
   have hr0 : ak gr n 0 = r.1 := by rw [← hr]
   have hr1 : ak gr n 1 = r.2 := by rw [← hr]
   rw [hr0] at hl0 hi0 hc0 HF
   rw [hr1] at hl1 hi1 hc1 HF
   clear hr hr0 hr1 hgc
   generalize (H n 0).1 = a0 at *
   generalize (H n 0).2 = p0 at *
   generalize (H n 1).1 = a1 at *
   generalize (H n 1).2 = p1 at *
   have HRI : Hid (∀ k, k < 2 → bQ w (if k = 0 then a0 else a1) (gR r k)) := Lib.hid fun k hk => by
    rcases (show k = 0 ∨ k = 1 by omega) with rfl | rfl
    ·exact hi0
    ·exact hi1
   have HRL : Hid (∀ k, (gR r k).length ≤ 8) := Lib.hid fun k => by unfold gR; split <;> omega
   have HIX : Hid (∀ k, k < 2 → ∀ w, Sem.run Tryz.prog (Instr.index 60 (.agg #[.slice a0 r.1.length p0, .slice a1 r.2.length p1]) (.int .i64 (k : Nat))) w = .ok (.slice (if k = 0 then a0 else a1) (gR r k).length (if k = 0 then p0 else p1)) w) := Lib.hid fun k hk w => by
    rw [jE hk w]
    rcases (show k = 0 ∨ k = 1 by omega) with rfl | rfl <;> rfl
   have el : ∀ W, Below w.heap.size w W → Sem.run Tryz.prog (Instr.loadAt 60 (.pointer (some ⟨gb, goff + n * 2, none⟩))) W = .ok (.agg #[.slice a0 r.1.length p0, .slice a1 r.2.length p1]) W := fun W hb =>
    run_loadAt_mid (P := Tryz.prog) W gb (goff + n * 2) 60 [.slice a0 r.1.length p0, .slice a1 r.2.length p1] _ (fun j v hv => by
     have hj : j < 2 := by have := (List.getElem?_eq_some_iff.1 hv).1; simpa using this
     rw [hb.cell (p := ⟨gb, goff + n * 2 + j, none⟩) hgb]
     rcases (show j = 0 ∨ j = 1 by omega) with rfl | rfl
     ·rw [hc0]; simpa using hv
     ·rw [hc1]; simpa using hv) Tryz.underlying60 rfl (by kernel_rfl)
   have EL := Lib.hid el
   have HF0 : Hid (((fW r 0).map sv).foldl aP 8 = F) := HF
   clear hc0 hc1 hi0 hi1 el HF
   go_enter Tryz.func109, Tryz.ntmps109
   go_wp2_with (refine au rfl rfl rfl (EL.out _ (by exact yd)) ?_; go_simp)
   go_loopw [5, 24] (fun s i wr => ∃ (k : Nat) (v : Int), k ≤ 2 ∧ i = .int .i64 k ∧ s = .int .i64 v ∧ Hid (((fW r k).map sv).foldl aP v = F) ∧ Below w.heap.size w wr ∧ IsBlk wr w.heap.size T 34) (fun _ i _ => 2 - (intOf i).toNat)
   case atStart => exact ⟨0, 8, by omega, rfl, rfl, HF0, by exact yd, inferInstance⟩
   case round =>
    clear HF0
    obtain ⟨k, v, hk, rfl, rfl, hK, hb, iT⟩ := hrel
    haveI : LeSize w.heap.size wr := ⟨hb.size⟩
    have lT := iT.le
    by_cases hk2 : k < 2
    ·have hkI : (k : Int) < 2 := by omega
     have hix := HIX.out k hk2
     have hri := HRI.out k hk2
     have hrl := HRL.out k
     have HK2 : Hid (((gR r k ++ fW r (k + 1)).map sv).foldl aP v = F) := Lib.hid (by rw [← nA r hk2]; exact hK.out)
     clear hK
     have HRW := Lib.hid hri
     generalize gR r k = row at *
     generalize (if k = 0 then a0 else a1) = ra at *
     generalize (if k = 0 then p0 else p1) = rp at *
     clear hri
     go_wp2
     go_loopw [5, 29] (fun s i wr => ∃ (j : Nat) (v : Int), j ≤ row.length ∧ i = .int .i64 j ∧ s = .int .i64 v ∧ Hid (((row.drop j ++ fW r (k + 1)).map sv).foldl aP v = F) ∧ Below w.heap.size w wr ∧ IsBlk wr w.heap.size T 34) (fun _ i _ => row.length - (intOf i).toNat)
     case atStart => exact ⟨0, v, by omega, rfl, rfl, HK2, hb, iT⟩
     case round =>
      clear HK2 hb iT lT
      obtain ⟨j, v2, hj, rfl, rfl, hJ, hb, iT⟩ := hrel
      haveI : LeSize w.heap.size wr := ⟨hb.size⟩
      have lT := iT.le
      by_cases hjl : j < row.length
      ·have hjI : (j : Int) < row.length := by omega
       obtain ⟨rb, roff, rfl, hrb, hrc⟩ := bk.cell HRW.out (by omega)
       have hcell : wr.cell? ⟨rb, roff + j, none⟩ = some (.int .i64 (row.getD j 0)) := by
        rw [hb.cell (p := ⟨rb, roff + j, none⟩) hrb]; exact hrc j hjl
       have HJ2 : Hid (((row.drop (j + 1) ++ fW r (k + 1)).map sv).foldl aP (aP v2 (sv (row.getD j 0))) = F) := Lib.hid (by
        rw [← hJ.out, List.drop_eq_getElem_cons hjl, List.cons_append, List.map_cons, List.foldl_cons]
        simp [List.getD_eq_getElem?_getD, List.getElem?_eq_getElem hjl])
       have HS := Lib.hid (HSV.out (row.getD j 0))
       clear hrc hJ
       generalize row.getD j 0 = p at *
       generalize sv p = sp at *
       go_wp2_with (first | (refine aJ rfl rfl rfl ?_; go_simp) | (go_at_call 37; (with_reducible refine (Up.run (HS.out _ ?_)).mono ?_); (focus exact yd); rintro e w' ⟨rfl, us, rfl⟩) | (go_at_call 92; refine (dx _ _ _).mono ?_; rintro e w' ⟨rfl, rfl⟩))
       go_roundw
       case rel => exact ⟨j + 1, _, by omega, by go_num, rfl, HJ2, by exact yd, inferInstance⟩
       case measure => simp [intOf]; omega
      ·obtain rfl : j = row.length := by omega
       have HE : Hid (((fW r (k + 1)).map sv).foldl aP v2 = F) := Lib.hid (by rw [← hJ.out, List.drop_length, List.nil_append])
       clear hJ
       go_wp2
       go_roundw
       case rel => exact ⟨k + 1, v2, by omega, by go_num, rfl, HE, hb, iT⟩
       case measure => simp [intOf]; omega
    ·obtain rfl : k = 2 := by omega
     have HE : Hid (v = F) := Lib.hid hK.out
     clear hK
     go_wp2
     go_ret
     exact ⟨bU HE.out, by exact yd⟩
end
section
open Go.RowKit
attribute [local go_sem] IsBlk.cell IsBlk.frozen
theorem rO (t : Tab) (g : Int) : 0 ≤ cK t g ∧ cK t g ≤ 2147483647 := by
 unfold cK
 split
 ·exact jj _ _ (by omega)
 ·omega
theorem uO (t : Tab) {a : Int} (ha : 0 ≤ a ∧ a ≤ 2147483647) (l : List Int) : ch (a :: l) = l.foldl aP a := by
 unfold ch
 rw [List.foldl_cons, show aP 0 a = a by unfold aP aU; omega]
theorem qC (T : Array Value) (t : Tab) (p : Int) (w : World) (hT : ag w T t) :
  Calls Tryz.prog 31 #[.agg T, .int .i64 p] w fun e w' => e = .returned (.int .i64 (dg t p)) ∧ Below w.heap.size w w' := by
 haveI : Sz131 T := ⟨hT.size⟩
 have HT : Hid (∀ w', Below w.heap.size w w' → ag w' T t) := Lib.hid fun w' hb => hT.below hb (Nat.le_refl _)
 obtain ⟨ga, gcap, t104, lg⟩ : ∃ ga gcap, T[104]? = some (.slice ga t.gr.length gcap) ∧ t.gr.length ≤ 8 := by
  obtain ⟨gv, d, r, b, hTe, hI⟩ := hT
  obtain ⟨ga, gcap, H, rfl, _, _⟩ := hI.gr
  exact ⟨ga, gcap, by rw [hTe, ab _ _ _ (by omega)]; rfl, hI.lg⟩
 have HW : Hid (∀ w', Below w.heap.size w w' → Calls Tryz.prog 108 #[.agg T, .int .i64 p] w' fun e w'' => e = .returned (.tuple #[.int .i64 (wo (bh t.gr p)), .int .i64 (wZ (bh t.gr p)), .int .i64 (wY (bh t.gr p)), .bool (bh t.gr p).isSome]) ∧ Below w'.heap.size w' w'') := Lib.hid fun w' hb => jK T t p w' (HT.out w' hb)
 have HP : Hid (∀ g w', Below w.heap.size w w' → Calls Tryz.prog 109 #[.agg T, .int .i64 g] w' fun e w'' => e = .returned (.int .i64 (cK t g)) ∧ Below w'.heap.size w' w'') := Lib.hid fun g w' hb => qy T t g w' (HT.out w' hb)
 have HF0 : Hid ((bh t.gr p).isSome = false → dg t p = 0) := Lib.hid fun h => by unfold dg; cases hw : bh t.gr p with | none => rfl | some x => rw [hw] at h; cases h
 have HF1 : Hid (aT (eB t) p = false → dg t p = 0) := Lib.hid fun h => by unfold dg; cases hw : bh t.gr p with | none => rfl | some x => simp [h]
 have HF2 : Hid ((bh t.gr p).isSome = true → aT (eB t) p = true → dg t p = (u9 t t.gr.length).foldl aP (cK t (wo (bh t.gr p)))) := Lib.hid fun h1 h2 => by
  unfold dg
  cases hw : bh t.gr p with
  | none => rw [hw] at h1; cases h1
  | some x => simp only [h2, if_true]; rw [uO t (rO t _)]; rfl
 have HFS : Hid (∀ n, u9 t (n + 1) = u9 t n ++ [cK t (n : Int)]) := Lib.hid fun n => tP t n
 clear hT
 generalize wo (bh t.gr p) = og at *
 generalize wZ (bh t.gr p) = ok at *
 generalize wY (bh t.gr p) = oi at *
 generalize (bh t.gr p).isSome = is at *
 obtain ⟨F, hF⟩ : ∃ F, dg t p = F := ⟨_, rfl⟩
 rw [hF] at HF0 HF1 HF2 ⊢
 clear hF
 cases is
 ·have HE := Lib.hid (HF0.out rfl)
  clear HF0 HF1 HF2
  go_enter Tryz.func31, Tryz.ntmps31
  go_wp2_with (first | (refine aJ rfl rfl rfl ?_; go_simp) | (go_at_call 108; (with_reducible refine (Up.run (HW.out _ ?_)).mono ?_); (focus exact yd); rintro e w' ⟨rfl, uw, rfl⟩))
  go_ret
  exact ⟨bU HE.out.symm, by exact yd⟩
 ·cases hh : aT (eB t) p
  ·have HE := Lib.hid (HF1.out hh)
   clear HF0 HF1 HF2
   go_enter Tryz.func31, Tryz.ntmps31
   go_wp2_with (first | (refine aJ rfl rfl rfl ?_; go_simp) | (refine jn rfl rfl rfl ?_; go_simp) | (go_at_call 56; refine (Up.run (eE _ _ _ (HT.out _ (by exact yd)))).mono ?_; rintro e w' ⟨rfl, upo, rfl⟩) | (go_at_call 63; refine (bA _ _ _).mono ?_; rintro e w' ⟨rfl, rfl⟩) | (go_at_call 108; (with_reducible refine (Up.run (HW.out _ ?_)).mono ?_); (focus exact yd); rintro e w' ⟨rfl, uw, rfl⟩))
   go_ret
   exact ⟨bU HE.out.symm, by exact yd⟩
  ·have HE := Lib.hid (HF2.out rfl hh)
   clear HF0 HF1 HF2
   go_enter Tryz.func31, Tryz.ntmps31
   go_wp2_with (first | (refine aJ rfl rfl rfl ?_; go_simp) | (refine jn rfl rfl rfl ?_; go_simp) | (go_at_call 56; refine (Up.run (eE _ _ _ (HT.out _ (by exact yd)))).mono ?_; rintro e w' ⟨rfl, upo, rfl⟩) | (go_at_call 63; refine (bA _ _ _).mono ?_; rintro e w' ⟨rfl, rfl⟩) | (go_at_call 108; (with_reducible refine (Up.run (HW.out _ ?_)).mono ?_); (focus exact yd); rintro e w' ⟨rfl, uw, rfl⟩) | (go_at_call 109; (with_reducible refine (Up.run (HP.out _ _ ?_)).mono ?_); (focus exact yd); rintro e w' ⟨rfl, upp, rfl⟩))
   go_loopw [9, 34] (fun s i wr => ∃ (n : Nat) (v : Int), n ≤ t.gr.length ∧ i = .int .i64 n ∧ s = .int .i64 v ∧ Hid (v = (u9 t n).foldl aP (cK t og)) ∧ Below w.heap.size w wr ∧ IsBlk wr w.heap.size T 34) (fun _ i _ => t.gr.length - (intOf i).toNat)
   case atStart => exact ⟨0, _, by omega, rfl, rfl, Lib.hid rfl, by exact yd, inferInstance⟩
   case round =>
    obtain ⟨n, v, hn, rfl, rfl, hV, hb, iT⟩ := hrel
    haveI : LeSize w.heap.size wr := ⟨hb.size⟩
    have lT := iT.le
    by_cases hlt : n < t.gr.length
    ·have hnI : (n : Int) < t.gr.length := by omega
     have HV2 : Hid (aP v (cK t n) = (u9 t (n + 1)).foldl aP (cK t og)) := Lib.hid (by rw [HFS.out, List.foldl_append, hV.out]; rfl)
     have HPN := Lib.hid (HP.out n)
     clear hV
     generalize cK t (n : Int) = pn at *
     go_wp2_with (first | (refine aJ rfl rfl rfl ?_; go_simp) | (go_at_call 109; (with_reducible refine (Up.run (HPN.out _ ?_)).mono ?_); (focus exact yd); rintro e w' ⟨rfl, upp, rfl⟩) | (go_at_call 92; refine (dx _ _ _).mono ?_; rintro e w' ⟨rfl, rfl⟩))
     go_roundw
     case rel => exact ⟨n + 1, _, by omega, by go_num, rfl, HV2, by exact yd, inferInstance⟩
     case measure => simp [intOf]; omega
    ·obtain rfl : n = t.gr.length := by omega
     have HE2 : Hid (v = F) := Lib.hid (hV.out.trans HE.out.symm)
     clear hV HE
     go_wp2
     go_ret
     exact ⟨bU HE2.out, by exact yd⟩
end
section
open Go.RowKit Go.Shelf
attribute [local go_sem] IsBlk.cell IsBlk.frozen
def wJ (p : Phs) : Array Value := #[.bool p.on, .int .i64 p.min, .int .i64 p.gap, .int .i64 p.max, .int .i64 p.top, .int .i64 p.step, .int .i64 p.yel, .int .i64 p.red, .int .i64 p.walk, .int .i64 p.blinks, .int .i64 p.recl, .bool p.lock, .bool p.rest]
theorem aar (T : Array Value) (t : Tab) (g : Nat) (q : Phs → Int) (w : World) (eg : Enters Tryz.prog g) (hT : ag w T t)
  (hq : ∀ p W, Calls Tryz.prog g #[.agg (wJ p)] W fun e w' => e = .returned (.int .i64 (q p)) ∧ Below W.heap.size W w') :
  Calls Tryz.prog 153 #[.agg T, .func (.func g) #[] #[]] w fun e w' => e = .returned (.int .i64 (cd ((ci (eB t)).map fun p => aU (q (t.ph p.toNat))))) ∧ Below w.heap.size w w' := by
 haveI : Sz131 T := ⟨hT.size⟩
 refine rf T (eB t) (fun p => wJ (t.ph p)) g (fun p => q (t.ph p)) _ w eg (Lib.hid fun W hW => ?_) (Lib.hid fun p hp W iT => ?_) (Lib.hid fun p hp W hW => hq _ W) ?_
 ·exact eE T t W (hT.below hW (Nat.le_refl _))
 ·haveI := hT.isPh p hp
  exact o8
 ·exact r7 _ _
theorem nH {α : Type} {f g : α → Int} (l : List α) (h : ∀ x, f x = g x) : cd (l.map f) = cd (l.map g) := by rw [show f = g from funext h]
theorem vk (a b : Int) : aU (aP a b) = aP a b := by unfold aP aU; omega
theorem mH (t : Tab) : cd ((ci (eB t)).map fun p => aU (aP (t.ph p.toNat).yel (t.ph p.toNat).red)) = cE t := by
 unfold cE xd
 exact nH _ fun p => by rw [vk, gl]
theorem nd {α : Type} (f g : α → Int) : ∀ (l : List α) (a : Int), (l.flatMap fun x => [f x, g x]).foldl max a = (l.map fun x => max (f x) (g x)).foldl max a
 | [], _ => rfl
 | x :: l, a => by
  rw [List.flatMap_cons, List.map_cons, List.foldl_append, List.foldl_cons, List.foldl_cons, List.foldl_cons, List.foldl_nil, nd f g l]
  congr 1; omega
theorem nO (t : Tab) : cd ((ci (eB t)).map fun p => aU (max (t.ph p.toNat).min (aP (t.ph p.toNat).walk (t.ph p.toNat).blinks))) = cd (xH t (ci (eB t))) := by
 unfold xH cd
 rw [nd]
 congr 1
 exact List.map_congr_left fun p _ => by
  rw [← gl]
  have := cg (aU (t.ph p.toNat).walk + aU (t.ph p.toNat).blinks)
  unfold aP
  generalize aU (aU (t.ph p.toNat).walk + aU (t.ph p.toNat).blinks) = s at *
  unfold aU; omega
def aev (l : List Int) : Int := (l.map aU).foldl (· + ·) 0
theorem kA : ∀ (l : List Int) (a : Int), 0 ≤ a → (l.foldl aP (aU a)) = aU ((l.map aU).foldl (· + ·) a)
 | [], _, _ => rfl
 | x :: l, a, ha => by
  have hx := cg x
  rw [List.foldl_cons, List.map_cons, List.foldl_cons, ← kA l (a + aU x) (by omega)]
  congr 1
  unfold aP
  generalize aU x = y at *
  unfold aU; omega
theorem ns (l : List Int) : ch l = aU (aev l) := by unfold ch aev; rw [← kA l 0 (by omega)]; rfl
theorem qU (t : Tab) (r : Rl) : ch [r.dly, r.hold, dG 2 r.grn, dG 3 r.foot, dG 5 (cE t), dG 3 t.rev, 60] = dL t r := by
 unfold dL
 rw [ns, ns]
 have h1 := cg r.dly
 have h2 := cg r.hold
 have h3 := cg r.grn
 have h4 := cg r.foot
 have h5 := cg (cE t)
 have h6 := cg t.rev
 simp only [aev, List.map_cons, List.map_nil, List.foldl_cons, List.foldl_nil, dG, show aU 2 = 2 by decide, show aU 3 = 3 by decide, show aU 5 = 5 by decide, show aU 60 = 60 by decide]
 generalize aU r.dly = a at *
 generalize aU r.hold = b at *
 generalize aU r.grn = c at *
 generalize aU r.foot = d at *
 generalize aU (cE t) = e at *
 generalize aU t.rev = f at *
 unfold aU; omega
theorem ab4 (p : Phs) (W : World) : Calls Tryz.prog 195 #[.agg (wJ p)] W fun e w' => e = .returned (.int .i64 (aP p.yel p.red)) ∧ Below W.heap.size W w' := by
 obtain ⟨on, a1, a2, a3, a4, a5, a6, a7, a8, a9, a10, lk, rs⟩ := p
 unfold wJ
 go_enter Tryz.func195, Tryz.ntmps195
 go_wp2_with (go_at_call 92; refine (dx _ _ _).mono ?_; rintro e w' ⟨rfl, rfl⟩)
 go_ret
 exact ⟨rfl, by exact yd⟩
theorem nW (p : Phs) (W : World) : Calls Tryz.prog 154 #[.agg (wJ p)] W fun e w' => e = .returned (.int .i64 (max p.min (aP p.walk p.blinks))) ∧ Below W.heap.size W w' := by
 have HF : Hid (∀ w, Calls Tryz.prog 116 #[.agg (wJ p)] w fun e w' => e = .returned (.int .i64 (aP p.walk p.blinks)) ∧ Below w.heap.size w w') := Lib.hid fun w => kZ p w
 obtain ⟨on, a1, a2, a3, a4, a5, a6, a7, a8, a9, a10, lk, rs⟩ := p
 unfold wJ at *
 go_enter Tryz.func154, Tryz.ntmps154
 go_wp2
 (refine ai (by kernel_rfl) (by kernel_rfl) ?_; (repeat (go_big_quiet_step ((go_at_call 116; exact Up.calls (HF.out _))))); refine wpQuiet_nil ?_; rintro _ ⟨u, rfl⟩)
 rw [lA]
 go_wp2
 go_ret
 exact ⟨rfl, by exact yd⟩
theorem js (T : Array Value) (t : Tab) (w : World) (hT : ag w T t) :
  Calls Tryz.prog 145 #[.agg T] w fun e w' => e = .returned (.int .i64 (cE t)) ∧ Below w.heap.size w w' := by
 haveI : Sz131 T := ⟨hT.size⟩
 have HG : Hid (∀ w', Below w.heap.size w w' → Calls Tryz.prog 153 #[.agg T, .func (.func 195) #[] #[]] w' fun e w'' => e = .returned (.int .i64 (cE t)) ∧ Below w'.heap.size w' w'') := Lib.hid fun w' hb => by
  rw [← mH]
  exact aar T t _ (fun p => aP p.yel p.red) w' (enters_of Tryz.func195 (by kernel_rfl) rfl) (hT.below hb (Nat.le_refl _)) ab4
 clear hT
 go_enter Tryz.func145, Tryz.ntmps145
 go_wp2_with (first | (refine aJ rfl rfl rfl ?_; go_simp) | (go_at_call 153; refine (Up.run (HG.out _ (by exact yd))).mono ?_; rintro e w' ⟨rfl, u, rfl⟩))
 go_ret
 exact ⟨rfl, by exact yd⟩
theorem j4 (T : Array Value) (t : Tab) (k : Nat) (r : Rl) (w : World) (hT : ag w T t) (hk : t.ra[k]? = some r) :
  Calls Tryz.prog 58 #[.agg T, .int .i64 k] w fun e w' => e = .returned (.int .i64 (dL t r)) ∧ Below w.heap.size w w' := by
 haveI : Sz131 T := ⟨hT.size⟩
 have HT : Hid (∀ w', Below w.heap.size w w' → ag w' T t) := Lib.hid fun w' hb => hT.below hb (Nat.le_refl _)
 obtain ⟨ra, rcap, t114, hrow, hl64⟩ := hT.rails
 have t119 := hT.rev'
 have hlt := (List.getElem?_eq_some_iff.1 hk).1
 obtain ⟨b, off, rfl, hbl, hc⟩ := hrow.resolve_left (by omega)
 have c0 := hc k hlt 0 (by omega)
 have c1 := hc k hlt 1 (by omega)
 have c2 := hc k hlt 2 (by omega)
 have c3 := hc k hlt 3 (by omega)
 have c4 := hc k hlt 4 (by omega)
 have c5 := hc k hlt 5 (by omega)
 have c6 := hc k hlt 6 (by omega)
 have c7 := hc k hlt 7 (by omega)
 have c8 := hc k hlt 8 (by omega)
 have c9 := hc k hlt 9 (by omega)
 have c10 := hc k hlt 10 (by omega)
 simp only [aF, hk, Option.bind_some, dq, List.getElem?_cons_zero, List.getElem?_cons_succ, Option.getD_some, Nat.add_zero] at c0 c1 c2 c3 c4 c5 c6 c7 c8 c9 c10
 clear hc hrow hT hk
 have hltI : (k : Int) < t.ra.length := by omega
 haveI : LeSize (b + 1) w := ⟨hbl⟩
 obtain ⟨R, hR⟩ : ∃ R, dL t r = R := ⟨_, rfl⟩
 obtain ⟨cl, hcl⟩ : ∃ cl, cE t = cl := ⟨_, rfl⟩
 have HR := Lib.hid (show ch [r.dly, r.hold, dG 2 r.grn, dG 3 r.foot, dG 5 cl, dG 3 t.rev, 60] = R by rw [← hR, ← hcl]; exact qU t r)
 have HC : Hid (∀ w', Below w.heap.size w w' → Calls Tryz.prog 145 #[.agg T] w' fun e w'' => e = .returned (.int .i64 cl) ∧ Below w'.heap.size w' w'') := Lib.hid fun w' h => by rw [← hcl]; exact js T t w' (HT.out _ h)
 rw [hR]
 clear hR hcl
 go_enter Tryz.func58, Tryz.ntmps58
 go_wp2_with (refine aJ rfl rfl rfl ?_; go_simp)
 (refine wp_region_noPanic ?_; refine cX [] [0, 1, 2, 3, 4, 5, 6, 7, 8, 9, 10, 11, 12, 13, 14, 15, 16, 17] [18] [16] [(17, 16)] oJ (by kernel_rfl) (by kernel_rfl) (fun _ _ _ _ _ h => (h : False).elim) dY ?_; simp only [bD, List.filterMap_cons, List.filterMap_nil, List.getElem?_cons_succ, List.getElem?_cons_zero]; refine eS ?_)
 (repeat (first | (refine cL rfl rfl ?_; simp only [Act.put, List.setIfInBounds_toArray, List.set_cons_succ, List.set_cons_zero]) | (refine cM rfl rfl ?_; intro Z hZs hZi hZn K hK; (first | (refine oK rfl rfl ?_; simp only [Act.put, List.setIfInBounds_toArray, List.set_cons_succ, List.set_cons_zero]; go_big_quiet_on) | (go_big_quiet_op; (first | go_big_quiet_on | go_big_quiet_call ((first | (go_at_call 93; exact eZ.pure (mI _ _ _)) | (go_at_call 145; exact eZ.calls hZs (HC.out _ (by exact yd))) | fail))))); clear hZs hZi hZn Z)))
 (refine eV 7 (.cells #[.int .i64 r.dly, .int .i64 r.hold, .int .i64 (dG 2 r.grn), .int .i64 (dG 3 r.foot), .int .i64 (dG 5 cl), .int .i64 (dG 3 t.rev), .int .i64 60] 3) rfl rfl (fun w => (by simp [go_sem] <;> rfl)) ?_; intro q16 p16 hq16 hp16; simp only [Act.put, List.setIfInBounds_toArray, List.set_cons_succ, List.set_cons_zero])
 (repeat (first | (refine cL rfl rfl ?_; simp only [Act.put, List.setIfInBounds_toArray, List.set_cons_succ, List.set_cons_zero]) | (refine cM rfl rfl ?_; intro Z hZs hZi hZn K hK; (first | (go_big_quiet_op; (first | go_big_quiet_on | go_big_quiet_call ((first | (go_at_call 94; exact eZ.pure (gT _ _ [r.dly, r.hold, dG 2 r.grn, dG 3 r.foot, dG 5 cl, dG 3 t.rev, 60] _ (by simp) (eG [r.dly, r.hold, dG 2 r.grn, dG 3 r.foot, dG 5 cl, dG 3 t.rev, 60] (hp16 _ (my (h := 16) (hZi _ (eZ.z _)) rfl rfl))))) | fail))))); clear hZs hZi hZn Z)))
 (refine gX ?_; intro u hinv; clear hinv; go_simp)
 go_wp2
 refine NoPanic.normal ?_
 go_wp2
 go_ret
 exact ⟨bU HR.out, by exact yd⟩
end
section
open Go.RowKit Go.Shelf
attribute [local go_sem] IsBlk.cell IsBlk.frozen
theorem tY (t : Tab) (rs : List Rl) : vt t rs = rs.map fun r => aP (dL t r) r.stay := by unfold vt; exact List.map_congr_left fun r _ => (gl _ _).symm
theorem qh {t : Tab} {k : Nat} {r : Rl} (h : t.ra[k]? = some r) : cd (vt t (t.ra.take (k + 1))) = max (cd (vt t (t.ra.take k))) (aP (dL t r) r.stay) := by
 rw [List.take_add_one, h, tY, tY]
 unfold cd
 rw [List.map_append, List.foldl_append]
 rfl
theorem qm (T : Array Value) (t : Tab) (w : World) (hT : ag w T t) :
  Calls Tryz.prog 95 #[.agg T] w fun e w' => e = .returned (.int .i64 (iV t)) ∧ Below w.heap.size w w' := by
 haveI : Sz131 T := ⟨hT.size⟩
 have HT : Hid (∀ w', Below w.heap.size w w' → ag w' T t) := Lib.hid fun w' hb => hT.below hb (Nat.le_refl _)
 obtain ⟨ra, rcap, t114, hrow, hl64⟩ := hT.rails
 have t119 := hT.rev'
 by_cases hz : t.ra.length = 0
 ·rw [show iV t = 0 by simp [iV, hz]]
  rw [hz] at t114
  clear hrow hT
  go_enter Tryz.func95, Tryz.ntmps95
  go_wp2
  go_ret
  exact ⟨rfl, by exact yd⟩
 have hz' : ((t.ra.length : Int) == 0) = false := beq_eq_false_iff_ne.2 (by omega)
 obtain ⟨rb, roff, rfl, hbl, hc⟩ := hrow.resolve_left (by omega)
 haveI : LeSize (rb + 1) w := ⟨hbl⟩
 have HRC : Hid (∀ (k : Nat) (r : Rl), t.ra[k]? = some r → ∀ j, j < 11 → w.cell? ⟨rb, roff + k * 11 + j, none⟩ = some ((dq r).getD j undef)) := Lib.hid fun k r h j hj => by
  have := hc k (List.getElem?_eq_some_iff.1 h).1 j hj
  rw [this]
  simp only [aF, h, Option.bind_some, List.getD_eq_getElem?_getD]
 obtain ⟨R, hR⟩ : ∃ R, iV t = R := ⟨_, rfl⟩
 obtain ⟨cl, hcl⟩ : ∃ cl, cE t = cl := ⟨_, rfl⟩
 obtain ⟨ls, hls⟩ : ∃ ls, cd (xH t (ci (eB t))) = ls := ⟨_, rfl⟩
 have HR := Lib.hid (show ch [cd (vt t t.ra), ls, cl, t.rev, 30] = R by rw [← hR, ← hcl, ← hls]; simp [iV, hz])
 have HC : Hid (∀ w', Below w.heap.size w w' → Calls Tryz.prog 145 #[.agg T] w' fun e w'' => e = .returned (.int .i64 cl) ∧ Below w'.heap.size w' w'') := Lib.hid fun w' h => by rw [← hcl]; exact js T t w' (HT.out _ h)
 have HG : Hid (∀ w', Below w.heap.size w w' → Calls Tryz.prog 153 #[.agg T, .func (.func 154) #[] #[]] w' fun e w'' => e = .returned (.int .i64 ls) ∧ Below w'.heap.size w' w'') := Lib.hid fun w' hb => by
  rw [← hls, ← nO]
  exact aar T t _ (fun p => max p.min (aP p.walk p.blinks)) w' (enters_of Tryz.func154 (by kernel_rfl) rfl) (HT.out _ hb) nW
 have HEN : Hid (∀ (k : Nat) (r : Rl), t.ra[k]? = some r → ∀ w', Below w.heap.size w w' → Calls Tryz.prog 58 #[.agg T, .int .i64 k] w' fun e w'' => e = .returned (.int .i64 (dL t r)) ∧ Below w'.heap.size w' w'') := Lib.hid fun k r hk w' hb => j4 T t k r w' (HT.out _ hb) hk
 rw [hR]
 clear hR hcl hls hrow hc hT
 go_enter Tryz.func95, Tryz.ntmps95
 go_wp2
 go_loopw [3, 14] (fun s i wr => ∃ (k : Nat) (v : Int), k ≤ t.ra.length ∧ i = .int .i64 k ∧ s = .int .i64 v ∧ Hid (v = cd (vt t (t.ra.take k))) ∧ Below w.heap.size w wr ∧ IsBlk wr w.heap.size T 34) (fun _ i _ => t.ra.length - (intOf i).toNat)
 case atStart => exact ⟨0, 0, by omega, rfl, rfl, Lib.hid rfl, by exact yd, inferInstance⟩
 case round =>
  obtain ⟨k, v, hk, rfl, rfl, hV, hb, iT⟩ := hrel
  haveI : LeSize w.heap.size wr := ⟨hb.size⟩
  have lT := iT.le
  by_cases hlt : k < t.ra.length
  ·have hkI : (k : Int) < t.ra.length := by omega
   obtain ⟨r, hr⟩ : ∃ r, t.ra[k]? = some r := ⟨_, List.getElem?_eq_getElem hlt⟩
   have HV2 : Hid (max v (aP (dL t r) r.stay) = cd (vt t (t.ra.take (k + 1)))) := Lib.hid (by rw [qh hr, hV.out])
   have HE := Lib.hid (HEN.out k r hr)
   have hcc : ∀ j, j < 11 → wr.cell? ⟨rb, roff + k * 11 + j, none⟩ = some ((dq r).getD j undef) := fun j hj => by
    rw [hb.cell (p := ⟨rb, roff + k * 11 + j, none⟩) hbl]; exact HRC.out k r hr j hj
   have c0 := hcc 0 (by omega)
   have c1 := hcc 1 (by omega)
   have c2 := hcc 2 (by omega)
   have c3 := hcc 3 (by omega)
   have c4 := hcc 4 (by omega)
   have c5 := hcc 5 (by omega)
   have c6 := hcc 6 (by omega)
   have c7 := hcc 7 (by omega)
   have c8 := hcc 8 (by omega)
   have c9 := hcc 9 (by omega)
   have c10 := hcc 10 (by omega)
   simp only [dq, List.getD_cons_succ, List.getD_cons_zero, Nat.add_zero] at c0 c1 c2 c3 c4 c5 c6 c7 c8 c9 c10
   clear hcc hV hr
   generalize dL t r = er at *
   haveI : LeSize (rb + 1) wr := ⟨Nat.le_trans hbl hb.size⟩
   go_wp2
   (refine ai (by kernel_rfl) (by kernel_rfl) ?_; (repeat (first | (go_big_quiet_want; refine di rfl rfl ?_; simp only [Act.put, List.setIfInBounds_toArray, List.set_cons_succ, List.set_cons_zero]; go_big_quiet_on) | go_big_quiet_step ((first | (go_at_call 58; (with_reducible refine Up.calls (HE.out _ ?_)); all_goals try exact yd) | (go_at_call 92; exact Up.pure (dx _ _ _)) | fail)))); refine wpQuiet_nil ?_; rintro _ ⟨u, rfl⟩)
   rw [lA]
   generalize max v (aP er r.stay) = v2 at *
   go_wp2
   go_roundw
   case rel => exact ⟨k + 1, _, by omega, by go_num, rfl, HV2, by exact yd, inferInstance⟩
   case measure => simp [intOf]; omega
  ·obtain rfl : k = t.ra.length := by omega
   rw [List.take_length] at hV
   have HR2 : Hid (ch [v, ls, cl, t.rev, 30] = R) := Lib.hid (by rw [hV.out]; exact HR.out)
   clear hV HR
   go_wp2_with (first | (refine aJ rfl rfl rfl ?_; go_simp) | (go_at_call 153; refine (Up.run (HG.out _ (by exact yd))).mono ?_; rintro e w' ⟨rfl, u, rfl⟩))
   (refine wp_region_noPanic ?_; refine cX [] [0, 1, 2, 3, 4, 5, 6, 7] [8] [6] [(7, 6)] oJ (by kernel_rfl) (by kernel_rfl) (fun _ _ _ _ _ h => (h : False).elim) dY ?_; simp only [bD, List.filterMap_cons, List.filterMap_nil, List.getElem?_cons_succ, List.getElem?_cons_zero]; refine eS ?_)
   (repeat (first | (refine cL rfl rfl ?_; simp only [Act.put, List.setIfInBounds_toArray, List.set_cons_succ, List.set_cons_zero]) | (refine cM rfl rfl ?_; intro Z hZs hZi hZn K hK; (first | (refine oK rfl rfl ?_; simp only [Act.put, List.setIfInBounds_toArray, List.set_cons_succ, List.set_cons_zero]; go_big_quiet_on) | (go_big_quiet_op; (first | go_big_quiet_on | go_big_quiet_call ((first | (go_at_call 145; exact eZ.calls hZs (HC.out _ (by exact yd))) | fail))))); clear hZs hZi hZn Z)))
   (refine eV 5 (.cells #[.int .i64 v, .int .i64 ls, .int .i64 cl, .int .i64 t.rev, .int .i64 30] 3) rfl rfl (fun w => (by simp [go_sem] <;> rfl)) ?_; intro q6 p6 hq6 hp6; simp only [Act.put, List.setIfInBounds_toArray, List.set_cons_succ, List.set_cons_zero])
   (repeat (first | (refine cL rfl rfl ?_; simp only [Act.put, List.setIfInBounds_toArray, List.set_cons_succ, List.set_cons_zero]) | (refine cM rfl rfl ?_; intro Z hZs hZi hZn K hK; (first | (go_big_quiet_op; (first | go_big_quiet_on | go_big_quiet_call ((first | (go_at_call 94; exact eZ.pure (gT _ _ [v, ls, cl, t.rev, 30] _ (by simp) (eG [v, ls, cl, t.rev, 30] (hp6 _ (my (h := 6) (hZi _ (eZ.z _)) rfl rfl))))) | fail))))); clear hZs hZi hZn Z)))
   (refine gX ?_; intro u hinv; clear hinv; go_simp)
   go_wp2
   refine NoPanic.normal ?_
   go_wp2
   go_ret
   exact ⟨bU HR2.out, by exact yd⟩
theorem qT (T : Array Value) (t : Tab) (p : Int) (w : World) (hT : ag w T t) :
  Calls Tryz.prog 25 #[.agg T, .int .i64 p] w fun e w' => e = .returned (.int .i64 (cm t p)) ∧ Below w.heap.size w w' := by
 haveI : Sz131 T := ⟨hT.size⟩
 have HT : Hid (∀ w', Below w.heap.size w w' → ag w' T t) := Lib.hid fun w' hb => hT.below hb (Nat.le_refl _)
 obtain ⟨ra, rcap, t114, _, hl64⟩ := hT.rails
 have t130 : T[130]? = some (.int .i64 t.share) := by obtain ⟨g, d, r, b, rfl, _⟩ := hT; rw [ab _ _ _ (by omega)]; rfl
 clear hT
 obtain ⟨R, hR⟩ : ∃ R, cm t p = R := ⟨_, rfl⟩
 have hw : cm t p = if dg t p = 0 ∨ t.ra.length = 0 then dg t p else aP (dG (aP t.share 1) (ch [iV t, dg t p, 2])) t.share := by rw [gl, gl]; rfl
 obtain ⟨f, hf⟩ : ∃ f, dg t p = f := ⟨_, rfl⟩
 have HF : Hid (∀ w', Below w.heap.size w w' → Calls Tryz.prog 31 #[.agg T, .int .i64 p] w' fun e w'' => e = .returned (.int .i64 f) ∧ Below w'.heap.size w' w'') := Lib.hid fun w' h => by rw [← hf]; exact qC T t p w' (HT.out _ h)
 obtain ⟨ov, hov⟩ : ∃ ov, iV t = ov := ⟨_, rfl⟩
 have HO : Hid (∀ w', Below w.heap.size w w' → Calls Tryz.prog 95 #[.agg T] w' fun e w'' => e = .returned (.int .i64 ov) ∧ Below w'.heap.size w' w'') := Lib.hid fun w' h => by rw [← hov]; exact qm T t w' (HT.out _ h)
 rw [hR, hf, hov] at hw
 rw [hR]
 clear hR hf hov
 generalize t.share = sh at *
 by_cases hz : t.ra.length = 0
 ·rw [if_pos (.inr hz)] at hw
  subst hw
  rw [hz] at t114
  clear hz
  cases h1 : (R == 0)
  all_goals
   go_enter Tryz.func25, Tryz.ntmps25
   go_wp2_with (first | (refine aJ rfl rfl rfl ?_; go_simp) | (go_at_call 31; refine (Up.run (HF.out _ (by exact yd))).mono ?_; rintro e w' ⟨rfl, uf, rfl⟩))
   go_ret
   exact ⟨rfl, by exact yd⟩
 have hz' : ((t.ra.length : Int) == 0) = false := beq_eq_false_iff_ne.2 (by omega)
 by_cases hf0 : f = 0
 ·rw [if_pos (.inl hf0)] at hw
  subst hw
  have h1 : (R == 0) = true := by simp [hf0]
  have hR0 := Lib.hid hf0
  clear hz hf0
  go_enter Tryz.func25, Tryz.ntmps25
  go_wp2_with (first | (refine aJ rfl rfl rfl ?_; go_simp) | (go_at_call 31; refine (Up.run (HF.out _ (by exact yd))).mono ?_; rintro e w' ⟨rfl, uf, rfl⟩))
  go_ret
  exact ⟨rfl, by exact yd⟩
 ·rw [if_neg (by simp [hz, hf0])] at hw
  have HR := Lib.hid hw.symm
  have h1 : (f == 0) = false := beq_eq_false_iff_ne.2 hf0
  clear hz hf0 hw
  go_enter Tryz.func25, Tryz.ntmps25
  go_wp2_with (first | (refine aJ rfl rfl rfl ?_; go_simp) | (go_at_call 31; refine (Up.run (HF.out _ (by exact yd))).mono ?_; rintro e w' ⟨rfl, uf, rfl⟩))
  (refine wp_region_noPanic ?_; refine cX [] [0, 1, 2, 3, 4, 5, 6, 7, 8, 9, 10, 11] [12] [6] [(7, 6)] oJ (by kernel_rfl) (by kernel_rfl) (fun _ _ _ _ _ h => (h : False).elim) dY ?_; simp only [bD, List.filterMap_cons, List.filterMap_nil, List.getElem?_cons_succ, List.getElem?_cons_zero]; refine eS ?_)
  (repeat (first | (refine cL rfl rfl ?_; simp only [Act.put, List.setIfInBounds_toArray, List.set_cons_succ, List.set_cons_zero]) | (refine cM rfl rfl ?_; intro Z hZs hZi hZn K hK; (first | (refine oK rfl rfl ?_; simp only [Act.put, List.setIfInBounds_toArray, List.set_cons_succ, List.set_cons_zero]; go_big_quiet_on) | (go_big_quiet_op; (first | go_big_quiet_on | go_big_quiet_call ((first | (go_at_call 92; exact eZ.pure (dx _ _ _)) | (go_at_call 95; exact eZ.calls hZs (HO.out _ (by exact yd))) | fail))))); clear hZs hZi hZn Z)))
  (refine eV 3 (.cells #[.int .i64 ov, .int .i64 f, .int .i64 2] 3) rfl rfl (fun w => (by simp [go_sem] <;> rfl)) ?_; intro q6 p6 hq6 hp6; simp only [Act.put, List.setIfInBounds_toArray, List.set_cons_succ, List.set_cons_zero])
  (repeat (first | (refine cL rfl rfl ?_; simp only [Act.put, List.setIfInBounds_toArray, List.set_cons_succ, List.set_cons_zero]) | (refine cM rfl rfl ?_; intro Z hZs hZi hZn K hK; (first | (go_big_quiet_op; (first | go_big_quiet_on | go_big_quiet_call ((first | (go_at_call 94; exact eZ.pure (gT _ _ [ov, f, 2] _ (by simp) (eG [ov, f, 2] (hp6 _ (my (h := 6) (hZi _ (eZ.z _)) rfl rfl))))) | (go_at_call 93; exact eZ.pure (mI _ _ _)) | (go_at_call 92; exact eZ.pure (dx _ _ _)) | fail))))); clear hZs hZi hZn Z)))
  (refine gX ?_; intro u hinv; clear hinv; go_simp)
  go_wp2
  refine NoPanic.normal ?_
  go_wp2
  go_ret
  exact ⟨bU HR.out, by exact yd⟩
end
end Go.Proofs.YtodgfjgljcinlaaGreat
