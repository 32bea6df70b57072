/- Part Qm of the proof: BnH, BnI. -/
import Derived.Test.YtodgfjgljcinlaaGreatQh
import Derived.Test.YtodgfjgljcinlaaGreatQl
namespace Go.Proofs.YtodgfjgljcinlaaGreat
set_option maxHeartbeats 8000000
set_option maxRecDepth 100000
set_option linter.unusedVariables false
section
open Go.RowKit Go.Shelf
attribute [local go_sem] Oper.semAt_some IsBlk.cell IsBlk.frozen
def cx (f : Nat → Int) : Array Value := aS 12 fun i => .int .i64 (f i)
theorem fT : cx (fun _ => 0) = #[.int .i64 0, .int .i64 0, .int .i64 0, .int .i64 0, .int .i64 0, .int .i64 0, .int .i64 0, .int .i64 0, .int .i64 0, .int .i64 0, .int .i64 0, .int .i64 0] := rfl
theorem jf (f : Nat → Int) (k : Nat) (v : Int) (hk : k < 12) : (cx f).setIfInBounds k (.int .i64 v) = cx (dT f k v) := by
 unfold cx
 refine cW hk fun j hj => ?_
 unfold dT
 split <;> rfl
theorem cY (f : Nat → Int) (k : Nat) (hk : k < 12) : (cx f)[k]? = some (.int .i64 (f k)) := ab _ _ _ hk
theorem cB (f : Nat → Int) : (cx f).size = 12 := aE _ _
theorem jd {f g : Nat → Int} (h : ∀ i, i < 12 → f i = g i) : cx f = cx g := gY (by rw [cB]) fun j hj => by rw [cY _ _ hj, h j hj]
def rj (B : Nat → Int) (V : Int × Int) : Value := .tuple #[.agg (cx B), .agg #[.int .i64 V.1, .int .i64 V.2]]
theorem hM (c a : Int) (w : World) : Calls Tryz.prog 54 #[.int .i64 c, .int .i64 a] w fun e w' => e = .returned (rj (fun _ => 0) (c, a)) ∧ Below w.heap.size w w' := by
 unfold rj
 rw [fT]
 go_enter Tryz.func54, Tryz.ntmps54
 go_wp2
 go_returns
 exact ⟨rfl, by exact yd⟩
theorem bm {W : World} {b D : Nat} {C : Array Value} {t : TypeId} {o o' : Obj} (h : IsBlk W b C t) (hK : W.heap[D]? = some o) (ho : o.isCells = false) : IsBlk (W.putObj D o') b C t := by
 refine ⟨(World.putObj_heap_other ?_).trans h.out⟩
 rintro rfl
 rw [h.out] at hK
 cases hK
 cases ho
theorem cV (B : Nat) : ∀ (vs : List Value) (W : World) (b o : Nat), KeepsFrom B W (W.setCells b o vs)
 | [], _, _, _ => KeepsFrom.refl _ _
 | v :: r, W, b, o => by rw [World.setCells]; exact KeepsFrom.trans ((KeepsOthers.setCell _ _ _).from _) (cV B r _ b (o + 1))
theorem ik (B : Nat) (a : World) (W : World) (b1 b2 : Nat) (c0 c : Int) (hne : b1 ≠ b2) (ha : Below B a W) (h1 : B ≤ b1) (h2 : B ≤ b2) (i1 : IsBlk W b1 #[.int .i64 0, .int .i64 0, .int .i64 0, .int .i64 0, .int .i64 0, .int .i64 0, .int .i64 0, .int .i64 0, .int .i64 0, .int .i64 0, .int .i64 0, .int .i64 0] 45) (i2 : IsBlk W b2 #[.int .i64 0, .int .i64 0] 37) :
  ∃ W2, W2 = ((((((((((((((W.setCell ⟨b1, 0, none⟩ (.int .i64 0)).setCell ⟨b1, 1, none⟩ (.int .i64 0)).setCell ⟨b1, 2, none⟩ (.int .i64 0)).setCell ⟨b1, 3, none⟩ (.int .i64 0)).setCell ⟨b1, 4, none⟩ (.int .i64 0)).setCell ⟨b1, 5, none⟩ (.int .i64 0)).setCell ⟨b1, 6, none⟩ (.int .i64 0)).setCell ⟨b1, 7, none⟩ (.int .i64 0)).setCell ⟨b1, 8, none⟩ (.int .i64 0)).setCell ⟨b1, 9, none⟩ (.int .i64 0)).setCell ⟨b1, 10, none⟩ (.int .i64 0)).setCell ⟨b1, 11, none⟩ (.int .i64 0)).setCell ⟨b2, 0, none⟩ (.int .i64 c0)).setCell ⟨b2, 1, none⟩ (.int .i64 c)) ∧ W2.heap[b1]? = some (.cells (cx fun _ => 0) 45) ∧ W2.heap[b2]? = some (.cells #[.int .i64 c0, .int .i64 c] 37) ∧ (∀ B, KeepsFrom B W W2) ∧ Below B a W2 := by
 have e1 := ap [.int .i64 0, .int .i64 0, .int .i64 0, .int .i64 0, .int .i64 0, .int .i64 0, .int .i64 0, .int .i64 0, .int .i64 0, .int .i64 0, .int .i64 0, .int .i64 0] i1.out 0
 have e2 : (W.setCells b1 0 [.int .i64 0, .int .i64 0, .int .i64 0, .int .i64 0, .int .i64 0, .int .i64 0, .int .i64 0, .int .i64 0, .int .i64 0, .int .i64 0, .int .i64 0, .int .i64 0]).heap[b2]? = some (.cells #[.int .i64 0, .int .i64 0] 37) := (ar _ 0 (Ne.symm hne)).trans i2.out
 have e3 := ap [.int .i64 c0, .int .i64 c] e2 0
 have e4 := (ar (w := W.setCells b1 0 [.int .i64 0, .int .i64 0, .int .i64 0, .int .i64 0, .int .i64 0, .int .i64 0, .int .i64 0, .int .i64 0, .int .i64 0, .int .i64 0, .int .i64 0, .int .i64 0]) (b := b2) (k := b1) [.int .i64 c0, .int .i64 c] 0 hne).trans e1
 refine ⟨(W.setCells b1 0 [.int .i64 0, .int .i64 0, .int .i64 0, .int .i64 0, .int .i64 0, .int .i64 0, .int .i64 0, .int .i64 0, .int .i64 0, .int .i64 0, .int .i64 0, .int .i64 0]).setCells b2 0 [.int .i64 c0, .int .i64 c], ?_, e4.trans ?_, e3.trans ?_, fun B => (cV B _ W b1 0).trans (cV B _ _ b2 0), al _ 0 (al _ 0 ha h1) h2⟩
 ·simp only [World.setCells, Nat.zero_add, Nat.reduceAdd]
 ·simp only [kk, List.setIfInBounds_toArray, List.set_cons_succ, List.set_cons_zero, fT, Nat.zero_add, Nat.reduceAdd]
 ·simp only [kk, List.setIfInBounds_toArray, List.set_cons_succ, List.set_cons_zero, Nat.zero_add]
theorem vR (f g : Nat → Int) : kk (cx g) 0 (cx f).toList = cx f := by
 refine gY (by rw [jH, cB]) fun j hj => ?_
 rw [ji, cB, if_pos ⟨Nat.zero_le _, by rw [Array.length_toList, cB]; omega, hj⟩, Nat.sub_zero, Array.getElem?_toList, cY _ _ hj]
theorem vc {w : World} {b : Nat} {f : Nat → Int} {t : TypeId} [h : IsBlk w b (cx f) t] : Sem.run Tryz.prog (Instr.loadAt 45 (.pointer (some ⟨b, 0, none⟩))) w = .ok (.agg (cx f)) w := by
 have := run_loadAt_mid (P := Tryz.prog) w b 0 45 (cx f).toList _ (gi h.out 0 _ fun j hj => by simp) Tryz.underlying45 rfl (by rw [Array.length_toList, cB]; kernel_rfl)
 simpa using this
theorem xq {ops : Array Oper} {rest : List Oper} {op : Oper} {a : Act} {w : World} {Q : Exit → Act → World → Prop} {x : Operand} {b : Nat} {f : Nat → Int} {t : TypeId} (hgd : op.guard = none) (ho : op.op = .load 45 x) (hx : a.eval x = .pointer (some ⟨b, 0, none⟩)) [h : IsBlk w b (cx f) t]
  (hk : wpList Tryz.prog ops Q rest (a.put op.dst (.agg (cx f))) w) : wpList Tryz.prog ops Q (op :: rest) a w := cR hgd ho hx vc hk
theorem pw {ops : Array Oper} {rest : List Oper} {op : Oper} {a : Act} {w : World} {Q : Exit → Act → World → Prop} {x y : Operand} {b : Nat} {f g : Nat → Int} {t : TypeId} (hgd : op.guard = none) (ho : op.op = .store 45 x y) (hx : a.eval x = .pointer (some ⟨b, 0, none⟩)) (hy : a.eval y = .agg (cx f)) [h : IsBlk w b (cx g) t]
  (hk : ∀ W3, IsBlk W3 b (cx f) t → (∀ j, j ≠ b → W3.heap[j]? = w.heap[j]?) → KeepsFrom 0 w W3 → (∀ B a, Below B a w → B ≤ b → Below B a W3) → wpList Tryz.prog ops Q rest (a.put op.dst undef) W3) : wpList Tryz.prog ops Q (op :: rest) a w :=
 ac (C := cx g) 45 hgd ho hx hy (by rw [cB, cB]; omega) (by rw [cB]; kernel_rfl) (by
  rw [Array.all_eq_true]
  intro i hi
  have := cY f i (by rwa [cB] at hi)
  rw [Array.getElem?_eq_getElem hi] at this
  rw [Option.some.inj this]; rfl) (hk _ ⟨by rw [ap _ h.out, vR]⟩ (fun j hj => ar _ 0 hj) (cV 0 _ w b 0) (fun B a hb hB => al _ 0 hb hB))
theorem dy {tmps : Array Value} {W : World} {b1 b2 : Nat} {B : Nat → Int} {V : Int × Int} (h1 : tmps.getD 2 undef = .pointer (some ⟨b1, 0, none⟩)) (h2 : tmps.getD 3 undef = .pointer (some ⟨b2, 0, none⟩))
  (i1 : IsBlk W b1 (cx B) 45) (i2 : IsBlk W b2 #[.int .i64 V.1, .int .i64 V.2] 37) : (results Tryz.f18 tmps).run Tryz.prog W = .ok (rj B V) W := by
 have h1' : tmps[2]?.getD undef = .pointer (some ⟨b1, 0, none⟩) := by simpa using h1
 have h2' : tmps[3]?.getD undef = .pointer (some ⟨b2, 0, none⟩) := by simpa using h2
 have e1 := run_loadVar_row (P := Tryz.prog) W b1 45 45 (cx B) (0, 0) _ i1.out Tryz.underlying45 rfl (by rw [cB]; kernel_rfl)
 have e2 := run_loadVar_row (P := Tryz.prog) W b2 37 37 #[.int .i64 V.1, .int .i64 V.2] (0, 0) _ i2.out Tryz.underlying37 rfl (by kernel_rfl)
 simp [results, h1', h2', asAddr, e1, e2, rj]
def fJ (wt : Nat → Int) (l : List (Fin 8)) : Int := l.foldl (fun n p => max n (wt p.val)) 0
def pm (l : List (Fin 8)) : Int := match l.getLast? with | some k => k.val | none => 0
theorem jZ (l : List (Fin 8)) (k : Fin 8) : pm (l ++ [k]) = k.val := by unfold pm; rw [List.getLast?_concat]
theorem acT (wt : Nat → Int) (l : List (Fin 8)) (p : Fin 8) : fJ wt (l ++ [p]) = max (fJ wt l) (wt p.val) := by unfold fJ; rw [List.foldl_append]; rfl
def wF (wt : Nat → Int) (l : List (Fin 8)) (i : Nat) : Int := if (l.any fun p => p.val == i) = true then wt i else 0
theorem pF (wt : Nat → Int) (l : List (Fin 8)) (k : Nat) (hk : k < 8) : dT (wF wt l) k (wt k) = wF wt (l ++ [⟨k, hk⟩]) := by
 funext i
 unfold dT wF
 rw [List.any_append, List.any_cons, List.any_nil, Bool.or_false]
 by_cases h : i = k
 ·subst h; simp
 ·rw [if_neg h]
  have : (k == i) = false := beq_eq_false_iff_ne.2 (Ne.symm h)
  rw [this, Bool.or_false]
def eF (wt en : Nat → Int) (l : List (Fin 8)) (k i : Nat) : Int := if i < 8 then wF wt l i else if i - 8 < k then en (i - 8) else 0
theorem uL (wt en : Nat → Int) (l : List (Fin 8)) : cx (wF wt l) = cx (eF wt en l 0) := by
 refine jd fun i hi => ?_
 unfold eF
 split
 ·rfl
 ·rw [if_neg (by omega)]
  unfold wF
  rw [if_neg]
  intro h
  obtain ⟨p, _, hp⟩ := List.any_eq_true.1 h
  have := p.isLt
  have := beq_iff_eq.1 hp
  omega
theorem uv (wt en : Nat → Int) (l : List (Fin 8)) (k : Nat) (hk : k < 4) : (cx (eF wt en l k)).setIfInBounds (8 + k) (.int .i64 (en k)) = cx (eF wt en l (k + 1)) := by
 rw [jf _ _ _ (by omega)]
 refine jd fun i hi => ?_
 unfold dT eF
 by_cases h : i = 8 + k
 ·subst h
  rw [if_pos rfl, if_neg (by omega), if_pos (by omega), show 8 + k - 8 = k by omega]
 ·rw [if_neg h]
  by_cases h8 : i < 8
  ·rw [if_pos h8, if_pos h8]
  ·rw [if_neg h8, if_neg h8]
   by_cases h1 : i - 8 < k
   ·rw [if_pos h1, if_pos (by omega)]
   ·rw [if_neg h1, if_neg (by omega)]
theorem vl (T : Array Value) [hz : Sz131 T] (on : Int) (ra : Option Addr) (rcap nr : Nat) (win : Int) (wt en : Nat → Int) (V : Int × Int) (Bf : Nat → Int) (w : World) (hnr : nr ≤ 4) (t114 : T[114]? = some (.slice ra nr rcap)) (t129 : T[129]? = some (.int .i64 win))
  (HK : Hid (∀ W, Below w.heap.size w W → Calls Tryz.prog 20 #[.agg T] W fun e w' => e = .returned (.agg #[.int .i64 0, .int .i64 0]) ∧ Below W.heap.size W w'))
  (HON : Hid (∀ W, Below w.heap.size w W → Calls Tryz.prog 56 #[.agg T] W fun e w' => e = .returned (.int .i64 on) ∧ Below W.heap.size W w'))
  (HW : Hid (∀ p : Nat, p < 8 → ∀ W, Below w.heap.size w W → Calls Tryz.prog 25 #[.agg T, .int .i64 p] W fun e w' => e = .returned (.int .i64 (wt p)) ∧ Below W.heap.size W w'))
  (HE : Hid (∀ k : Nat, k < nr → ∀ W, Below w.heap.size w W → Calls Tryz.prog 58 #[.agg T, .int .i64 k] W fun e w' => e = .returned (.int .i64 (en k)) ∧ Below W.heap.size W w'))
  (HX1 : Hid (∀ (pre : List (Fin 8)) (k : Fin 8), pre ++ [k] <+: aX on 8 → (∀ x ∈ pre, bq (wt x.val) = false) → bq (wt k.val) = true → V = (14, (k.val : Int)) ∧ Bf = fun _ => 0))
  (HX2 : Hid ((∀ x ∈ aX on 8, bq (wt x.val) = false) → ∀ k, k < nr → (∀ j, j < k → bq (en j) = false) → bq (en k) = true → V = (14, (k : Int)) ∧ Bf = fun _ => 0))
  (HX3 : Hid ((∀ x ∈ aX on 8, bq (wt x.val) = false) → (∀ j, j < nr → bq (en j) = false) → 0 < nr → win < fJ wt (aX on 8) → V = (15, 0) ∧ Bf = fun _ => 0))
  (HX4 : Hid ((∀ x ∈ aX on 8, bq (wt x.val) = false) → (∀ j, j < nr → bq (en j) = false) → ¬ (0 < nr ∧ win < fJ wt (aX on 8)) → V = (0, 0) ∧ cx Bf = cx (eF wt en (aX on 8) nr))) :
  Calls Tryz.prog 18 #[.agg T] w fun e w' => e = .returned (rj Bf V) ∧ Below w.heap.size w w' := by
 refine (callsIn_wide (n := 5)).1 ?_
 refine callsIn_of_wp_marks Tryz.func18 rfl trivial ?_ rfl
 simp only [Tryz.ntmps18, List.size_toArray, List.length_cons, List.length_nil, Nat.reduceAdd, Nat.reduceSub, Array.replicate_succ, Array.replicate_zero, List.push_toArray, List.append_toArray, List.nil_append, List.cons_append]
 refine wpIn_wide.2 ?_
 go_wp2_with (first | (refine aJ rfl rfl rfl ?_; go_simp) | (go_at_call 20; refine (Up.run (HK.out _ (by exact yd))).mono ?_; rintro e w' ⟨rfl, uk, rfl⟩) | (go_at_call 56; refine (Up.run (HON.out _ (by exact yd))).mono ?_; rintro e w' ⟨rfl, uo, rfl⟩) | (go_at_call 55; refine (dz _ _).mono ?_; rintro e w' ⟨rfl, rfl⟩))
 obtain ⟨PK, hPK⟩ : ∃ PK, uk.w.heap.size = PK := ⟨_, rfl⟩
 obtain ⟨U, hU⟩ : ∃ U, uo.w.heap.size = U := ⟨_, rfl⟩
 have hsk := uk.bel.size
 have hso := uo.bel.size
 simp only [World.size_alloc] at hsk hso
 obtain ⟨X, hX⟩ : ∃ X, uo.w.alloc (.cells #[.int .i64 on] 3) = X := ⟨_, rfl⟩
 have iT : IsBlk X w.heap.size T 34 := by rw [← hX]; infer_instance
 have i1 : IsBlk X (w.heap.size + 1) (cx fun _ => 0) 45 := by rw [← hX, fT]; infer_instance
 have i2 : IsBlk X (w.heap.size + 1 + 1) #[.int .i64 0, .int .i64 0] 37 := by rw [← hX]; infer_instance
 have i5 : IsBlk X (PK + 1) (cx fun _ => 0) 45 := by rw [← hX, ← hPK, fT]; infer_instance
 have i6 : IsBlk X (PK + 1 + 1) #[.int .i64 0] 3 := by rw [← hX, ← hPK]; infer_instance
 have bN : Boxed X U 3 (.int .i64 on) := by rw [← hX, ← hU]; exact (inferInstance : IsBlk _ _ _ _).out
 have hXs : X.heap.size = U + 1 := by rw [← hX, ← hU]; simp
 have hX0 : Below w.heap.size w X := by rw [← hX]; all_goals try exact yd
 rw [hX, hPK, hU]
 rw [hPK] at hsk hso
 rw [hU] at hso
 clear hX hPK hU
 have h1' : (1 : Nat) ≤ 5 := by omega
 have hstops := ce 4 (by omega) U on X (by omega) bN.cell
 refine (wpIn_wide (n := 5)).1 ?_
 refine wpIn_rangeFunc_ownG rfl h1' (gf := 143) (lb := #[.pointer (some ⟨U, 0, none⟩)]) rfl trivial (enters_of Tryz.func143 (by kernel_rfl) rfl)
  hstops dV (d7 (by omega)) (Below.refl _ _) (fun _ => rfl)
  (fun pre W => ((W.heap[PK + 1]? = some (.cells (cx (wF wt pre)) 45) ∧ W.heap[PK + 1 + 1]? = some (.cells #[.int .i64 (fJ wt pre)] 3)) ∧ (W.heap[w.heap.size]? = some (.cells T 34) ∧ (W.heap[w.heap.size + 1]? = some (.cells (cx fun _ => 0) 45) ∧ W.heap[w.heap.size + 1 + 1]? = some (.cells #[.int .i64 0, .int .i64 0] 37)))) ∧ ((∀ x ∈ pre, bq (wt x.val) = false) ∧ (Below w.heap.size w W ∧ KeepsFrom X.heap.size X W)))
  (fun c pre W => (W.heap[w.heap.size + 1]? = some (.cells (cx fun _ => 0) 45) ∧ W.heap[w.heap.size + 1 + 1]? = some (.cells #[.int .i64 14, .int .i64 (pm pre)] 37)) ∧ ((c = .ret ∧ ∃ (pre2 : List (Fin 8)) (k : Fin 8), pre = pre2 ++ [k] ∧ (∀ x ∈ pre2, bq (wt x.val) = false) ∧ bq (wt k.val) = true) ∧ Below w.heap.size w W))
  (OwnFrom.and (OwnFrom.and (OwnFrom.and (co _ _ _ (fun pre : List (Fin 8) => cx (wF wt pre))) (co _ _ _ (fun pre : List (Fin 8) => #[.int .i64 (fJ wt pre)]))) (OwnFrom.and (co _ _ _ (fun _ : List (Fin 8) => T)) (OwnFrom.and (co _ _ _ (fun _ : List (Fin 8) => cx fun _ => 0)) (co _ _ _ (fun _ : List (Fin 8) => #[.int .i64 0, .int .i64 0]))))) (OwnFrom.and (ownFrom_pure _ _) (OwnFrom.and (ownFrom_below (Nat.le_refl _) (by omega)) (ownFrom_keepsFrom (Nat.le_refl _)))))
  (fun c => OwnFrom.and (OwnFrom.and (co _ _ _ (fun _ : List (Fin 8) => cx fun _ => 0)) (co _ _ _ (fun pre : List (Fin 8) => #[.int .i64 14, .int .i64 (pm pre)]))) (OwnFrom.and (ownFrom_pure _ _) (ownFrom_below (Nat.le_refl _) (by omega))))
  ⟨⟨⟨i5.out, i6.out⟩, iT.out, i1.out, i2.out⟩, (fun _ h => absurd h List.not_mem_nil), hX0, KeepsFrom.refl _ _⟩
  (fun k => { tmps := #[.agg T, .pointer (some ⟨w.heap.size, 0, none⟩), .pointer (some ⟨w.heap.size + 1, 0, none⟩), .pointer (some ⟨w.heap.size + 1 + 1, 0, none⟩), .pointer (some ⟨PK, 0, none⟩), .pointer (some ⟨PK + 1, 0, none⟩), .pointer (some ⟨PK + 1 + 1, 0, none⟩), .int .i64 (k.val : Nat), undef, .agg T, .agg #[.int .i64 0, .int .i64 0], .pointer (some ⟨PK, 0, none⟩), .int .i64 0, .bool false, undef, undef, undef, undef, undef, undef, undef, .agg T, .int .i64 on, (.func (.func 143) #[] #[.pointer (some ⟨U, 0, none⟩)]), .int .i64 (k.val : Nat), undef, undef, undef, undef, undef, undef, undef, undef, undef, undef, undef, undef, undef, undef, undef, undef, undef, undef, undef, undef, undef, undef, undef, undef, undef, undef, undef, undef, undef, undef, undef, undef, undef, undef, undef, undef, undef, undef, undef, undef, undef, undef, undef, undef, undef, undef, undef, undef, undef, undef, undef, undef, undef, undef, undef, undef, undef, undef], defers := [] }) ?assign ?body ?done ?stop
 case assign =>
  intro l x W K hK
  gi_wp2
  exact hK
 case body =>
  rintro l pre ⟨k, hk⟩ W ⟨⟨⟨h5, h6⟩, hT, h1, h2⟩, hnf, hB, hKX⟩ hlt
  haveI j5 : IsBlk W (PK + 1) (cx (wF wt pre)) 45 := ⟨h5⟩
  haveI j6 : IsBlk W (PK + 1 + 1) #[.int .i64 (fJ wt pre)] 3 := ⟨h6⟩
  haveI jT : IsBlk W w.heap.size T 34 := ⟨hT⟩
  have hkI : (k : Int) < 8 := by omega
  have hsz := hB.size
  have hWX := hKX.1
  have el : Sem.run Tryz.prog (Instr.loadAt 34 (.pointer (some ⟨w.heap.size, 0, none⟩))) W = .ok (.agg T) W := cA
  have HWK : Hid (Calls Tryz.prog 25 #[.agg T, .int .i64 (k : Nat)] W fun e w' => e = .returned (.int .i64 (wt k)) ∧ ∃ u : Up W, w' = u.w) := Lib.hid (Up.run (HW.out k hk W hB))
  have hg5 : HasCell W (PK + 1) k := HasCell.of (v := .int .i64 (wF wt pre k)) (by rw [IsBlk.cell]; exact cY _ _ (by omega))
  have hg6 : HasCell W (PK + 1 + 1) 0 := HasCell.of (v := .int .i64 (fJ wt pre)) (by rw [IsBlk.cell]; rfl)
  have hv5 : (cx (wF wt pre))[k]? = some (.int .i64 (wF wt pre k)) := cY _ _ (by omega)
  have hv5b : ((cx (wF wt pre)).setIfInBounds k (.int .i64 (wt k)))[k]? = some (.int .i64 (wt k)) := by rw [jf _ _ _ (by omega), cY _ _ (by omega)]; simp [dT]
  have l5 := j5.le
  have l6 := j6.le
  have hfit : cx (wF wt (pre ++ [⟨k, hk⟩])) = (cx (wF wt pre)).setIfInBounds k (.int .i64 (wt k)) := by rw [jf _ _ _ (by omega), pF _ _ _ hk]
  have HB := Lib.hid hB
  have HKX2 := Lib.hid hKX
  have h10 : W.heap[w.heap.size + 1]? = some (.cells #[.int .i64 0, .int .i64 0, .int .i64 0, .int .i64 0, .int .i64 0, .int .i64 0, .int .i64 0, .int .i64 0, .int .i64 0, .int .i64 0, .int .i64 0, .int .i64 0] 45) := h1
  haveI j1 : IsBlk W (w.heap.size + 1) #[.int .i64 0, .int .i64 0, .int .i64 0, .int .i64 0, .int .i64 0, .int .i64 0, .int .i64 0, .int .i64 0, .int .i64 0, .int .i64 0, .int .i64 0, .int .i64 0] 45 := ⟨h10⟩
  haveI j2 : IsBlk W (w.heap.size + 1 + 1) #[.int .i64 0, .int .i64 0] 37 := ⟨h2⟩
  have hVF : Hid (2147483647 ≤ wt k → ∃ (pre2 : List (Fin 8)) (k2 : Fin 8), pre ++ [⟨k, hk⟩] = pre2 ++ [k2] ∧ (∀ x ∈ pre2, bq (wt x.val) = false) ∧ bq (wt k2.val) = true) := Lib.hid fun h => ⟨pre, ⟨k, hk⟩, rfl, hnf, by unfold bq; simpa using h⟩
  have HNF : Hid (¬ 2147483647 ≤ wt k → ∀ x ∈ pre ++ [(⟨k, hk⟩ : Fin 8)], bq (wt x.val) = false) := Lib.hid fun h x hx => by
   rcases List.mem_append.1 hx with hx | hx
   ·exact hnf x hx
   ·obtain rfl := List.mem_singleton.1 hx
    unfold bq; simpa using h
  have HFU : ∀ w, Calls Tryz.prog 57 #[.int .i64 (wt k)] w fun e w' => e = .returned (.bool (decide (2147483647 ≤ wt k))) ∧ w = w' := fun w => kF _ w
  have HBD : ∀ w, Calls Tryz.prog 54 #[.int .i64 14, .int .i64 (k : Nat)] w fun e w' => e = .returned (.tuple #[.agg #[.int .i64 0, .int .i64 0, .int .i64 0, .int .i64 0, .int .i64 0, .int .i64 0, .int .i64 0, .int .i64 0, .int .i64 0, .int .i64 0, .int .i64 0, .int .i64 0], .agg #[.int .i64 14, .int .i64 (k : Nat)]]) ∧ Below w.heap.size w w' := fun w => hM _ _ w
  clear hB hKX h5 h6 hT h1 h2 h10 hnf
  gi_wp2_with (first | (refine iv rfl rfl rfl el ?_; go_simp) | (refine ⟨trivial, ?_⟩; gi_at_call 25; refine (CallsIn.inRound l (callsIn_wide.2 HWK.out)).mono ?_; rintro e w' ⟨rfl, uw, rfl⟩))
  have hb1 : Below W.heap.size W uw.w := uw.bel
  obtain ⟨W1, hW1⟩ : ∃ W1, uw.w.setCell ⟨PK + 1, k, none⟩ (.int .i64 (wt k)) = W1 := ⟨_, rfl⟩
  have k5 : IsBlk W1 (PK + 1) (cx (wF wt (pre ++ [⟨k, hk⟩]))) 45 := by rw [← hW1, hfit]; infer_instance
  have ap60 : Apart (PK + 1 + 1) (PK + 1) := ⟨by omega⟩
  have k6 : IsBlk W1 (PK + 1 + 1) #[.int .i64 (fJ wt pre)] 3 := by rw [← hW1]; infer_instance
  have apT : Apart w.heap.size (PK + 1) := ⟨by omega⟩
  have ap1 : Apart (w.heap.size + 1) (PK + 1) := ⟨by omega⟩
  have ap2 : Apart (w.heap.size + 1 + 1) (PK + 1) := ⟨by omega⟩
  have kT : IsBlk W1 w.heap.size T 34 := by rw [← hW1]; infer_instance
  have k1 : IsBlk W1 (w.heap.size + 1) #[.int .i64 0, .int .i64 0, .int .i64 0, .int .i64 0, .int .i64 0, .int .i64 0, .int .i64 0, .int .i64 0, .int .i64 0, .int .i64 0, .int .i64 0, .int .i64 0] 45 := by rw [← hW1]; infer_instance
  have k2 : IsBlk W1 (w.heap.size + 1 + 1) #[.int .i64 0, .int .i64 0] 37 := by rw [← hW1]; infer_instance
  have hB1 : Below w.heap.size w W1 := by rw [← hW1]; exact (HB.out.trans (uw.bel.mono hsz)).setCell (p := ⟨PK + 1, k, none⟩) (by show w.heap.size ≤ PK + 1; omega) _
  have hK1 : KeepsFrom X.heap.size W W1 := by rw [← hW1]; exact (bE uw).trans ((KeepsOthers.setCell _ _ _).from _)
  have hU1 : W1.heap[U]? = W.heap[U]? := by rw [← hW1, Below.heap_setCell _ _ _ _ (by show U ≠ PK + 1; omega)]; exact uw.bel.block _ (by omega)
  rw [hW1]
  clear hW1 hv5 hv5b hg5 hg6 j5 j6 jT j1 j2 l5 l6 hfit
  by_cases hf : 2147483647 ≤ wt k
  ·have hd : decide (2147483647 ≤ wt k) = true := by simp [hf]
   rw [hd] at HFU
   have HVX := Lib.hid (hVF.out hf)
   have l1 := k1.le
   have l2 := k2.le
   gi_wp2_with (first | (refine ⟨trivial, ?_⟩; gi_at_call 57; refine (CallsIn.inRound l (callsIn_wide.2 (HFU _))).mono ?_; rintro e w' ⟨rfl, rfl⟩) | (refine ⟨trivial, ?_⟩; gi_at_call 54; refine (CallsIn.inRound l (callsIn_wide.2 (Up.run (HBD _)))).mono ?_; rintro e w' ⟨rfl, ub, rfl⟩))
   obtain ⟨W2, hW2, q1, q2, q3, q4⟩ := ik w.heap.size w ub.w (w.heap.size + 1) (w.heap.size + 1 + 1) 14 (k : Int) (by omega) (hB1.trans (ub.bel.mono hB1.size)) (by omega) (by omega) inferInstance inferInstance
   rw [← hW2]
   exact ⟨hK1.trans ((bE ub).trans (q3 _)), ⟨⟨q1, by rw [jZ]; exact q2⟩, ⟨rfl, HVX.out⟩, q4⟩⟩
  ·have hd : decide (2147483647 ≤ wt k) = false := by simp [hf]
   rw [hd] at HFU
   have l5 := k5.le
   have l6 := k6.le
   have hv5c : (cx (wF wt (pre ++ [⟨k, hk⟩])))[k]? = some (.int .i64 (wt k)) := by rw [← pF _ _ _ hk, cY _ _ (by omega)]; simp [dT]
   have hg6 : HasCell W1 (PK + 1 + 1) 0 := HasCell.of (v := .int .i64 (fJ wt pre)) (by rw [IsBlk.cell]; rfl)
   gi_wp2_with (first | (refine ⟨trivial, ?_⟩; gi_at_call 57; refine (CallsIn.inRound l (callsIn_wide.2 (HFU _))).mono ?_; rintro e w' ⟨rfl, rfl⟩))
   refine dC 6 rfl (by kernel_rfl) (by kernel_rfl) ?_
   simp only [List.take_succ_cons, List.take_zero, List.drop_succ_cons, List.drop_zero]
   have hwf : ∀ k, Fence.wide.fn k := fun k => trivial
   repeat (gi_big_quiet_step (fail))
   simp only [lA]
   have HLS := Lib.hid (acT wt pre ⟨k, hk⟩)
   simp only at HLS
   generalize max (fJ wt pre) (wt k) = n1 at *
   refine wpQuietIn_nil ?_
   rintro _ ⟨u2, rfl⟩
   have ea : (u2.w.setCell ⟨PK + 1 + 1, 0, none⟩ (.int .i64 n1)).heap[PK + 1 + 1]? = some (.cells (#[.int .i64 (fJ wt pre)].setIfInBounds 0 (.int .i64 n1)) 3) := ao (IsBlk.out (w := u2.w)) 0 _
   have hs1 := hB1.size
   have hs2 := hK1.1
   have eo : ∀ j, j < W1.heap.size → j ≠ PK + 1 + 1 → (u2.w.setCell ⟨PK + 1 + 1, 0, none⟩ (.int .i64 n1)).heap[j]? = W1.heap[j]? := fun j hj hne => by rw [Below.heap_setCell _ _ _ _ (by simpa using hne)]; exact u2.bel.block _ hj
   have hk2 : KeepsFrom X.heap.size W1 (u2.w.setCell ⟨PK + 1 + 1, 0, none⟩ (.int .i64 n1)) := (bE u2).trans ((KeepsOthers.setCell _ _ _).from _)
   gi_wp2
   refine ⟨hK1.trans hk2, (eo U (by omega) (by omega)).trans hU1, ⟨⟨(eo _ (by omega) (by omega)).trans k5.out, ?_⟩, (eo _ (by omega) (by omega)).trans kT.out, (eo _ (by omega) (by omega)).trans k1.out, (eo _ (by omega) (by omega)).trans k2.out⟩, HNF.out hf, ?_, HKX2.out.trans (hK1.trans hk2)⟩
   ·rw [HLS.out]; exact ea
   ·exact (hB1.trans (u2.bel.mono hs1)).setCell (p := ⟨PK + 1 + 1, 0, none⟩) (by show w.heap.size ≤ PK + 1 + 1; omega) _
 case done =>
  rintro D ys W hD rfl ⟨⟨⟨h5, h6⟩, hT, h1, h2⟩, hnf, hB, hKX⟩ hK
  have h10 : W.heap[w.heap.size + 1]? = some (.cells #[.int .i64 0, .int .i64 0, .int .i64 0, .int .i64 0, .int .i64 0, .int .i64 0, .int .i64 0, .int .i64 0, .int .i64 0, .int .i64 0, .int .i64 0, .int .i64 0] 45) := h1
  rw [uL wt en] at h5
  haveI j5 : IsBlk W (PK + 1) (cx (eF wt en (aX on 8) 0)) 45 := ⟨h5⟩
  haveI j6 : IsBlk W (PK + 1 + 1) #[.int .i64 (fJ wt (aX on 8))] 3 := ⟨h6⟩
  haveI jT : IsBlk W w.heap.size T 34 := ⟨hT⟩
  haveI j1 : IsBlk W (w.heap.size + 1) #[.int .i64 0, .int .i64 0, .int .i64 0, .int .i64 0, .int .i64 0, .int .i64 0, .int .i64 0, .int .i64 0, .int .i64 0, .int .i64 0, .int .i64 0, .int .i64 0] 45 := ⟨h10⟩
  haveI j2 : IsBlk W (w.heap.size + 1 + 1) #[.int .i64 0, .int .i64 0] 37 := ⟨h2⟩
  have HXB := Lib.hid (HX2.out hnf)
  have HXC := Lib.hid (HX3.out hnf)
  have HXD := Lib.hid (HX4.out hnf)
  clear HX1 HX2 HX3 HX4 hnf hstops HW HON HK bN hKX
  generalize fJ wt (aX on 8) = lg at *
  generalize aX on 8 = son at *
  go_wp2
  go_loopw [49] (fun i wr => ∃ k : Nat, k ≤ nr ∧ i = .int .i64 k ∧ Hid (∀ j, j < k → bq (en j) = false) ∧ Below w.heap.size w wr ∧ wr.heap[D]? = some (.deferred (some [])) ∧ IsBlk wr (PK + 1) (cx (eF wt en son k)) 45 ∧ IsBlk wr (PK + 1 + 1) #[.int .i64 lg] 3 ∧ IsBlk wr w.heap.size T 34 ∧ IsBlk wr (w.heap.size + 1) #[.int .i64 0, .int .i64 0, .int .i64 0, .int .i64 0, .int .i64 0, .int .i64 0, .int .i64 0, .int .i64 0, .int .i64 0, .int .i64 0, .int .i64 0, .int .i64 0] 45 ∧ IsBlk wr (w.heap.size + 1 + 1) #[.int .i64 0, .int .i64 0] 37) (fun i _ => nr - (intOf i).toNat)
  case atStart => exact ⟨0, Nat.zero_le _, rfl, Lib.hid fun j hj => absurd hj (Nat.not_lt_zero _), hB, hK, j5, j6, jT, j1, j2⟩
  case round =>
   clear j5 j6 jT j1 j2 h5 h6 hT h1 h2 h10 hB hK
   obtain ⟨k, hk, rfl, hN, hB, hK, j5, j6, jT, j1, j2⟩ := hrel
   by_cases hlt : k < nr
   ·have hkI : (k : Int) < nr := by omega
    have hk4 : (k : Int) < 4 := by omega
    haveI : LeSize w.heap.size wr := ⟨hB.size⟩
    have l5 := j5.le
    have l6 := j6.le
    have lT := jT.le
    have l1 := j1.le
    have l2 := j2.le
    have HEK : Hid (Calls Tryz.prog 58 #[.agg T, .int .i64 (k : Nat)] wr fun e w' => e = .returned (.int .i64 (en k)) ∧ ∃ u : Up wr, w' = u.w) := Lib.hid (Up.run (HE.out k hlt wr hB))
    have HN2 : Hid (¬ 2147483647 ≤ en k → ∀ j, j < k + 1 → bq (en j) = false) := Lib.hid fun h j hj => by
     rcases Nat.lt_succ_iff_lt_or_eq.1 hj with h2 | rfl
     ·exact hN.out j h2
     ·unfold bq; simpa using h
    have HVF : Hid (2147483647 ≤ en k → V = (14, (k : Int)) ∧ Bf = fun _ => 0) := Lib.hid fun h => HXB.out k hlt hN.out (by unfold bq; simpa using h)
    have HS5 := Lib.hid (uv wt en son k (by omega))
    have hv5 : (cx (eF wt en son k))[8 + k]? = some (.int .i64 (eF wt en son k (8 + k))) := cY _ _ (by omega)
    have hv5b : ((cx (eF wt en son k)).setIfInBounds (8 + k) (.int .i64 (en k)))[8 + k]? = some (.int .i64 (en k)) := by rw [jf _ _ _ (by omega), cY _ _ (by omega)]; simp [dT]
    have hg5 : HasCell wr (PK + 1) (8 + k) := HasCell.of (by rw [IsBlk.cell]; exact hv5)
    have HFU : ∀ w, Calls Tryz.prog 57 #[.int .i64 (en k)] w fun e w' => e = .returned (.bool (decide (2147483647 ≤ en k))) ∧ w = w' := fun w => kF _ w
    have HBD : (∀ w, Calls Tryz.prog 54 #[.int .i64 14, .int .i64 (k : Nat)] w fun e w' => e = .returned (.tuple #[.agg #[.int .i64 0, .int .i64 0, .int .i64 0, .int .i64 0, .int .i64 0, .int .i64 0, .int .i64 0, .int .i64 0, .int .i64 0, .int .i64 0, .int .i64 0, .int .i64 0], .agg #[.int .i64 14, .int .i64 (k : Nat)]]) ∧ Below w.heap.size w w') := fun w => hM _ _ w
    have apT : Apart w.heap.size (PK + 1) := ⟨by omega⟩
    have ap1 : Apart (w.heap.size + 1) (PK + 1) := ⟨by omega⟩
    have ap2 : Apart (w.heap.size + 1 + 1) (PK + 1) := ⟨by omega⟩
    have ap6 : Apart (PK + 1 + 1) (PK + 1) := ⟨by omega⟩
    have HB := Lib.hid hB
    have HKD := Lib.hid hK
    clear hB hK
    by_cases hf : 2147483647 ≤ en k
    ·have hd : decide (2147483647 ≤ en k) = true := by simp [hf]
     rw [hd] at HFU
     obtain ⟨rfl, rfl⟩ := HVF.out hf
     go_wp2_with (first | (refine aJ rfl rfl rfl ?_; go_simp) | (go_at_call 58; refine HEK.out.mono ?_; rintro e w' ⟨rfl, ue, rfl⟩) | (go_at_call 57; refine (HFU _).mono ?_; rintro e w' ⟨rfl, rfl⟩) | (go_at_call 54; refine (Up.run (HBD _)).mono ?_; rintro e w' ⟨rfl, ub, rfl⟩))
     have hB1 : Below w.heap.size w (ue.w.setCell ⟨PK + 1, 8 + k, none⟩ (.int .i64 (en k))) := (HB.out.trans (ue.bel.mono HB.out.size)).setCell (p := ⟨PK + 1, 8 + k, none⟩) (by show w.heap.size ≤ PK + 1; omega) _
     obtain ⟨W2, hW2, q1, q2, q3, q4⟩ := ik w.heap.size w ub.w (w.heap.size + 1) (w.heap.size + 1 + 1) 14 (k : Int) (by omega) (hB1.trans (ub.bel.mono hB1.size)) (by omega) (by omega) inferInstance inferInstance
     have hKD2 : W2.heap[D]? = some (.deferred (some [])) := (((((bE ue).trans ((KeepsOthers.setCell _ _ _).from _)).trans (bE ub)).trans (q3 0)).same D _ (Nat.zero_le _) HKD.out rfl)
     rw [← hW2]
     refine ⟨by simp, .inl ⟨_, _, rfl, run_takeDeferred hKD2, ?_⟩⟩
     exact ⟨_, dy rfl rfl (bm ⟨q1⟩ hKD2 rfl) (bm ⟨q2⟩ hKD2 rfl), rfl, q4.trans (belowK_b (w := w) (Nat.le_refl _) W2 D _ _ (by omega) hKD2 rfl rfl)⟩
    ·have hd : decide (2147483647 ≤ en k) = false := by simp [hf]
     rw [hd] at HFU
     have HN3 := Lib.hid (HN2.out hf)
     go_wp2_with (first | (refine aJ rfl rfl rfl ?_; go_simp) | (go_at_call 58; refine HEK.out.mono ?_; rintro e w' ⟨rfl, ue, rfl⟩) | (go_at_call 57; refine (HFU _).mono ?_; rintro e w' ⟨rfl, rfl⟩))
     go_roundw
     case rel =>
      refine ⟨k + 1, by omega, by go_num, HN3, (HB.out.trans (ue.bel.mono HB.out.size)).setCell (p := ⟨PK + 1, 8 + k, none⟩) (by show w.heap.size ≤ PK + 1; omega) _, ?_, ?_, inferInstance, inferInstance, inferInstance, inferInstance⟩
      ·exact (((bE ue).trans ((KeepsOthers.setCell _ _ _).from 0)).same D _ (Nat.zero_le _) HKD.out rfl)
      ·rw [← HS5.out]; infer_instance
     case measure => simp [intOf]; omega
   ·obtain rfl : k = nr := by omega
    haveI : LeSize w.heap.size wr := ⟨hB.size⟩
    have l5 := j5.le
    have l6 := j6.le
    have lT := jT.le
    have l1 := j1.le
    have l2 := j2.le
    have HBD : (∀ w, Calls Tryz.prog 54 #[.int .i64 15, .int .i64 0] w fun e w' => e = .returned (.tuple #[.agg #[.int .i64 0, .int .i64 0, .int .i64 0, .int .i64 0, .int .i64 0, .int .i64 0, .int .i64 0, .int .i64 0, .int .i64 0, .int .i64 0, .int .i64 0, .int .i64 0], .agg #[.int .i64 15, .int .i64 0]]) ∧ Below w.heap.size w w') := fun w => hM _ _ w
    have HB := Lib.hid hB
    have HKD := Lib.hid hK
    have HNA := Lib.hid hN.out
    clear hB hK hN
    by_cases h0 : 0 < k
    ·have h0I : (0 : Int) < k := by omega
     by_cases hw : win < lg
     ·obtain ⟨rfl, rfl⟩ := HXC.out HNA.out h0 hw
      go_wp2_with (first | (go_at_call 54; refine (Up.run (HBD _)).mono ?_; rintro e w' ⟨rfl, ub, rfl⟩))
      obtain ⟨W2, hW2, q1, q2, q3, q4⟩ := ik w.heap.size w ub.w (w.heap.size + 1) (w.heap.size + 1 + 1) 15 0 (by omega) (HB.out.trans (ub.bel.mono HB.out.size)) (by omega) (by omega) inferInstance inferInstance
      have hKD2 : W2.heap[D]? = some (.deferred (some [])) := (((bE ub).trans (q3 0)).same D _ (Nat.zero_le _) HKD.out rfl)
      rw [← hW2]
      refine ⟨by simp, .inl ⟨_, _, rfl, run_takeDeferred hKD2, ?_⟩⟩
      exact ⟨_, dy rfl rfl (bm ⟨q1⟩ hKD2 rfl) (bm ⟨q2⟩ hKD2 rfl), rfl, q4.trans (belowK_b (w := w) (Nat.le_refl _) W2 D _ _ (by omega) hKD2 rfl rfl)⟩
     ·obtain ⟨rfl, hBf⟩ := HXD.out HNA.out (fun h => hw h.2)
      have HBF := Lib.hid hBf
      clear hBf HXB HXC HXD
      have h5z : IsBlk wr (w.heap.size + 1) (cx fun _ => 0) 45 := j1
      clear j1
      generalize eF wt en son k = bf at *
      go_wp2_with (first | (refine xq rfl rfl rfl ?_; go_simp) | (refine pw (h := h5z) rfl rfl rfl rfl ?_; intro W3 q1 qo qk qb; have q2 : IsBlk W3 (w.heap.size + 1 + 1) #[.int .i64 0, .int .i64 0] 37 := ⟨(qo _ (by omega)).trans j2.out⟩; have q2l := q2.le; go_simp))
      have ap1 : Apart (w.heap.size + 1) (w.heap.size + 1 + 1) := ⟨by omega⟩
      obtain ⟨W2, hW2⟩ : ∃ W2, (W3.setCell ⟨w.heap.size + 1 + 1, 0, none⟩ (.int .i64 0)).setCell ⟨w.heap.size + 1 + 1, 1, none⟩ (.int .i64 0) = W2 := ⟨_, rfl⟩
      have q1' : IsBlk W2 (w.heap.size + 1) (cx bf) 45 := by rw [← hW2]; infer_instance
      have q2' : IsBlk W2 (w.heap.size + 1 + 1) #[.int .i64 0, .int .i64 0] 37 := ⟨by rw [← hW2]; exact (ao (ao q2.out 0 _) 1 _).trans (by simp only [List.setIfInBounds_toArray, List.set_cons_succ, List.set_cons_zero])⟩
      have q3 : KeepsFrom 0 wr W2 := by rw [← hW2]; exact (qk.trans ((KeepsOthers.setCell _ _ _).from _)).trans ((KeepsOthers.setCell _ _ _).from _)
      have q4 : Below w.heap.size w W2 := by rw [← hW2]; exact ((qb _ _ HB.out (by omega)).setCell (p := ⟨w.heap.size + 1 + 1, 0, none⟩) (by show w.heap.size ≤ w.heap.size + 1 + 1; omega) _).setCell (p := ⟨w.heap.size + 1 + 1, 1, none⟩) (by show w.heap.size ≤ w.heap.size + 1 + 1; omega) _
      have hKD2 : W2.heap[D]? = some (.deferred (some [])) := q3.same D _ (Nat.zero_le _) HKD.out rfl
      rw [hW2]
      refine ⟨by simp, .inl ⟨_, _, rfl, run_takeDeferred hKD2, ?_⟩⟩
      exact ⟨_, dy rfl rfl (bm q1' hKD2 rfl) (bm q2' hKD2 rfl), congrArg Ending.returned (by unfold rj; rw [HBF.out]), q4.trans (belowK_b (w := w) (Nat.le_refl _) W2 D _ _ (by omega) hKD2 rfl rfl)⟩
    ·have h0I : ¬ (0 : Int) < k := by omega
     obtain ⟨rfl, hBf⟩ := HXD.out HNA.out (fun h => h0 h.1)
     have HBF := Lib.hid hBf
     clear hBf HXB HXC HXD
     have h5z : IsBlk wr (w.heap.size + 1) (cx fun _ => 0) 45 := j1
     clear j1
     generalize eF wt en son k = bf at *
     go_wp2_with (first | (refine xq rfl rfl rfl ?_; go_simp) | (refine pw (h := h5z) rfl rfl rfl rfl ?_; intro W3 q1 qo qk qb; have q2 : IsBlk W3 (w.heap.size + 1 + 1) #[.int .i64 0, .int .i64 0] 37 := ⟨(qo _ (by omega)).trans j2.out⟩; have q2l := q2.le; go_simp))
     have ap1 : Apart (w.heap.size + 1) (w.heap.size + 1 + 1) := ⟨by omega⟩
     obtain ⟨W2, hW2⟩ : ∃ W2, (W3.setCell ⟨w.heap.size + 1 + 1, 0, none⟩ (.int .i64 0)).setCell ⟨w.heap.size + 1 + 1, 1, none⟩ (.int .i64 0) = W2 := ⟨_, rfl⟩
     have q1' : IsBlk W2 (w.heap.size + 1) (cx bf) 45 := by rw [← hW2]; infer_instance
     have q2' : IsBlk W2 (w.heap.size + 1 + 1) #[.int .i64 0, .int .i64 0] 37 := ⟨by rw [← hW2]; exact (ao (ao q2.out 0 _) 1 _).trans (by simp only [List.setIfInBounds_toArray, List.set_cons_succ, List.set_cons_zero])⟩
     have q3 : KeepsFrom 0 wr W2 := by rw [← hW2]; exact (qk.trans ((KeepsOthers.setCell _ _ _).from _)).trans ((KeepsOthers.setCell _ _ _).from _)
     have q4 : Below w.heap.size w W2 := by rw [← hW2]; exact ((qb _ _ HB.out (by omega)).setCell (p := ⟨w.heap.size + 1 + 1, 0, none⟩) (by show w.heap.size ≤ w.heap.size + 1 + 1; omega) _).setCell (p := ⟨w.heap.size + 1 + 1, 1, none⟩) (by show w.heap.size ≤ w.heap.size + 1 + 1; omega) _
     have hKD2 : W2.heap[D]? = some (.deferred (some [])) := q3.same D _ (Nat.zero_le _) HKD.out rfl
     rw [hW2]
     refine ⟨by simp, .inl ⟨_, _, rfl, run_takeDeferred hKD2, ?_⟩⟩
     exact ⟨_, dy rfl rfl (bm q1' hKD2 rfl) (bm q2' hKD2 rfl), congrArg Ending.returned (by unfold rj; rw [HBF.out]), q4.trans (belowK_b (w := w) (Nat.le_refl _) W2 D _ _ (by omega) hKD2 rfl rfl)⟩
 case stop =>
  rintro D c pre W hD hpre ⟨⟨hb1, hb2⟩, ⟨rfl, pre2, k, rfl, hp2, hpk⟩, hB⟩ hK
  obtain ⟨rfl, rfl⟩ := HX1.out pre2 k hpre hp2 hpk
  rw [jZ] at hb2
  gi_wp2
  refine ⟨by simp, .inl ⟨_, _, rfl, run_takeDeferred hK, ?_⟩⟩
  exact ⟨_, dy rfl rfl (bm ⟨hb1⟩ hK rfl) (bm ⟨hb2⟩ hK rfl), rfl, hB.trans (belowK_b (w := w) (Nat.le_refl _) W D _ _ (by omega) hK rfl rfl)⟩
end
section
open Go.RowKit Go.Shelf
attribute [local go_sem] IsBlk.cell IsBlk.frozen
theorem cI {code : Int} {n : Nat} {f : Nat → Bool} (hc : code ≠ 0) (h : (bL code n f).1 = 0) : bL code n f = (0, 0) := by
 unfold bL at *
 split at h
 ·exact absurd h hc
 ·rfl
theorem gE (on : Int) : ∀ (l : List (List Int × List Int)) (seen : Int) (g : Nat), (dd on seen g l).1 = 0 → dd on seen g l = (0, 0)
 | [], seen, g, h => by
  unfold dd at *
  split
  ·rfl
  ·rename_i hn; rw [if_neg hn] at h; cases h
 | r :: l, seen, g, h => by
  unfold dd at *
  split
  ·rename_i hn; rw [if_pos hn] at h; cases h
  ·rename_i hn
   rw [if_neg hn] at h
   split
   ·rename_i hr; rw [hr] at h; cases h
   ·rename_i s hr
    rw [hr] at h
    exact gE on l s (g + 1) h
theorem oQ (t : Tab) (on : Int) (k : Nat) (h : (bi t on k).1 = 0) : bi t on k = (0, 0) := by
 match k with
 | 0 => exact cI (by decide) h
 | 1 =>
  simp only [bi, ka] at *
  split
  ·rename_i hn; rw [if_pos hn] at h; cases h
  ·rename_i hn; rw [if_neg hn] at h; exact gE _ _ _ _ h
 | 2 => exact cI (by decide) h
 | 3 => exact cI (by decide) h
 | 4 => exact cI (by decide) h
 | 5 => exact cI (by decide) h
 | k + 6 => exact cI (by decide) h
theorem iJ (t : Tab) (on : Int) : ∀ n, (bX t on n).1 = 0 → bX t on n = (0, 0)
 | 0, _ => rfl
 | n + 1, h => by
  rw [dZ] at *
  by_cases h0 : bX t on n = (0, 0)
  ·rw [if_pos h0] at *; exact oQ t on n h
  ·rw [if_neg h0] at *; exact iJ t on n h
theorem iy {t : Tab} (h : (aL t).1 = 0) : dS t = true ∧ bX t (eB t) 7 = (0, 0) := by
 unfold aL at h
 split at h
 ·rename_i hm; exact ⟨hm, iJ _ _ _ h⟩
 ·cases h
theorem dF {t : Tab} (h : (aL t).1 = 0) : aL t = (0, 0) := by
 obtain ⟨hm, hr⟩ := iy h
 unfold aL; rw [if_pos hm, hr]
theorem ix (on : Int) : ci on = (aX on 8).map fun i => (i.val : Int) := (gK on 8 (Nat.le_refl _)).symm
theorem ach {α : Type} {p : α → Bool} {l r : List α} {x : α} (h : ∀ y ∈ l, p y = false) (hx : p x = true) : (l ++ x :: r).find? p = some x := by
 rw [List.find?_append, List.find?_eq_none.2 (fun y hy => by rw [h y hy]; simp), List.find?_cons, hx]; rfl
theorem mW (t : Tab) : fJ (fun p => cm t p) (aX (eB t) 8) = cd ((ci (eB t)).map (cm t)) := by
 unfold fJ cd
 rw [ix, List.map_map, List.foldl_map]
 rfl
theorem vD (t : Tab) (i : Nat) (hi : i < 8) : wF (fun p => cm t p) (aX (eB t) 8) i = if aT (eB t) i then cm t i else 0 := by
 unfold wF
 have : ((aX (eB t) 8).any fun p => p.val == i) = aT (eB t) i := by
  rw [Bool.eq_iff_iff, List.any_eq_true]
  constructor
  ·rintro ⟨p, hp, he⟩
   have := ((jC (eB t) p 8 (Nat.le_refl _)).1 hp).2
   rwa [beq_iff_eq.1 he] at this
  ·intro h
   exact ⟨⟨i, hi⟩, (jC (eB t) ⟨i, hi⟩ 8 (Nat.le_refl _)).2 ⟨hi, h⟩, by simp⟩
 rw [this]
theorem wv (t : Tab) : cx (eF (fun p => cm t p) (eN t) (aX (eB t) 8) t.ra.length) = cx (pl t) := by
 refine jd fun i hi => ?_
 unfold eF pl
 split
 ·rename_i h; exact vD t i h
 ·split
  ·rfl
  ·rename_i h1 h2
   unfold eN
   rw [List.getElem?_eq_none (by omega)]
theorem fY {t : Tab} (h : (aL t).1 ≠ 0) : dR t = aL t := by unfold dR; rw [if_pos h]
theorem wm {t : Tab} (h : (aL t).1 = 0) (pre : List (Fin 8)) (k : Fin 8) (hp : pre ++ [k] <+: aX (eB t) 8) (h0 : ∀ x ∈ pre, bq (cm t x.val) = false) (h1 : bq (cm t k.val) = true) : dR t = (14, (k.val : Int)) := by
 obtain ⟨rest, hr⟩ := hp
 unfold dR
 rw [if_neg (by simp [h]), ix, ← hr, List.append_assoc, List.map_append, List.singleton_append, List.map_cons]
 rw [ach (p := fun p => bq (cm t p)) (fun y hy => by
  obtain ⟨x, hx, rfl⟩ := List.mem_map.1 hy
  exact h0 x hx) h1]
theorem oA {t : Tab} (h : (aL t).1 = 0) (h0 : ∀ x ∈ aX (eB t) 8, bq (cm t x.val) = false) : dR t = match (List.range t.ra.length).find? fun k => bq (eN t k) with
  | some k => (14, (k : Int))
  | none => if 0 < t.ra.length ∧ t.win < cd ((ci (eB t)).map (cm t)) then (15, 0) else (0, 0) := by
 have hf : ((ci (eB t)).find? fun p => bq (cm t p)) = none := by
  rw [ix, List.find?_eq_none]
  intro y hy
  obtain ⟨x, hx, rfl⟩ := List.mem_map.1 hy
  rw [h0 x hx]; simp
 unfold dR
 rw [if_neg (by simp [h]), hf]
 rfl
theorem fu {t : Tab} (h : (dR t).1 ≠ 0) : df t = fun _ => 0 := by funext i; unfold df; rw [if_neg h]
theorem ag.win' {w : World} {T : Array Value} {t : Tab} (h : ag w T t) : T[129]? = some (.int .i64 t.win) := by
 obtain ⟨g, d, r, b, rfl, _⟩ := h; rw [ab _ _ _ (by omega)]; rfl
theorem jt (T : Array Value) (t : Tab) (w : World) (hT : ag w T t) :
  Calls Tryz.prog 18 #[.agg T] w fun e w' => e = .returned (rj (df t) (dR t)) ∧ Below w.heap.size w w' := by
 haveI : Sz131 T := ⟨hT.size⟩
 by_cases hc : (aL t).1 = 0
 ·obtain ⟨hm, _⟩ := iy hc
  obtain ⟨ra, rcap, t114, _, _⟩ := hT.rails
  have hl : t.ra.length ≤ 4 := by simp only [dS, Bool.and_eq_true, decide_eq_true_eq] at hm; omega
  have hHT : ∀ W, Below w.heap.size w W → ag W T t := fun W hW => hT.below hW (Nat.le_refl _)
  refine vl T (eB t) ra rcap t.ra.length t.win (fun p => cm t p) (eN t) (dR t) (df t) w hl t114 hT.win' (Lib.hid fun W hW => ?_) (Lib.hid fun W hW => eE T t W (hHT W hW)) (Lib.hid fun p hp W hW => qT T t p W (hHT W hW)) (Lib.hid fun k hk W hW => ?_)
   (Lib.hid fun pre k hp h0 h1 => ?_) (Lib.hid fun h0 k hk h1 h2 => ?_) (Lib.hid fun h0 h1 h2 h3 => ?_) (Lib.hid fun h0 h1 h2 => ?_)
  ·have := eL T t W (hHT W hW)
   rwa [dF hc] at this
  ·have hr : t.ra[k]? = some t.ra[k] := List.getElem?_eq_getElem hk
   have := j4 T t k t.ra[k] W (hHT W hW) hr
   unfold eN
   rw [hr]; exact this
  ·have e := wm hc pre k hp h0 h1
   exact ⟨e, fu (by rw [e]; simp)⟩
  ·have e : dR t = (14, (k : Int)) := by
    rw [oA hc h0]
    have : (List.range t.ra.length).find? (fun k => bq (eN t k)) = some k := by
     rw [List.find?_range_eq_some]
     exact ⟨h2, by simpa using hk, fun j hj => by rw [h1 j hj]; rfl⟩
    rw [this]
   exact ⟨e, fu (by rw [e]; simp)⟩
  all_goals
   have hf : (List.range t.ra.length).find? (fun k => bq (eN t k)) = none := by
    rw [List.find?_eq_none]
    intro x hx
    rw [h1 x (by simpa using hx)]; simp
  ·have e : dR t = (15, 0) := by rw [oA hc h0, hf]; simp only; rw [if_pos ⟨h2, by rw [← mW]; exact h3⟩]
   exact ⟨e, fu (by rw [e]; simp)⟩
  ·have e : dR t = (0, 0) := by rw [oA hc h0, hf]; simp only; rw [if_neg (by rw [← mW]; exact h2)]
   refine ⟨e, ?_⟩
   rw [wv]
   exact jd fun i hi => by unfold df; rw [if_pos (by rw [e])]
 ·have hn : (dR t).1 ≠ 0 := by rw [fY hc]; exact hc
  rw [fu hn, fY hc]
  have HK : Hid (∀ W, Below w.heap.size w W → Calls Tryz.prog 20 #[.agg T] W fun e w' => e = .returned (fh (aL t)) ∧ Below W.heap.size W w') := Lib.hid fun W hW => eL T t W (hT.below hW (Nat.le_refl _))
  clear hn
  generalize aL t = F at *
  obtain ⟨c, a⟩ := F
  simp only at hc
  have hcb : (c == 0) = false := beq_eq_false_iff_ne.2 hc
  have HBD : ∀ w, Calls Tryz.prog 54 #[.int .i64 c, .int .i64 a] w fun e w' => e = .returned (.tuple #[.agg #[.int .i64 0, .int .i64 0, .int .i64 0, .int .i64 0, .int .i64 0, .int .i64 0, .int .i64 0, .int .i64 0, .int .i64 0, .int .i64 0, .int .i64 0, .int .i64 0], .agg #[.int .i64 c, .int .i64 a]]) ∧ Below w.heap.size w w' := fun w => hM _ _ w
  have HK2 : Hid (∀ W, Below w.heap.size w W → Calls Tryz.prog 20 #[.agg T] W fun e w' => e = .returned (.agg #[.int .i64 c, .int .i64 a]) ∧ Below W.heap.size W w') := HK
  unfold rj
  rw [fT]
  clear HK hc hT
  go_enter Tryz.func18, Tryz.ntmps18
  go_wp2_with (first | (refine aJ rfl rfl rfl ?_; go_simp) | (go_at_call 20; refine (Up.run (HK2.out _ (by exact yd))).mono ?_; rintro e w' ⟨rfl, uk, rfl⟩) | (go_at_call 54; refine (Up.run (HBD _)).mono ?_; rintro e w' ⟨rfl, ub, rfl⟩))
  go_returns
  exact ⟨rfl, by exact yd⟩
end
end Go.Proofs.YtodgfjgljcinlaaGreat
