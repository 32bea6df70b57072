/- The contracts of package ring: crosses. The contracts of package ring: may. -/
import Derived.Test.YtbnbakienajhmaaRngB
import Derived.Test.YtbnbakienajhmaaPlnE
import Derived.Test.YtbnbakienajhmaaSetT
import Derived.Test.YtbnbakienajhmaaQrIn
namespace Go.Proofs.Ytbnbakienajhmaa
section
open Go.RowKit
set_option linter.unusedVariables false
attribute [local go_sem] IsBlk.cell IsBlk.frozen

/-- Are the first n red? -/
def redsB (rn : Nat → Rn) : Nat → Bool
  | 0 => true
  | n + 1 => redsB rn n && redM (rn n)
theorem redsB_no {rn : Nat → Rn} {n : Nat} (h : redM (rn n) = false) : ∀ m, redsB rn (n + 1 + m) = false
  | 0 => by show (redsB rn n && redM (rn n)) = false; rw [h, Bool.and_false]
  | m + 1 => by show (redsB rn (n + 1 + m) && redM (rn (n + 1 + m))) = false; rw [redsB_no h m, Bool.false_and]
def ringV (g a0 a1 : Int) (x : Bool) : Value := .agg #[.int .i64 g, .int .i64 a0, .int .i64 a1, .bool x]
def folG (t : Tab) (g want : Int) : Int := if 0 ≤ folZ (wanZ t.gr want) t.gr.length g then folZ (wanZ t.gr want) t.gr.length g else g
def crossV (t : Tab) (rn : Nat → Rn) (want g a0 a1 : Int) (x : Bool) : Value := if redsB rn 8 = true then ringV (folG t g want) (-1) (-1) false else ringV g a0 a1 x
set_option maxHeartbeats 8000000 in
set_option maxRecDepth 100000 in
theorem ring_crosses (T : Array Value) (t : Tab) (R : Array Value) (rn : Nat → Rn) (g a0 a1 want : Int) (x : Bool) (w : World) (hg : InKind .i64 g) (hT : IsTab w T t) (hR : IsRuns R rn) :
    Calls Try.prog 37 #[.agg T, .agg #[.int .i64 g, .int .i64 a0, .int .i64 a1, .bool x], .agg R, .int .i64 want] w fun e w' => e = .returned (crossV t rn want g a0 a1 x) ∧ Below w.heap.size w w' := by
  haveI : Sz131 T := ⟨hT.size⟩
  have HT : Hid (∀ w', Below w.heap.size w w' → IsTab w' T t) := Lib.hid fun w' hb => hT.below hb (Nat.le_refl _)
  have HX : Hid (∀ k, k < 8 → ∀ w, Sem.run Try.prog (Instr.index 46 (.agg R) (.int .i64 (k : Nat))) w = .ok (.agg (RuA (rn k))) w) := Lib.hid fun k hk w' => run_index_run hR hk w'
  haveI : Sz96 R := ⟨hR.1⟩
  have HG := Lib.hid hg
  obtain ⟨V, hV⟩ : ∃ V, crossV t rn want g a0 a1 x = V := ⟨_, rfl⟩
  have HV := Lib.hid hV
  rw [hV]
  clear hR hT hg hV
  go_enter Try.func37, Try.ntmps37
  go_wp2_with (refine l_lruns rfl rfl rfl ?_; go_simp)
  go_loopw [13] (fun i wr => ∃ k : Nat, k ≤ 8 ∧ i = .int .i64 k ∧ Hid (redsB rn k = true) ∧ Below w.heap.size w wr ∧ LeSize (w.heap.size + 1 + 1 + 1 + 1) wr ∧ IsBlk wr w.heap.size T 32 ∧ IsBlk wr (w.heap.size + 1) #[.int .i64 g, .int .i64 a0, .int .i64 a1, .bool x] 36 ∧ IsBlk wr (w.heap.size + 1 + 1) R 46 ∧ IsBlk wr (w.heap.size + 1 + 1 + 1) #[.int .i64 0, .int .i64 0, .int .i64 0, .bool false] 36) (fun i _ => 8 - (intOf i).toNat)
  case atStart => exact ⟨0, by omega, rfl, Lib.hid rfl, by (repeat' (first | (with_reducible exact Below.refl _ _) | (with_reducible assumption) | (with_reducible refine Below.setCell ?_ ?_ _) | (with_reducible refine Below.alloc ?_ ?_ _) | (with_reducible refine Below.drew ?_) | (with_reducible refine Up.base _ ?_ ?_) | (with_reducible exact LeSize.out) | exact LeSize.out | exact Nat.le_add_right_of_le LeSize.out | exact Nat.le_add_right_of_le (Nat.le_add_right_of_le LeSize.out) | (with_reducible exact Nat.le_refl _) | (simp; done) | (simp; omega))), inferInstance, inferInstance, inferInstance, inferInstance, inferInstance⟩
  case round =>
    obtain ⟨k, hk, rfl, hN, hb, iS, iT, iG, iR, iO⟩ := hrel
    haveI : LeSize w.heap.size wr := ⟨hb.size⟩
    by_cases hlt : k < 8
    · have hix := HX.out k hlt
      have hkI : (k : Int) < 8 := by omega
      have HSY : Hid (redM (rn k) = true → redsB rn (k + 1) = true) := Lib.hid fun h => by show (redsB rn k && redM (rn k)) = true; rw [hN.out, h]; rfl
      have HSN : Hid (redM (rn k) = false → redsB rn 8 = false) := Lib.hid fun h => by have := redsB_no h (8 - (k + 1)); rwa [show k + 1 + (8 - (k + 1)) = 8 by omega] at this
      generalize rn k = r at *
      cases hr : redM r
      · have HE := Lib.hid (HSN.out hr)
        clear HSY HSN
        go_wp2_with (first | (refine l_newRu rfl rfl rfl rfl inferInstance rfl ?_; go_simp) | (refine l_ru rfl rfl rfl ?_; go_simp) | (go_at_call 39; refine (Up.run (ring_red _ _)).mono ?_; rintro e w' ⟨rfl, u, rfl⟩))
        go_returns
        exact ⟨by rw [← HV.out]; unfold crossV; rw [HE.out]; rfl, by (repeat' (first | (with_reducible exact Below.refl _ _) | (with_reducible assumption) | (with_reducible refine Below.setCell ?_ ?_ _) | (with_reducible refine Below.alloc ?_ ?_ _) | (with_reducible refine Below.drew ?_) | (with_reducible refine Up.base _ ?_ ?_) | (with_reducible exact LeSize.out) | exact LeSize.out | exact Nat.le_add_right_of_le LeSize.out | exact Nat.le_add_right_of_le (Nat.le_add_right_of_le LeSize.out) | (with_reducible exact Nat.le_refl _) | (simp; done) | (simp; omega)))⟩
      · have HE := Lib.hid (HSY.out hr)
        clear HSY HSN
        go_wp2_with (first | (refine l_newRu rfl rfl rfl rfl inferInstance rfl ?_; go_simp) | (refine l_ru rfl rfl rfl ?_; go_simp) | (go_at_call 39; refine (Up.run (ring_red _ _)).mono ?_; rintro e w' ⟨rfl, u, rfl⟩))
        go_roundw
        case rel => exact ⟨k + 1, by omega, by go_num, HE, by (repeat' (first | (with_reducible exact Below.refl _ _) | (with_reducible assumption) | (with_reducible refine Below.setCell ?_ ?_ _) | (with_reducible refine Below.alloc ?_ ?_ _) | (with_reducible refine Below.drew ?_) | (with_reducible refine Up.base _ ?_ ?_) | (with_reducible exact LeSize.out) | exact LeSize.out | exact Nat.le_add_right_of_le LeSize.out | exact Nat.le_add_right_of_le (Nat.le_add_right_of_le LeSize.out) | (with_reducible exact Nat.le_refl _) | (simp; done) | (simp; omega))), inferInstance, inferInstance, inferInstance, inferInstance, inferInstance⟩
        case measure => simp [intOf]; omega
    · obtain rfl : k = 8 := by omega
      have HE : Hid (V = ringV (folG t g want) (-1) (-1) false) := Lib.hid (by rw [← HV.out]; unfold crossV; rw [hN.out]; rfl)
      have HF : Hid (folG t g want = if 0 ≤ folZ (wanZ t.gr want) t.gr.length g then folZ (wanZ t.gr want) t.gr.length g else g) := Lib.hid rfl
      have HPF := Lib.hid (fun w' hT => pfol_any T t g want w' HG.out hT)
      generalize folZ (wanZ t.gr want) t.gr.length g = f at *
      by_cases hf : 0 ≤ f
      · have HF2 := Lib.hid (HF.out.trans (if_pos hf))
        clear HF
        go_wp2_with (first | (refine l_ltab rfl rfl rfl ?_; go_simp) | (go_at_call 61; refine (Up.run (HPF.out _ (HT.out _ (by (repeat' (first | (with_reducible exact Below.refl _ _) | (with_reducible assumption) | (with_reducible refine Below.setCell ?_ ?_ _) | (with_reducible refine Below.alloc ?_ ?_ _) | (with_reducible refine Below.drew ?_) | (with_reducible refine Up.base _ ?_ ?_) | (with_reducible exact LeSize.out) | exact LeSize.out | exact Nat.le_add_right_of_le LeSize.out | exact Nat.le_add_right_of_le (Nat.le_add_right_of_le LeSize.out) | (with_reducible exact Nat.le_refl _) | (simp; done) | (simp; omega))))))).mono ?_; rintro e w' ⟨rfl, upf, rfl⟩))
        go_returns
        exact ⟨by rw [HE.out, HF2.out]; rfl, by (repeat' (first | (with_reducible exact Below.refl _ _) | (with_reducible assumption) | (with_reducible refine Below.setCell ?_ ?_ _) | (with_reducible refine Below.alloc ?_ ?_ _) | (with_reducible refine Below.drew ?_) | (with_reducible refine Up.base _ ?_ ?_) | (with_reducible exact LeSize.out) | exact LeSize.out | exact Nat.le_add_right_of_le LeSize.out | exact Nat.le_add_right_of_le (Nat.le_add_right_of_le LeSize.out) | (with_reducible exact Nat.le_refl _) | (simp; done) | (simp; omega)))⟩
      · have HF2 := Lib.hid (HF.out.trans (if_neg hf))
        clear HF
        go_wp2_with (first | (refine l_ltab rfl rfl rfl ?_; go_simp) | (go_at_call 61; refine (Up.run (HPF.out _ (HT.out _ (by (repeat' (first | (with_reducible exact Below.refl _ _) | (with_reducible assumption) | (with_reducible refine Below.setCell ?_ ?_ _) | (with_reducible refine Below.alloc ?_ ?_ _) | (with_reducible refine Below.drew ?_) | (with_reducible refine Up.base _ ?_ ?_) | (with_reducible exact LeSize.out) | exact LeSize.out | exact Nat.le_add_right_of_le LeSize.out | exact Nat.le_add_right_of_le (Nat.le_add_right_of_le LeSize.out) | (with_reducible exact Nat.le_refl _) | (simp; done) | (simp; omega))))))).mono ?_; rintro e w' ⟨rfl, upf, rfl⟩))
        go_returns
        exact ⟨by rw [HE.out, HF2.out]; rfl, by (repeat' (first | (with_reducible exact Below.refl _ _) | (with_reducible assumption) | (with_reducible refine Below.setCell ?_ ?_ _) | (with_reducible refine Below.alloc ?_ ?_ _) | (with_reducible refine Below.drew ?_) | (with_reducible refine Up.base _ ?_ ?_) | (with_reducible exact LeSize.out) | exact LeSize.out | exact Nat.le_add_right_of_le LeSize.out | exact Nat.le_add_right_of_le (Nat.le_add_right_of_le LeSize.out) | (with_reducible exact Nat.le_refl _) | (simp; done) | (simp; omega)))⟩
end
section
open Go.RowKit Go.Shelf
set_option linter.unusedVariables false
attribute [local go_sem] Oper.semAt_some IsBlk.cell IsBlk.frozen ruA_0 ruA_1 ruA_2 ruA_3 ruA_4 ruA_5 ruA_6 ruA_7 ruA_8

theorem q_lru {W : World} {K : Act → Prop} {op : Oper} {a : Act} {x : Operand} {b : Nat} {C : Array Value} {t : TypeId} {o : Nat} {r : Rn} [hr : IsRu C o r] (ho : op.op = .load 45 x) (hx : a.eval x = .pointer (some ⟨b, o, none⟩)) [h : IsBlk W b C t]
    (hk : K (a.put op.dst (.agg (RuA r)))) : op.quiet Try.prog a (fun w' => ∃ u : Up W, w' = u.w) K := quiet_load_at ho hx (fun u => load_ru) hk
theorem z_lru {W : World} {Z : World → Prop} {K : Act → Prop} {op : Oper} {a : Act} {x : Operand} {b : Nat} {C : Array Value} {t : TypeId} {o : Nat} {r : Rn} [hr : IsRu C o r] (ho : op.op = .load 45 x) (hx : a.eval x = .pointer (some ⟨b, o, none⟩)) [h : IsBlk W b C t]
    (hk : K (a.put op.dst (.agg (RuA r)))) : op.quiet Try.prog a (fun w' => ∃ u : UpZ W Z, w' = u.up.w) K := quiet_load_z ho hx (fun u => load_ru) hk
theorem l_lru {ops : Array Oper} {rest : List Oper} {op : Oper} {a : Act} {w : World} {Q : Exit → Act → World → Prop} {x : Operand} {b : Nat} {C : Array Value} {t : TypeId} {o : Nat} {r : Rn} [hr : IsRu C o r] (hgd : op.guard = none) (ho : op.op = .load 45 x) (hx : a.eval x = .pointer (some ⟨b, o, none⟩)) [h : IsBlk w b C t]
    (hk : wpList Try.prog ops Q rest (a.put op.dst (.agg (RuA r))) w) : wpList Try.prog ops Q (op :: rest) a w := wpList_load_at hgd ho hx load_ru hk
theorem y_lru {ops : Array Oper} {S : World → Prop} {op : Oper} {a : Act} {x : Operand} {b : Nat} {C : Array Value} {t : TypeId} {o : Nat} {r : Rn} [hr : IsRu C o r] (hw : Region.wanted op (yielded ops a.tmps) = true) (ho : op.op = .load 45 x) (hx : a.eval x = .pointer (some ⟨b, o, none⟩)) (hS : ∀ w, S w → IsBlk w b C t) :
    YieldsIf Try.prog ops S op (.agg (RuA r)) a := yieldsIf_load_at hw ho hx (fun w hs => by haveI := hS w hs; exact load_ru)
def mayM (t : Tab) (rn : Nat → Rn) (p : Nat) : Bool := redM (rn p) && !decide ((rn p).t < t.rev) && (setF (t.cf p) 8).all fun q => redM (rn q.val)
theorem isRu_of {R : Array Value} {rn : Nat → Rn} (h : IsRuns R rn) {k : Nat} (hk : k < 8) : IsRu R (k * 12) (rn k) := ⟨fun j hj => h.2 k hk j hj⟩
set_option maxHeartbeats 8000000 in
set_option maxRecDepth 100000 in
theorem ring_may (T : Array Value) (t : Tab) (R : Array Value) (rn : Nat → Rn) (p : Nat) (w : World) (hT : IsTab w T t) (hR : IsRuns R rn) (hp : p < 8) :
    Calls Try.prog 44 #[.agg T, .agg R, .int .i64 p] w fun e w' => e = .returned (.bool (mayM t rn p)) ∧ Below w.heap.size w w' := by
  haveI : Sz131 T := ⟨hT.size⟩
  haveI : Sz96 R := ⟨hR.1⟩
  have HRU : Hid (∀ k, k < 8 → IsRu R (k * 12) (rn k)) := Lib.hid fun k hk => isRu_of hR hk
  haveI iru := HRU.out p hp
  have r1 : R[p * 12 + 1]? = some (.int .i64 (rn p).t) := hR.2 p hp 1 (by omega)
  have hcf := hT.cf p hp
  obtain ⟨V, hV⟩ : ∃ V, mayM t rn p = V := ⟨_, rfl⟩
  have HV := Lib.hid hV
  rw [hV]
  have hrv : T[119]? = some (.int .i64 t.rev) := by obtain ⟨g, d, r, b, rfl, _⟩ := hT; rw [arrF_get _ _ _ (by omega)]; rfl
  have hpI : (p : Int) < 8 := by omega
  unfold mayM at hV
  generalize hrp : rn p = r at *
  generalize t.cf p = cf at *
  generalize t.rev = rev at *
  clear hT hR
  cases h1 : redM r
  · rw [h1] at hV
    simp only [Bool.false_and] at hV
    subst hV
    go_enter Try.func44, Try.ntmps44
    go_wp2
    (refine wp_region_up (by kernel_rfl) (by kernel_rfl) ?_; (repeat (first | (go_big_quiet_want; refine q_lru rfl rfl ?_; simp only [Act.put, List.setIfInBounds_toArray, List.set_cons_succ, List.set_cons_zero]; go_big_quiet_on) | go_big_quiet_step ((first | (go_at_call 39; exact Up.calls (ring_red _ _)) | fail)))); refine wpQuiet_nil ?_; rintro _ ⟨u, rfl⟩)
    go_wp2
    go_returns
    exact ⟨rfl, by (repeat' (first | (with_reducible exact Below.refl _ _) | (with_reducible assumption) | (with_reducible refine Below.setCell ?_ ?_ _) | (with_reducible refine Below.alloc ?_ ?_ _) | (with_reducible refine Below.drew ?_) | (with_reducible refine Up.base _ ?_ ?_) | (with_reducible exact LeSize.out) | exact LeSize.out | exact Nat.le_add_right_of_le LeSize.out | exact Nat.le_add_right_of_le (Nat.le_add_right_of_le LeSize.out) | (with_reducible exact Nat.le_refl _) | (simp; done) | (simp; omega)))⟩
  · rw [h1] at hV
    cases h2 : decide (r.t < rev)
    · rw [h2] at hV
      simp only [Bool.true_and, Bool.not_false] at hV
      refine (callsIn_wide (n := 5)).1 ?_
      refine callsIn_of_wp_marks Try.func44 rfl trivial ?_ rfl
      simp only [Try.ntmps44, List.size_toArray, List.length_cons, List.length_nil, Nat.reduceAdd, Nat.reduceSub, Array.replicate_succ, Array.replicate_zero, List.push_toArray, List.append_toArray, List.nil_append, List.cons_append]
      refine wpIn_wide.2 ?_
      go_wp2
      (refine wp_region_up (by kernel_rfl) (by kernel_rfl) ?_; (repeat (first | (go_big_quiet_want; refine q_lru rfl rfl ?_; simp only [Act.put, List.setIfInBounds_toArray, List.set_cons_succ, List.set_cons_zero]; go_big_quiet_on) | go_big_quiet_step ((first | (go_at_call 39; exact Up.calls (ring_red _ _)) | fail)))); refine wpQuiet_nil ?_; rintro _ ⟨u, rfl⟩)
      go_wp2_with (go_at_call 33; refine (each_any _ _).mono ?_; rintro e w' ⟨rfl, rfl⟩)
      obtain ⟨U, hU⟩ : ∃ U, u.w.heap.size = U := ⟨_, rfl⟩
      have hsu := u.bel.size
      simp only [World.size_alloc] at hsu
      obtain ⟨X, hX⟩ : ∃ X, u.w.alloc (.cells #[.int .i64 cf] 3) = X := ⟨_, rfl⟩
      have bO : Boxed X (w.heap.size + 1 + 1) 4 (.bool false) := by rw [← hX]; exact (inferInstance : IsBlk _ _ _ _).out
      have bN : Boxed X U 3 (.int .i64 cf) := by rw [← hX, ← hU]; exact (inferInstance : IsBlk _ _ _ _).out
      have iR : IsBlk X (w.heap.size + 1) R 46 := by rw [← hX]; infer_instance
      have hXs : X.heap.size = U + 1 := by rw [← hX, ← hU]; simp
      have hX0 : Below w.heap.size w X := by rw [← hX]; (repeat' (first | (with_reducible exact Below.refl _ _) | (with_reducible assumption) | (with_reducible refine Below.setCell ?_ ?_ _) | (with_reducible refine Below.alloc ?_ ?_ _) | (with_reducible refine Below.drew ?_) | (with_reducible refine Up.base _ ?_ ?_) | (with_reducible exact LeSize.out) | exact LeSize.out | exact Nat.le_add_right_of_le LeSize.out | exact Nat.le_add_right_of_le (Nat.le_add_right_of_le LeSize.out) | (with_reducible exact Nat.le_refl _) | (simp; done) | (simp; omega)))
      rw [hX, hU]
      rw [hU] at hsu
      clear hX hU
      have h1' : (1 : Nat) ≤ 5 := by omega
      have hstops := each8_stops 4 (by omega) U cf X (by omega) bN.cell
      have HBI : Hid (∀ W, Below X.heap.size X W → IsBlk W (w.heap.size + 1) R 46 ∧ Boxed W (w.heap.size + 1 + 1) 4 (.bool false)) := Lib.hid fun W hb => ⟨⟨(hb.block _ (by omega)).trans iR.out⟩, (hb.block _ (by omega)).trans bO⟩
      have HVV := Lib.hid hV
      refine (wpIn_wide (n := 5)).1 ?_
      clear hV iR bO bN
      refine wpIn_rangeFunc_ownG rfl h1' (gf := 59) (lb := #[.pointer (some ⟨U, 0, none⟩)]) rfl trivial (enters_of Try.func59 (by kernel_rfl) rfl)
        hstops keepB_t (keepB_b (by omega)) (Below.refl _ _) (fun _ => rfl)
        (fun pre W => (pre.all fun q => redM (rn q.val)) = true ∧ Below X.heap.size X W)
        (fun c pre W => (c = .ret ∧ ∃ q ∈ pre, redM (rn q.val) = false) ∧ (W.cell? ⟨w.heap.size + 1 + 1, 0, none⟩ = some (.bool false) ∧ Below w.heap.size w W))
        (OwnFrom.and (ownFrom_pure _ _) (ownFrom_below (Nat.le_refl _) (Nat.le_refl _)))
        (fun c => OwnFrom.and (ownFrom_pure _ _) (OwnFrom.and (Own.from (fun s A B row hs hg hr => cell_kept hs hg hr) _) (ownFrom_below (Nat.le_refl _) (by omega))))
        ⟨rfl, Below.refl _ _⟩
        (fun k => { tmps := #[.agg T, .agg R, .int .i64 p, .pointer (some ⟨w.heap.size, 0, none⟩), .pointer (some ⟨w.heap.size + 1, 0, none⟩), undef, .pointer (some ⟨w.heap.size + 1 + 1, 0, none⟩), .int .i64 (k.val : Nat), .int .i64 p, .pointer (some ⟨w.heap.size + 1, p * 12, none⟩), .agg (RuA r), .bool true, .bool false, .bool false, .int .i64 p, .pointer (some ⟨w.heap.size + 1, p * 12, none⟩), .pointer (some ⟨w.heap.size + 1, p * 12 + 1, none⟩), .int .i64 r.t, .pointer (some ⟨w.heap.size, 119, none⟩), .int .i64 rev, .bool false, .bool false, .int .i64 p, .pointer (some ⟨w.heap.size, 105, none⟩), .pointer (some ⟨w.heap.size, 105 + p, none⟩), .int .i64 cf, (.func (.func 59) #[] #[.pointer (some ⟨U, 0, none⟩)]), .int .i64 (k.val : Nat), undef, undef, undef, undef, undef], defers := [] }) ?assign ?body ?done ?stop
      case assign =>
        intro l x W K hK
        gi_wp2
        exact hK
      case body =>
        rintro l pre ⟨k, hk⟩ W ⟨hall, hB⟩ hlt
        obtain ⟨iR2, bO2⟩ := HBI.out W hB
        have c6 := bO2.cell
        have f6 := bO2.frozen
        haveI := HRU.out k hk
        have el : Sem.run Try.prog (Instr.loadAt 45 (.pointer (some ⟨w.heap.size + 1, k * 12, none⟩))) W = .ok (.agg (RuA (rn k))) W := load_ru
        have hkI : (k : Int) < 8 := by omega
        have HC : Hid (Calls Try.prog 39 #[.agg (RuA (rn k))] W fun e w' => e = .returned (.bool (redM (rn k))) ∧ ∃ u : Up W, w' = u.w) := Lib.hid (Up.run (ring_red (rn k) W))
        have HB := Lib.hid hB
        haveI : LeSize (w.heap.size + 1 + 1 + 1) W := ⟨by have := hB.size; omega⟩
        have HKF : Hid (∀ (u2 : Up W), KeepsFrom X.heap.size W u2.w) := Lib.hid fun u2 => ⟨u2.bel.size, fun j o _ h _ => by rw [u2.bel.block j (Array.getElem?_eq_some_iff.1 h).1]; exact h⟩
        have hjc := HasCell.of c6
        simp only
        cases hr : redM (rn k)
        · rw [hr] at HC
          gi_wp2_with (first | (refine wpListIn_load_of rfl rfl rfl el ?_; go_simp) | (refine ⟨trivial, ?_⟩; gi_at_call 39; refine (CallsIn.inRound l (callsIn_wide.2 HC.out)).mono ?_; rintro e w' ⟨rfl, u2, rfl⟩))
          exact ⟨(HKF.out u2).trans ((KeepsOthers.setCell _ _ _).from _), ⟨rfl, ⟨k, hk⟩, by simp, hr⟩, by simp only [set_same], ((hX0.trans (HB.out.mono (by omega))).trans (u2.bel.mono (by have := HB.out.size; omega))).setCell (p := ⟨w.heap.size + 1 + 1, 0, none⟩) (Nat.le_trans (Nat.le_succ _) (Nat.le_succ _)) _⟩
        · rw [hr] at HC
          gi_wp2_with (first | (refine wpListIn_load_of rfl rfl rfl el ?_; go_simp) | (refine ⟨trivial, ?_⟩; gi_at_call 39; refine (CallsIn.inRound l (callsIn_wide.2 HC.out)).mono ?_; rintro e w' ⟨rfl, u2, rfl⟩))
          exact ⟨HKF.out u2, u2.bel.block U (by have := HB.out.size; omega), by rw [List.all_append, hall]; simp [hr], HB.out.trans (u2.bel.mono HB.out.size)⟩
      case done =>
        rintro D ys W hD rfl ⟨hall, hB⟩ hK
        obtain ⟨iR2, bO2⟩ := HBI.out W hB
        have c6 := bO2.cell
        have f6 := bO2.frozen
        have hjc := HasCell.of c6
        go_wp2
        have hK' := (KeepsOthers.setCell W ⟨w.heap.size + 1 + 1, 0, none⟩ (.bool true)).same D _ hK rfl
        refine ⟨by simp, .inl ⟨_, _, rfl, run_takeDeferred hK', ?_⟩⟩
        have hc5 := cell_kept (World.cell?_setCell_same' W ⟨w.heap.size + 1 + 1, 0, none⟩ (.bool true) (by rw [c6]; rfl)) (grownBy_putObj' _ D (.deferred none)) (fun r e => by cases e; exact ⟨_, hK', rfl⟩)
        refine ⟨.bool true, ?_, by rw [← HVV.out, hall], ((hX0.trans (hB.mono (by omega))).setCell (p := ⟨w.heap.size + 1 + 1, 0, none⟩) (Nat.le_trans (Nat.le_succ _) (Nat.le_succ _)) _).trans (belowK_b (w := w) (Nat.le_refl _) _ D _ _ (by omega) hK' rfl rfl)⟩
        simp [results, Try.f44, go_sem, hc5]
      case stop =>
        rintro D c pre W hD hpre ⟨⟨rfl, q, hq, hqr⟩, hc, hB⟩ hK
        have hfalse : V = false := by
          rw [← HVV.out, List.all_eq_false]
          exact ⟨q, hpre.subset hq, by rw [hqr]; simp⟩
        gi_wp2
        refine ⟨by simp, .inl ⟨_, _, rfl, run_takeDeferred hK, ?_⟩⟩
        have hc5 := cell_kept hc (grownBy_putObj' _ D (.deferred none)) (fun r e => by cases e; exact ⟨_, hK, rfl⟩)
        refine ⟨.bool false, ?_, by rw [hfalse], hB.trans (belowK_b (w := w) (Nat.le_refl _) W D _ _ (by omega) hK rfl rfl)⟩
        simp [results, Try.f44, go_sem, hc5]
    · rw [h2] at hV
      simp only [Bool.true_and, Bool.not_true, Bool.false_and] at hV
      subst hV
      go_enter Try.func44, Try.ntmps44
      go_wp2
      (refine wp_region_up (by kernel_rfl) (by kernel_rfl) ?_; (repeat (first | (go_big_quiet_want; refine q_lru rfl rfl ?_; simp only [Act.put, List.setIfInBounds_toArray, List.set_cons_succ, List.set_cons_zero]; go_big_quiet_on) | go_big_quiet_step ((first | (go_at_call 39; exact Up.calls (ring_red _ _)) | fail)))); refine wpQuiet_nil ?_; rintro _ ⟨u, rfl⟩)
      go_wp2
      go_returns
      exact ⟨rfl, by (repeat' (first | (with_reducible exact Below.refl _ _) | (with_reducible assumption) | (with_reducible refine Below.setCell ?_ ?_ _) | (with_reducible refine Below.alloc ?_ ?_ _) | (with_reducible refine Below.drew ?_) | (with_reducible refine Up.base _ ?_ ?_) | (with_reducible exact LeSize.out) | exact LeSize.out | exact Nat.le_add_right_of_le LeSize.out | exact Nat.le_add_right_of_le (Nat.le_add_right_of_le LeSize.out) | (with_reducible exact Nat.le_refl _) | (simp; done) | (simp; omega)))⟩
end
end Go.Proofs.Ytbnbakienajhmaa
