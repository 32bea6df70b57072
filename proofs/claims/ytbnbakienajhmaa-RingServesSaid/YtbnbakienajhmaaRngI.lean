/- The contracts of package ring: Step. The contracts of package ring: Step, where the rings do not cross. -/
import Derived.Test.YtbnbakienajhmaaRngG
import Derived.Test.YtbnbakienajhmaaPlnD
namespace Go.Proofs.Ytbnbakienajhmaa
section
open Go.RowKit Go.Shelf
set_option linter.unusedVariables false
attribute [local go_sem] IsBlk.cell IsBlk.frozen ruA_0 ruA_1 ruA_2 ruA_3 ruA_4 ruA_5 ruA_6 ruA_7 ruA_8

theorem g_lru {ops : Array Oper} {rest : List Oper} {op : Oper} {a : Act} {w : World} {Q : Exit → Act → World → Prop} {x : Operand} {b o : Nat} {C : Array Value} {t : TypeId} {r : Rn} (hw : Region.wanted op (yielded ops a.tmps) = true) (ho : op.op = .load 45 x) (hx : a.eval x = .pointer (some ⟨b, o, none⟩)) [h : IsBlk w b C t] [hr : IsRu C o r]
    (hk : wpList Try.prog ops Q rest (a.put op.dst (.agg (RuA r))) w) : wpList Try.prog ops Q (op :: rest) a w := wpList_load_want hw ho hx load_ru hk
theorem atR_ok (r : List Int) (i : Int) : atR r i = -1 ∨ (0 ≤ atR r i ∧ atR r i < 8) := by
  unfold atR
  split
  · rename_i h
    have := of_one (r.getD i.toNat 0)
    right
    cases hp : okP (r.getD i.toNat 0)
    · rw [hp] at this; simp at this; exact absurd this h.2.2
    · unfold okP at hp; simp at hp; exact hp
  · exact .inl rfl
/-- Where a ring is: its phase, the next place, whether its phase is not red. -/
structure On1 where
  ph : Int
  nx : Int
  bu : Bool
def ringO (t : Tab) (rn : Nat → Rn) (g want k a : Int) : On1 := ⟨atZ t.gr g k a, nextZ (rowZ t.gr g k) want a, decide (0 ≤ atZ t.gr g k a) && !redM (rn (atZ t.gr g k a).toNat)⟩
def bothA (o0 o1 : On1) : Array Value := #[.int .i64 o0.ph, .int .i64 o0.nx, .bool o0.bu, .int .i64 o1.ph, .int .i64 o1.nx, .bool o1.bu]
def on0 : On1 := ⟨0, 0, false⟩
def ringsA (g a0 a1 : Int) (x : Bool) : Array Value := #[.int .i64 g, .int .i64 a0, .int .i64 a1, .bool x]
theorem nextZ_in {r : List Int} {want a : Int} (h : 0 ≤ nextZ r want a) : ∃ n : Nat, nextZ r want a = n ∧ n < r.length ∧ hasM want (r.getD n 0) = true := by
  have key : ∀ n : Nat, 0 ≤ nextN r want a n → ∃ m : Nat, nextN r want a n = m ∧ m < n ∧ hasM want (r.getD m 0) = true := by
    intro n
    induction n with
    | zero => intro h; simp [nextN] at h
    | succ n ih =>
      intro h
      unfold nextN at h ⊢
      by_cases hc : nextN r want a n = -1 ∧ a < n ∧ hasM want (r.getD n 0) = true
      · rw [if_pos hc]; exact ⟨n, rfl, by omega, hc.2.2⟩
      · rw [if_neg hc] at h ⊢
        obtain ⟨m, h1, h2, h3⟩ := ih h
        exact ⟨m, h1, by omega, h3⟩
  exact key _ h
theorem hasM_ok {s p : Int} (h : hasM s p = true) : 0 ≤ p ∧ p < 8 := by
  unfold hasM at h; simp only [Bool.and_eq_true, decide_eq_true_eq] at h; exact h.1
/-- The phase at the next place. -/
theorem atZ_next {t : Tab} {g k a want : Int} (h : 0 ≤ nextZ (rowZ t.gr g k) want a) : 0 ≤ atZ t.gr g k (nextZ (rowZ t.gr g k) want a) ∧ atZ t.gr g k (nextZ (rowZ t.gr g k) want a) < 8 ∧ hasM want (atZ t.gr g k (nextZ (rowZ t.gr g k) want a)) = true := by
  obtain ⟨n, hn, hl, hh⟩ := nextZ_in h
  have ho := hasM_ok hh
  have e : atZ t.gr g k (nextZ (rowZ t.gr g k) want a) = (rowZ t.gr g k).getD n 0 := by
    unfold atZ
    rw [hn, atR_in hl, if_neg]
    intro hz
    have := of_one ((rowZ t.gr g k).getD n 0)
    rw [hz] at this
    generalize (rowZ t.gr g k).getD n 0 = p at *
    unfold okP at this
    simp at this
    omega
  rw [e]
  exact ⟨ho.1, ho.2, hh⟩
/-- A phase within a block. -/
class IsPx (C : Array Value) (o : Nat) (p : outParam Phs) : Prop where
  out : ∀ j, j < 13 → C[o + j]? = (phC p)[j]?
theorem info_ph13 : (Try.prog.info? 24).map (·.size) = some 13 := by kernel_rfl
theorem load_px {w : World} {b o : Nat} {C : Array Value} {t : TypeId} {p : Phs} [h : IsBlk w b C t] [hr : IsPx C o p] : Sem.run Try.prog (Instr.loadAt 24 (.pointer (some ⟨b, o, none⟩))) w = .ok (PqV p) w := by
  have := run_loadAt_mid (P := Try.prog) w b o 24 (phC p) _ (blk_range h.out o _ fun j hj => by rw [hr.out j (by simpa [phC] using hj)]) Try.underlying24 rfl (by kernel_rfl)
  exact this
theorem q_lpx {W : World} {K : Act → Prop} {op : Oper} {a : Act} {x : Operand} {b : Nat} {C : Array Value} {t : TypeId} {o : Nat} {p : Phs} [hr : IsPx C o p] (ho : op.op = .load 24 x) (hx : a.eval x = .pointer (some ⟨b, o, none⟩)) [h : IsBlk W b C t]
    (hk : K (a.put op.dst (PqV p))) : op.quiet Try.prog a (fun w' => ∃ u : Up W, w' = u.w) K := quiet_load_at ho hx (fun u => load_px) hk
theorem z_lpx {W : World} {Z : World → Prop} {K : Act → Prop} {op : Oper} {a : Act} {x : Operand} {b : Nat} {C : Array Value} {t : TypeId} {o : Nat} {p : Phs} [hr : IsPx C o p] (ho : op.op = .load 24 x) (hx : a.eval x = .pointer (some ⟨b, o, none⟩)) [h : IsBlk W b C t]
    (hk : K (a.put op.dst (PqV p))) : op.quiet Try.prog a (fun w' => ∃ u : UpZ W Z, w' = u.up.w) K := quiet_load_z ho hx (fun u => load_px) hk
theorem l_lpx {ops : Array Oper} {rest : List Oper} {op : Oper} {a : Act} {w : World} {Q : Exit → Act → World → Prop} {x : Operand} {b : Nat} {C : Array Value} {t : TypeId} {o : Nat} {p : Phs} [hr : IsPx C o p] (hgd : op.guard = none) (ho : op.op = .load 24 x) (hx : a.eval x = .pointer (some ⟨b, o, none⟩)) [h : IsBlk w b C t]
    (hk : wpList Try.prog ops Q rest (a.put op.dst (PqV p)) w) : wpList Try.prog ops Q (op :: rest) a w := wpList_load_at hgd ho hx load_px hk
theorem y_lpx {ops : Array Oper} {S : World → Prop} {op : Oper} {a : Act} {x : Operand} {b : Nat} {C : Array Value} {t : TypeId} {o : Nat} {p : Phs} [hr : IsPx C o p] (hw : Region.wanted op (yielded ops a.tmps) = true) (ho : op.op = .load 24 x) (hx : a.eval x = .pointer (some ⟨b, o, none⟩)) (hS : ∀ w, S w → IsBlk w b C t) :
    YieldsIf Try.prog ops S op (PqV p) a := yieldsIf_load_at hw ho hx (fun w hs => by haveI := hS w hs; exact load_px)
theorem isPx_of {w : World} {T : Array Value} {t : Tab} (h : IsTab w T t) {k : Nat} (hk : k < 8) : IsPx T (k * 13) (t.ph k) := ⟨fun j hj => by
  have hl : j < (phC (t.ph k)).length := by simpa [phC] using hj
  rw [Nat.mul_comm, h.ph k j hk hj, List.getD_eq_getElem?_getD, List.getElem?_eq_getElem hl]
  rfl⟩
theorem run_index_both0 (a b c d e f : Value) (w : World) : Sem.run Try.prog (Instr.index 97 (.agg #[a, b, c, d, e, f]) (.int .i64 0)) w = .ok (.agg #[a, b, c]) w := by
  obtain ⟨i12, hi12, hs12⟩ : ∃ i, Try.prog.info? 95 = some i ∧ i.size = 3 := by
    have : (Try.prog.info? 95).map (·.size) = some 3 := by kernel_rfl
    cases hq : Try.prog.info? 95 with
    | none => simp [hq] at this
    | some i => exact ⟨i, rfl, by simpa [hq] using this⟩
  simp [Instr.index, asIntOf, Sem.run_bind, run_underlying Try.underlying97, part, isAgg, run_underlying Try.underlying95, Result.andThen, sizeOf, typeInfo, hi12, hs12, go_sem]
theorem run_index_both1 (a b c d e f : Value) (w : World) : Sem.run Try.prog (Instr.index 97 (.agg #[a, b, c, d, e, f]) (.int .i64 1)) w = .ok (.agg #[d, e, f]) w := by
  obtain ⟨i12, hi12, hs12⟩ : ∃ i, Try.prog.info? 95 = some i ∧ i.size = 3 := by
    have : (Try.prog.info? 95).map (·.size) = some 3 := by kernel_rfl
    cases hq : Try.prog.info? 95 with
    | none => simp [hq] at this
    | some i => exact ⟨i, rfl, by simpa [hq] using this⟩
  simp [Instr.index, asIntOf, Sem.run_bind, run_underlying Try.underlying97, part, isAgg, run_underlying Try.underlying95, Result.andThen, sizeOf, typeInfo, hi12, hs12, go_sem]
def endsM (t : Tab) (rn : Nat → Rn) (want : Int) (o : On1) : Bool := ((rn o.ph.toNat).c == 1) && (((rn o.ph.toNat).d && decide (0 ≤ o.nx)) || (restsM (t.ph o.ph.toNat) (rn o.ph.toNat) && !hasM want o.ph))
/-- What a ring does in a tick: who begins, who ends, its place. -/
def stepC (t : Tab) (rn : Nat → Rn) (g want k : Int) (o : On1) (a st en : Int) : Int × Int × Int :=
  if o.bu = true then (st, if endsM t rn want o = true then withM en o.ph else en, a)
  else if 0 ≤ o.nx then (if mayM t rn (atZ t.gr g k o.nx).toNat = true then (withM st (atZ t.gr g k o.nx), en, o.nx) else (st, en, a)) else (st, en, a)
theorem g_lruns {ops : Array Oper} {rest : List Oper} {op : Oper} {a : Act} {w : World} {Q : Exit → Act → World → Prop} {x : Operand} {b : Nat} {C : Array Value} {t : TypeId} (hw : Region.wanted op (yielded ops a.tmps) = true) (ho : op.op = .load 46 x) (hx : a.eval x = .pointer (some ⟨b, 0, none⟩)) [h : IsBlk w b C t] [hz : Sz96 C]
    (hk : wpList Try.prog ops Q rest (a.put op.dst (.agg C)) w) : wpList Try.prog ops Q (op :: rest) a w := wpList_load_want hw ho hx load_runs hk
def stS1 (t : Tab) (rn : Nat → Rn) (g want a0 : Int) : Int × Int × Int := stepC t rn g want 0 (ringO t rn g want 0 a0) a0 0 0
def stS2 (t : Tab) (rn : Nat → Rn) (g want a0 a1 : Int) : Int × Int × Int := stepC t rn g want 1 (ringO t rn g want 1 a1) a1 (stS1 t rn g want a0).1 (stS1 t rn g want a0).2.1
def stCr (t : Tab) (rn : Nat → Rn) (g want a0 a1 : Int) : Bool := (bits .or .i64 (stS2 t rn g want a0 a1).1 (stS2 t rn g want a0 a1).2.1 == 0) && settM (ringO t rn g want 0 a0).ph (ringO t rn g want 0 a0).nx (ringO t rn g want 0 a0).bu rn && settM (ringO t rn g want 1 a1).ph (ringO t rn g want 1 a1).nx (ringO t rn g want 1 a1).bu rn && decide (0 ≤ firstM (bits .andNot .i64 want (grnN rn 8)))
def stEn (t : Tab) (rn : Nat → Rn) (g want a0 a1 : Int) : Int := if stCr t rn g want a0 a1 then grnN rn 8 else (stS2 t rn g want a0 a1).2.1
/-- What Step hands back where the rings do not cross. -/
def stepV (t : Tab) (rn : Nat → Rn) (g want a0 a1 : Int) : Value := .tuple #[ringV g (stS1 t rn g want a0).2.2 (stS2 t rn g want a0 a1).2.2 (stCr t rn g want a0 a1), .int .i64 (stS2 t rn g want a0 a1).1, .int .i64 (stEn t rn g want a0 a1)]
theorem stepV_eq {t : Tab} {rn : Nat → Rn} {g want a0 a1 : Int} {s1 s2 : Int × Int × Int} (h1 : stepC t rn g want 0 (ringO t rn g want 0 a0) a0 0 0 = s1) (h2 : stepC t rn g want 1 (ringO t rn g want 1 a1) a1 s1.1 s1.2.1 = s2) (cr : Bool)
    (h3 : ((bits .or .i64 s2.1 s2.2.1 == 0) && settM (ringO t rn g want 0 a0).ph (ringO t rn g want 0 a0).nx (ringO t rn g want 0 a0).bu rn && settM (ringO t rn g want 1 a1).ph (ringO t rn g want 1 a1).nx (ringO t rn g want 1 a1).bu rn && decide (0 ≤ firstM (bits .andNot .i64 want (grnN rn 8)))) = cr) :
    stepV t rn g want a0 a1 = .tuple #[ringV g s1.2.2 s2.2.2 cr, .int .i64 s2.1, .int .i64 (if cr then grnN rn 8 else s2.2.1)] := by
  subst h1; subst h2; subst h3; rfl
theorem crossV_eq (t : Tab) (rn : Nat → Rn) (want g a0 a1 : Int) (x : Bool) : ∃ g' a0' a1' x', crossV t rn want g a0 a1 x = ringV g' a0' a1' x' := by
  unfold crossV
  split
  · exact ⟨_, _, _, _, rfl⟩
  · exact ⟨_, _, _, _, rfl⟩
set_option maxHeartbeats 8000000 in
set_option maxRecDepth 100000 in
theorem ring_step_cross (T : Array Value) (t : Tab) (R : Array Value) (rn : Nat → Rn) (g a0 a1 want : Int) (w : World) (hg : InKind .i64 g) (hT : IsTab w T t) (hR : IsRuns R rn) :
    Calls Try.prog 12 #[.agg T, .agg #[.int .i64 g, .int .i64 a0, .int .i64 a1, .bool true], .agg R, .int .i64 want] w fun e w' => e = .returned (.tuple #[crossV t rn want g a0 a1 true, .int .i64 0, .int .i64 0]) ∧ Below w.heap.size w w' := by
  haveI : Sz131 T := ⟨hT.size⟩
  haveI : Sz96 R := ⟨hR.1⟩
  have HC : Hid (∀ w', Below w.heap.size w w' → Calls Try.prog 37 #[.agg T, .agg #[.int .i64 g, .int .i64 a0, .int .i64 a1, .bool true], .agg R, .int .i64 want] w' fun e w'' => e = .returned (crossV t rn want g a0 a1 true) ∧ Below w'.heap.size w' w'') := Lib.hid fun w' hb => ring_crosses T t R rn g a0 a1 want true w' hg (hT.below hb (Nat.le_refl _)) hR
  obtain ⟨g', a0', a1', x', he⟩ := crossV_eq t rn want g a0 a1 true
  rw [he] at HC ⊢
  unfold ringV at HC ⊢
  clear he hT hR hg
  go_enter Try.func12, Try.ntmps12
  go_wp2_with (first | (refine l_ltab rfl rfl rfl ?_; go_simp) | (refine l_lruns rfl rfl rfl ?_; go_simp) | (go_at_call 37; refine (Up.run (HC.out _ (by (repeat' (first | (with_reducible exact Below.refl _ _) | (with_reducible assumption) | (with_reducible refine Below.setCell ?_ ?_ _) | (with_reducible refine Below.alloc ?_ ?_ _) | (with_reducible refine Below.drew ?_) | (with_reducible refine Up.base _ ?_ ?_) | (with_reducible exact LeSize.out) | exact LeSize.out | exact Nat.le_add_right_of_le LeSize.out | exact Nat.le_add_right_of_le (Nat.le_add_right_of_le LeSize.out) | (with_reducible exact Nat.le_refl _) | (simp; done) | (simp; omega)))))).mono ?_; rintro e w' ⟨rfl, ucr, rfl⟩))
  go_returns
  exact ⟨rfl, by (repeat' (first | (with_reducible exact Below.refl _ _) | (with_reducible assumption) | (with_reducible refine Below.setCell ?_ ?_ _) | (with_reducible refine Below.alloc ?_ ?_ _) | (with_reducible refine Below.drew ?_) | (with_reducible refine Up.base _ ?_ ?_) | (with_reducible exact LeSize.out) | exact LeSize.out | exact Nat.le_add_right_of_le LeSize.out | exact Nat.le_add_right_of_le (Nat.le_add_right_of_le LeSize.out) | (with_reducible exact Nat.le_refl _) | (simp; done) | (simp; omega)))⟩
end
section
open Go.RowKit Go.Shelf
set_option linter.unusedVariables false
attribute [local go_sem] IsBlk.cell IsBlk.frozen ruA_0 ruA_1 ruA_2 ruA_3 ruA_4 ruA_5 ruA_6 ruA_7 ruA_8

set_option maxHeartbeats 16000000 in
set_option maxRecDepth 100000 in
theorem ring_step_main (T : Array Value) (t : Tab) (R : Array Value) (rn : Nat → Rn) (g a0 a1 want : Int) (w : World) (hT : IsTab w T t) (hR : IsRuns R rn) :
    Calls Try.prog 12 #[.agg T, .agg #[.int .i64 g, .int .i64 a0, .int .i64 a1, .bool false], .agg R, .int .i64 want] w fun e w' => e = .returned (stepV t rn g want a0 a1) ∧ Below w.heap.size w w' := by
  haveI : Sz131 T := ⟨hT.size⟩
  haveI : Sz96 R := ⟨hR.1⟩
  have HRU : Hid (∀ k, k < 8 → IsRu R (k * 12) (rn k)) := Lib.hid fun k hk => isRu_of hR hk
  have HPX : Hid (∀ k, k < 8 → IsPx T (k * 13) (t.ph k)) := Lib.hid fun k hk => isPx_of hT hk
  have HT : Hid (∀ w', Below w.heap.size w w' → IsTab w' T t) := Lib.hid fun w' hb => hT.below hb (Nat.le_refl _)
  have HR := Lib.hid hR
  have HN0 : Hid (∀ w', Below w.heap.size w w' → Calls Try.prog 36 #[.agg T, .agg #[.int .i64 g, .int .i64 a0, .int .i64 a1, .bool false], .int .i64 0] w' fun e w'' => e = .returned (.int .i64 (ringO t rn g want 0 a0).ph) ∧ Below w'.heap.size w' w'') := Lib.hid fun w' hb => ring_now0 T t g a0 a1 false w' (HT.out w' hb)
  have HN1 : Hid (∀ w', Below w.heap.size w w' → Calls Try.prog 36 #[.agg T, .agg #[.int .i64 g, .int .i64 a0, .int .i64 a1, .bool false], .int .i64 1] w' fun e w'' => e = .returned (.int .i64 (ringO t rn g want 1 a1).ph) ∧ Below w'.heap.size w' w'') := Lib.hid fun w' hb => ring_now1 T t g a0 a1 false w' (HT.out w' hb)
  have HX0 : Hid (∀ w', Below w.heap.size w w' → Calls Try.prog 38 #[.agg T, .int .i64 g, .int .i64 0, .int .i64 a0, .int .i64 want] w' fun e w'' => e = .returned (.int .i64 (ringO t rn g want 0 a0).nx) ∧ Below w'.heap.size w' w'') := Lib.hid fun w' hb => pnext_any T t g 0 a0 want w' (HT.out w' hb)
  have HX1 : Hid (∀ w', Below w.heap.size w w' → Calls Try.prog 38 #[.agg T, .int .i64 g, .int .i64 1, .int .i64 a1, .int .i64 want] w' fun e w'' => e = .returned (.int .i64 (ringO t rn g want 1 a1).nx) ∧ Below w'.heap.size w' w'') := Lib.hid fun w' hb => pnext_any T t g 1 a1 want w' (HT.out w' hb)
  have hp0 : (ringO t rn g want 0 a0).ph = -1 ∨ (0 ≤ (ringO t rn g want 0 a0).ph ∧ (ringO t rn g want 0 a0).ph < 8) := atR_ok _ _
  have hp1 : (ringO t rn g want 1 a1).ph = -1 ∨ (0 ≤ (ringO t rn g want 1 a1).ph ∧ (ringO t rn g want 1 a1).ph < 8) := atR_ok _ _
  have hb0 : (ringO t rn g want 0 a0).bu = (decide (0 ≤ (ringO t rn g want 0 a0).ph) && !redM (rn (ringO t rn g want 0 a0).ph.toNat)) := rfl
  have hb1 : (ringO t rn g want 1 a1).bu = (decide (0 ≤ (ringO t rn g want 1 a1).ph) && !redM (rn (ringO t rn g want 1 a1).ph.toNat)) := rfl
  have HNX0 : Hid (0 ≤ (ringO t rn g want 0 a0).nx → 0 ≤ atZ t.gr g 0 (ringO t rn g want 0 a0).nx ∧ atZ t.gr g 0 (ringO t rn g want 0 a0).nx < 8) := Lib.hid fun h => ⟨(atZ_next h).1, (atZ_next h).2.1⟩
  have HNX1 : Hid (0 ≤ (ringO t rn g want 1 a1).nx → 0 ≤ atZ t.gr g 1 (ringO t rn g want 1 a1).nx ∧ atZ t.gr g 1 (ringO t rn g want 1 a1).nx < 8) := Lib.hid fun h => ⟨(atZ_next h).1, (atZ_next h).2.1⟩
  obtain ⟨V, hV⟩ : ∃ V, stepV t rn g want a0 a1 = V := ⟨_, rfl⟩
  have HFIN : Hid (∀ s1 s2 : Int × Int × Int, stepC t rn g want 0 (ringO t rn g want 0 a0) a0 0 0 = s1 → stepC t rn g want 1 (ringO t rn g want 1 a1) a1 s1.1 s1.2.1 = s2 → ∀ cr : Bool, ((bits .or .i64 s2.1 s2.2.1 == 0) && settM (ringO t rn g want 0 a0).ph (ringO t rn g want 0 a0).nx (ringO t rn g want 0 a0).bu rn && settM (ringO t rn g want 1 a1).ph (ringO t rn g want 1 a1).nx (ringO t rn g want 1 a1).bu rn && decide (0 ≤ firstM (bits .andNot .i64 want (grnN rn 8)))) = cr → V = .tuple #[ringV g s1.2.2 s2.2.2 cr, .int .i64 s2.1, .int .i64 (if cr then grnN rn 8 else s2.2.1)]) := Lib.hid fun s1 s2 h1 h2 cr h3 => by rw [← hV]; exact stepV_eq h1 h2 cr h3
  rw [hV]
  clear hV
  generalize ringO t rn g want 0 a0 = o0 at *
  generalize ringO t rn g want 1 a1 = o1 at *
  have HB0 := Lib.hid hb0
  have HB1 := Lib.hid hb1
  clear hT hR hb0 hb1
  go_enter Try.func12, Try.ntmps12
  go_wp2
  go_loopw [26] (fun i wr => ∃ k : Int, (0 ≤ k ∧ k ≤ 2) ∧ i = .int .i64 k ∧ Below w.heap.size w wr ∧ LeSize (w.heap.size + 1 + 1 + 1 + 1 + 1) wr ∧ IsBlk wr w.heap.size T 32 ∧ IsBlk wr (w.heap.size + 1) #[.int .i64 g, .int .i64 a0, .int .i64 a1, .bool false] 36 ∧ IsBlk wr (w.heap.size + 1 + 1) R 46 ∧ IsBlk wr (w.heap.size + 1 + 1 + 1) #[.int .i64 0, .int .i64 0, .int .i64 0, .bool false] 36 ∧ ∃ p0 p1, IsBlk wr (w.heap.size + 1 + 1 + 1 + 1) (bothA p0 p1) 97 ∧ (1 ≤ k → p0 = o0) ∧ (2 ≤ k → p1 = o1)) (fun i _ => 2 - (intOf i).toNat)
  case atStart => exact ⟨0, by omega, rfl, by (repeat' (first | (with_reducible exact Below.refl _ _) | (with_reducible assumption) | (with_reducible refine Below.setCell ?_ ?_ _) | (with_reducible refine Below.alloc ?_ ?_ _) | (with_reducible refine Below.drew ?_) | (with_reducible refine Up.base _ ?_ ?_) | (with_reducible exact LeSize.out) | exact LeSize.out | exact Nat.le_add_right_of_le LeSize.out | exact Nat.le_add_right_of_le (Nat.le_add_right_of_le LeSize.out) | (with_reducible exact Nat.le_refl _) | (simp; done) | (simp; omega))), inferInstance, inferInstance, inferInstance, inferInstance, inferInstance, on0, on0, inferInstance, by omega, by omega⟩
  case round =>
    obtain ⟨k, hk, rfl, hb, iS, iT, iG, iR, iO, p0, p1, iL, hq0, hq1⟩ := hrel
    haveI : LeSize w.heap.size wr := ⟨hb.size⟩
    have hS := iS.out
    rcases (show k = 0 ∨ k = 1 ∨ k = 2 by omega) with rfl | rfl | rfl
    · clear hq0 hq1 HN1 HX1 hp1 HB1
      unfold bothA at iL
      have hbs := hb.size
      obtain ⟨ph, nx, bu⟩ := o0
      simp only at HN0 HX0 hp0 HB0
      go_wp2
      (refine wp_region_up_alloc 16 15 (by kernel_rfl) (by kernel_rfl) rfl rfl (fun A w => by simp only [go_sem]; rfl) ?_; intro X; simp only [List.take_succ_cons, List.take_zero, List.drop_succ_cons, List.drop_zero, List.eraseIdx_cons_succ, List.eraseIdx_cons_zero]; (repeat (first | (go_big_quiet_want; refine q_ltab rfl rfl ?_; simp only [Act.put, List.setIfInBounds_toArray, List.set_cons_succ, List.set_cons_zero]; go_big_quiet_on) | go_big_quiet_step ((first | (go_at_call 36; (with_reducible refine Up.calls (HN0.out _ ?_)); (repeat' (first | (with_reducible exact Below.refl _ _) | (with_reducible assumption) | (with_reducible refine Below.setCell ?_ ?_ _) | (with_reducible refine Below.alloc ?_ ?_ _) | (with_reducible refine Below.drew ?_) | (with_reducible refine Up.base _ ?_ ?_) | (with_reducible exact LeSize.out) | exact LeSize.out | exact Nat.le_add_right_of_le LeSize.out | exact Nat.le_add_right_of_le (Nat.le_add_right_of_le LeSize.out) | (with_reducible exact Nat.le_refl _) | (simp; done) | (simp; omega)))) | (go_at_call 38; (with_reducible refine Up.calls (HX0.out _ ?_)); (repeat' (first | (with_reducible exact Below.refl _ _) | (with_reducible assumption) | (with_reducible refine Below.setCell ?_ ?_ _) | (with_reducible refine Below.alloc ?_ ?_ _) | (with_reducible refine Below.drew ?_) | (with_reducible refine Up.base _ ?_ ?_) | (with_reducible exact LeSize.out) | exact LeSize.out | exact Nat.le_add_right_of_le LeSize.out | exact Nat.le_add_right_of_le (Nat.le_add_right_of_le LeSize.out) | (with_reducible exact Nat.le_refl _) | (simp; done) | (simp; omega)))) | fail)))); refine wpQuiet_nil ?_; clear X; rintro q u hq hO; (try simp at hq); have lO := laid_le hO; have hOB : IsBlk u.w q _ _ := ⟨hO⟩; clear hO; go_simp)
      haveI a0' : Apart w.heap.size q := ⟨by omega⟩
      haveI a1' : Apart (w.heap.size + 1) q := ⟨by omega⟩
      haveI a2' : Apart (w.heap.size + 1 + 1) q := ⟨by omega⟩
      haveI a3' : Apart (w.heap.size + 1 + 1 + 1) q := ⟨by omega⟩
      haveI a4' : Apart (w.heap.size + 1 + 1 + 1 + 1) q := ⟨by omega⟩
      haveI a5' : Apart w.heap.size (w.heap.size + 1 + 1 + 1 + 1) := ⟨by omega⟩
      haveI a6' : Apart (w.heap.size + 1) (w.heap.size + 1 + 1 + 1 + 1) := ⟨by omega⟩
      haveI a7' : Apart (w.heap.size + 1 + 1) (w.heap.size + 1 + 1 + 1 + 1) := ⟨by omega⟩
      haveI a8' : Apart (w.heap.size + 1 + 1 + 1) (w.heap.size + 1 + 1 + 1 + 1) := ⟨by omega⟩
      haveI a9' : Apart q (w.heap.size + 1 + 1 + 1 + 1) := ⟨by omega⟩
      go_upto_region 8 with fail
      have hb0 := HB0.out
      rcases hp0 with rfl | ⟨h0, h8⟩
      · have hbu : bu = false := by rw [hb0]; rfl
        subst hbu
        clear hb0
        go_wp2_with (first | (refine g_lru rfl rfl rfl ?_; go_simp) | (go_at_call 39; refine (Up.run (ring_red _ _)).mono ?_; rintro e w' ⟨rfl, u, rfl⟩))
        go_roundw
        case rel => exact ⟨1, by omega, rfl, by (repeat' (first | (with_reducible exact Below.refl _ _) | (with_reducible assumption) | (with_reducible refine Below.setCell ?_ ?_ _) | (with_reducible refine Below.alloc ?_ ?_ _) | (with_reducible refine Below.drew ?_) | (with_reducible refine Up.base _ ?_ ?_) | (with_reducible exact LeSize.out) | exact LeSize.out | exact Nat.le_add_right_of_le LeSize.out | exact Nat.le_add_right_of_le (Nat.le_add_right_of_le LeSize.out) | (with_reducible exact Nat.le_refl _) | (simp; done) | (simp; omega))), inferInstance, inferInstance, inferInstance, inferInstance, inferInstance, ⟨-1, nx, false⟩, p1, ⟨IsBlk.out⟩, fun _ => rfl, by omega⟩
        case measure => simp [intOf]
      · obtain ⟨kp, rfl⟩ := Int.eq_ofNat_of_zero_le h0
        haveI := HRU.out kp (by omega)
        rw [Int.toNat_natCast] at hb0
        have hd : decide (0 ≤ (kp : Int)) = true := decide_eq_true h0
        rw [hd, Bool.true_and] at hb0
        generalize rn kp = r at *
        cases hr : redM r
        · obtain rfl : bu = true := by rw [hb0, hr]; rfl
          clear hb0
          go_wp2_with (first | (refine g_lru rfl rfl rfl ?_; go_simp) | (go_at_call 39; refine (Up.run (ring_red _ _)).mono ?_; rintro e w' ⟨rfl, u, rfl⟩))
          go_roundw
          case rel => exact ⟨1, by omega, rfl, by (repeat' (first | (with_reducible exact Below.refl _ _) | (with_reducible assumption) | (with_reducible refine Below.setCell ?_ ?_ _) | (with_reducible refine Below.alloc ?_ ?_ _) | (with_reducible refine Below.drew ?_) | (with_reducible refine Up.base _ ?_ ?_) | (with_reducible exact LeSize.out) | exact LeSize.out | exact Nat.le_add_right_of_le LeSize.out | exact Nat.le_add_right_of_le (Nat.le_add_right_of_le LeSize.out) | (with_reducible exact Nat.le_refl _) | (simp; done) | (simp; omega))), inferInstance, inferInstance, inferInstance, inferInstance, inferInstance, ⟨kp, nx, true⟩, p1, ⟨IsBlk.out⟩, fun _ => rfl, by omega⟩
          case measure => simp [intOf]
        · obtain rfl : bu = false := by rw [hb0, hr]; rfl
          clear hb0
          go_wp2_with (first | (refine g_lru rfl rfl rfl ?_; go_simp) | (go_at_call 39; refine (Up.run (ring_red _ _)).mono ?_; rintro e w' ⟨rfl, u, rfl⟩))
          go_roundw
          case rel => exact ⟨1, by omega, rfl, by (repeat' (first | (with_reducible exact Below.refl _ _) | (with_reducible assumption) | (with_reducible refine Below.setCell ?_ ?_ _) | (with_reducible refine Below.alloc ?_ ?_ _) | (with_reducible refine Below.drew ?_) | (with_reducible refine Up.base _ ?_ ?_) | (with_reducible exact LeSize.out) | exact LeSize.out | exact Nat.le_add_right_of_le LeSize.out | exact Nat.le_add_right_of_le (Nat.le_add_right_of_le LeSize.out) | (with_reducible exact Nat.le_refl _) | (simp; done) | (simp; omega))), inferInstance, inferInstance, inferInstance, inferInstance, inferInstance, ⟨kp, nx, false⟩, p1, ⟨IsBlk.out⟩, fun _ => rfl, by omega⟩
          case measure => simp [intOf]
    · clear hq1 HN0 HX0 hp0 HB0
      unfold bothA at iL
      have hbs := hb.size
      obtain ⟨ph, nx, bu⟩ := o1
      simp only at HN1 HX1 hp1 HB1
      go_wp2
      (refine wp_region_up_alloc 16 15 (by kernel_rfl) (by kernel_rfl) rfl rfl (fun A w => by simp only [go_sem]; rfl) ?_; intro X; simp only [List.take_succ_cons, List.take_zero, List.drop_succ_cons, List.drop_zero, List.eraseIdx_cons_succ, List.eraseIdx_cons_zero]; (repeat (first | (go_big_quiet_want; refine q_ltab rfl rfl ?_; simp only [Act.put, List.setIfInBounds_toArray, List.set_cons_succ, List.set_cons_zero]; go_big_quiet_on) | go_big_quiet_step ((first | (go_at_call 36; (with_reducible refine Up.calls (HN1.out _ ?_)); (repeat' (first | (with_reducible exact Below.refl _ _) | (with_reducible assumption) | (with_reducible refine Below.setCell ?_ ?_ _) | (with_reducible refine Below.alloc ?_ ?_ _) | (with_reducible refine Below.drew ?_) | (with_reducible refine Up.base _ ?_ ?_) | (with_reducible exact LeSize.out) | exact LeSize.out | exact Nat.le_add_right_of_le LeSize.out | exact Nat.le_add_right_of_le (Nat.le_add_right_of_le LeSize.out) | (with_reducible exact Nat.le_refl _) | (simp; done) | (simp; omega)))) | (go_at_call 38; (with_reducible refine Up.calls (HX1.out _ ?_)); (repeat' (first | (with_reducible exact Below.refl _ _) | (with_reducible assumption) | (with_reducible refine Below.setCell ?_ ?_ _) | (with_reducible refine Below.alloc ?_ ?_ _) | (with_reducible refine Below.drew ?_) | (with_reducible refine Up.base _ ?_ ?_) | (with_reducible exact LeSize.out) | exact LeSize.out | exact Nat.le_add_right_of_le LeSize.out | exact Nat.le_add_right_of_le (Nat.le_add_right_of_le LeSize.out) | (with_reducible exact Nat.le_refl _) | (simp; done) | (simp; omega)))) | fail)))); refine wpQuiet_nil ?_; clear X; rintro q u hq hO; (try simp at hq); have lO := laid_le hO; have hOB : IsBlk u.w q _ _ := ⟨hO⟩; clear hO; go_simp)
      haveI a0' : Apart w.heap.size q := ⟨by omega⟩
      haveI a1' : Apart (w.heap.size + 1) q := ⟨by omega⟩
      haveI a2' : Apart (w.heap.size + 1 + 1) q := ⟨by omega⟩
      haveI a3' : Apart (w.heap.size + 1 + 1 + 1) q := ⟨by omega⟩
      haveI a4' : Apart (w.heap.size + 1 + 1 + 1 + 1) q := ⟨by omega⟩
      haveI a5' : Apart w.heap.size (w.heap.size + 1 + 1 + 1 + 1) := ⟨by omega⟩
      haveI a6' : Apart (w.heap.size + 1) (w.heap.size + 1 + 1 + 1 + 1) := ⟨by omega⟩
      haveI a7' : Apart (w.heap.size + 1 + 1) (w.heap.size + 1 + 1 + 1 + 1) := ⟨by omega⟩
      haveI a8' : Apart (w.heap.size + 1 + 1 + 1) (w.heap.size + 1 + 1 + 1 + 1) := ⟨by omega⟩
      haveI a9' : Apart q (w.heap.size + 1 + 1 + 1 + 1) := ⟨by omega⟩
      go_upto_region 8 with fail
      have hb1 := HB1.out
      rcases hp1 with rfl | ⟨h0, h8⟩
      · have hbu : bu = false := by rw [hb1]; rfl
        subst hbu
        clear hb1
        go_wp2_with (first | (refine g_lru rfl rfl rfl ?_; go_simp) | (go_at_call 39; refine (Up.run (ring_red _ _)).mono ?_; rintro e w' ⟨rfl, u, rfl⟩))
        go_roundw
        case rel => exact ⟨2, by omega, rfl, by (repeat' (first | (with_reducible exact Below.refl _ _) | (with_reducible assumption) | (with_reducible refine Below.setCell ?_ ?_ _) | (with_reducible refine Below.alloc ?_ ?_ _) | (with_reducible refine Below.drew ?_) | (with_reducible refine Up.base _ ?_ ?_) | (with_reducible exact LeSize.out) | exact LeSize.out | exact Nat.le_add_right_of_le LeSize.out | exact Nat.le_add_right_of_le (Nat.le_add_right_of_le LeSize.out) | (with_reducible exact Nat.le_refl _) | (simp; done) | (simp; omega))), inferInstance, inferInstance, inferInstance, inferInstance, inferInstance, p0, ⟨-1, nx, false⟩, ⟨IsBlk.out⟩, fun h => hq0 (by omega), fun _ => rfl⟩
        case measure => simp [intOf]
      · obtain ⟨kp, rfl⟩ := Int.eq_ofNat_of_zero_le h0
        haveI := HRU.out kp (by omega)
        rw [Int.toNat_natCast] at hb1
        have hd : decide (0 ≤ (kp : Int)) = true := decide_eq_true h0
        rw [hd, Bool.true_and] at hb1
        generalize rn kp = r at *
        cases hr : redM r
        · obtain rfl : bu = true := by rw [hb1, hr]; rfl
          clear hb1
          go_wp2_with (first | (refine g_lru rfl rfl rfl ?_; go_simp) | (go_at_call 39; refine (Up.run (ring_red _ _)).mono ?_; rintro e w' ⟨rfl, u, rfl⟩))
          go_roundw
          case rel => exact ⟨2, by omega, rfl, by (repeat' (first | (with_reducible exact Below.refl _ _) | (with_reducible assumption) | (with_reducible refine Below.setCell ?_ ?_ _) | (with_reducible refine Below.alloc ?_ ?_ _) | (with_reducible refine Below.drew ?_) | (with_reducible refine Up.base _ ?_ ?_) | (with_reducible exact LeSize.out) | exact LeSize.out | exact Nat.le_add_right_of_le LeSize.out | exact Nat.le_add_right_of_le (Nat.le_add_right_of_le LeSize.out) | (with_reducible exact Nat.le_refl _) | (simp; done) | (simp; omega))), inferInstance, inferInstance, inferInstance, inferInstance, inferInstance, p0, ⟨kp, nx, true⟩, ⟨IsBlk.out⟩, fun h => hq0 (by omega), fun _ => rfl⟩
          case measure => simp [intOf]
        · obtain rfl : bu = false := by rw [hb1, hr]; rfl
          clear hb1
          go_wp2_with (first | (refine g_lru rfl rfl rfl ?_; go_simp) | (go_at_call 39; refine (Up.run (ring_red _ _)).mono ?_; rintro e w' ⟨rfl, u, rfl⟩))
          go_roundw
          case rel => exact ⟨2, by omega, rfl, by (repeat' (first | (with_reducible exact Below.refl _ _) | (with_reducible assumption) | (with_reducible refine Below.setCell ?_ ?_ _) | (with_reducible refine Below.alloc ?_ ?_ _) | (with_reducible refine Below.drew ?_) | (with_reducible refine Up.base _ ?_ ?_) | (with_reducible exact LeSize.out) | exact LeSize.out | exact Nat.le_add_right_of_le LeSize.out | exact Nat.le_add_right_of_le (Nat.le_add_right_of_le LeSize.out) | (with_reducible exact Nat.le_refl _) | (simp; done) | (simp; omega))), inferInstance, inferInstance, inferInstance, inferInstance, inferInstance, p0, ⟨kp, nx, false⟩, ⟨IsBlk.out⟩, fun h => hq0 (by omega), fun _ => rfl⟩
          case measure => simp [intOf]
    · obtain rfl := hq0 (by omega)
      obtain rfl := hq1 (by omega)
      clear hq0 hq1 HN0 HN1 HX0 HX1
      obtain ⟨S1, hS1⟩ : ∃ S1, stepC t rn g want 0 p0 a0 0 0 = S1 := ⟨_, rfl⟩
      obtain ⟨S2, hS2⟩ : ∃ S2, stepC t rn g want 1 p1 a1 S1.1 S1.2.1 = S2 := ⟨_, rfl⟩
      have HS1 := Lib.hid hS1
      have HS2 := Lib.hid hS2
      clear hS1 hS2
      have hbs := hb.size
      have iL2 : IsBlk wr (w.heap.size + 1 + 1 + 1 + 1) #[.int .i64 p0.ph, .int .i64 p0.nx, .bool p0.bu, .int .i64 p1.ph, .int .i64 p1.nx, .bool p1.bu] 97 := iL
      clear iL
      haveI a0' : Apart w.heap.size (w.heap.size + 1 + 1 + 1) := ⟨by omega⟩
      haveI a1' : Apart (w.heap.size + 1) (w.heap.size + 1 + 1 + 1) := ⟨by omega⟩
      haveI a2' : Apart (w.heap.size + 1 + 1) (w.heap.size + 1 + 1 + 1) := ⟨by omega⟩
      haveI a4' : Apart (w.heap.size + 1 + 1 + 1 + 1) (w.heap.size + 1 + 1 + 1) := ⟨by omega⟩
      go_wp2
      generalize wr = WA at *
      go_loopw [9, 10, 62] (fun x9 x10 i wr => ∃ k : Int, (0 ≤ k ∧ k ≤ 2) ∧ i = .int .i64 k ∧ Below w.heap.size w wr ∧ LeSize (w.heap.size + 1 + 1 + 1 + 1 + 1) wr ∧ IsBlk wr w.heap.size T 32 ∧ IsBlk wr (w.heap.size + 1) #[.int .i64 g, .int .i64 a0, .int .i64 a1, .bool false] 36 ∧ IsBlk wr (w.heap.size + 1 + 1) R 46 ∧ ∃ b0 b1, IsBlk wr (w.heap.size + 1 + 1 + 1) #[.int .i64 g, .int .i64 b0, .int .i64 b1, .bool false] 36 ∧ IsBlk wr (w.heap.size + 1 + 1 + 1 + 1) #[.int .i64 p0.ph, .int .i64 p0.nx, .bool p0.bu, .int .i64 p1.ph, .int .i64 p1.nx, .bool p1.bu] 97 ∧ ∃ st en, x9 = .int .i64 st ∧ x10 = .int .i64 en ∧ ((k = 0 ∧ st = 0 ∧ en = 0 ∧ b0 = a0 ∧ b1 = a1) ∨ (k = 1 ∧ st = S1.1 ∧ en = S1.2.1 ∧ b0 = S1.2.2 ∧ b1 = a1) ∨ (k = 2 ∧ st = S2.1 ∧ en = S2.2.1 ∧ b0 = S1.2.2 ∧ b1 = S2.2.2))) (fun _ _ i _ => 2 - (intOf i).toNat)
      case atStart => exact ⟨0, by omega, rfl, by (repeat' (first | (with_reducible exact Below.refl _ _) | (with_reducible assumption) | (with_reducible refine Below.setCell ?_ ?_ _) | (with_reducible refine Below.alloc ?_ ?_ _) | (with_reducible refine Below.drew ?_) | (with_reducible refine Up.base _ ?_ ?_) | (with_reducible exact LeSize.out) | exact LeSize.out | exact Nat.le_add_right_of_le LeSize.out | exact Nat.le_add_right_of_le (Nat.le_add_right_of_le LeSize.out) | (with_reducible exact Nat.le_refl _) | (simp; done) | (simp; omega))), inferInstance, inferInstance, inferInstance, inferInstance, a0, a1, ⟨IsBlk.out⟩, inferInstance, 0, 0, rfl, rfl, .inl ⟨rfl, rfl, rfl, rfl, rfl⟩⟩
      case round =>
        clear iT iG iR iO iL2 iS
        obtain ⟨k, hk, rfl, hbq, iS, iT, iG, iR, b0, b1, iO, iL, st, en, rfl, rfl, hcs⟩ := hrel
        haveI : LeSize w.heap.size wr := ⟨hbq.size⟩
        have hSq := iS.out
        have hbq' := hbq.size
        rcases hcs with ⟨rfl, rfl, rfl, rfl, rfl⟩ | ⟨rfl, rfl, rfl, rfl, rfl⟩ | ⟨rfl, rfl, rfl, rfl, rfl⟩
        · skip
          have hix := run_index_both0
          obtain ⟨ph, nx, bu⟩ := p0
          simp only at hp0 HB0 HNX0 HS1 iL
          have HBU := HB0
          clear hp1 HB1 HNX1 HB0
          go_upto_region 15 with fail
          cases bu
          · clear HBU hp0
            cases n3 : decide (0 ≤ nx)
            · have n3' : ¬ 0 ≤ nx := of_decide_eq_false n3
              have hst : stepC t rn g want 0 ⟨ph, nx, false⟩ b0 0 0 = (0, 0, b0) := by unfold stepC; simp only [Bool.false_eq_true, if_false]; rw [if_neg n3']
              go_wp2
              go_roundw
              case rel => exact ⟨1, by omega, rfl, by (repeat' (first | (with_reducible exact Below.refl _ _) | (with_reducible assumption) | (with_reducible refine Below.setCell ?_ ?_ _) | (with_reducible refine Below.alloc ?_ ?_ _) | (with_reducible refine Below.drew ?_) | (with_reducible refine Up.base _ ?_ ?_) | (with_reducible exact LeSize.out) | exact LeSize.out | exact Nat.le_add_right_of_le LeSize.out | exact Nat.le_add_right_of_le (Nat.le_add_right_of_le LeSize.out) | (with_reducible exact Nat.le_refl _) | (simp; done) | (simp; omega))), inferInstance, inferInstance, inferInstance, inferInstance, b0, b1, ⟨IsBlk.out⟩, inferInstance, 0, 0, rfl, rfl, .inr (.inl ⟨rfl, by rw [← HS1.out, hst], by rw [← HS1.out, hst], by rw [← HS1.out, hst], rfl⟩)⟩
              case measure => simp [intOf]
            · have n3' : 0 ≤ nx := of_decide_eq_true n3
              obtain ⟨hP0, hP8⟩ := HNX0.out n3'
              obtain ⟨kp, hkp⟩ := Int.eq_ofNat_of_zero_le hP0
              have HA : Hid (∀ w', Below w.heap.size w w' → Calls Try.prog 43 #[.agg T, .int .i64 g, .int .i64 0, .int .i64 nx] w' fun e w'' => e = .returned (.int .i64 kp) ∧ Below w'.heap.size w' w'') := Lib.hid fun w' hb => by rw [← hkp]; exact ring_at T t g 0 nx w' (HT.out w' hb)
              have HM : Hid (∀ w', Below w.heap.size w w' → Calls Try.prog 44 #[.agg T, .agg R, .int .i64 kp] w' fun e w'' => e = .returned (.bool (mayM t rn kp)) ∧ Below w'.heap.size w' w'') := Lib.hid fun w' hb => ring_may T t R rn kp w' (HT.out w' hb) HR.out (by omega)
              cases n4 : mayM t rn kp
              · rw [n4] at HM
                have hst : stepC t rn g want 0 ⟨ph, nx, false⟩ b0 0 0 = (0, 0, b0) := by unfold stepC; simp only [Bool.false_eq_true, if_false]; rw [if_pos n3', hkp, Int.toNat_natCast, n4]; rfl
                clear hkp hP0 hP8
                go_wp2_with (first | (refine l_ltab rfl rfl rfl ?_; go_simp) | (refine l_lruns rfl rfl rfl ?_; go_simp) | (go_at_call 43; refine (Up.run (HA.out _ (by (repeat' (first | (with_reducible exact Below.refl _ _) | (with_reducible assumption) | (with_reducible refine Below.setCell ?_ ?_ _) | (with_reducible refine Below.alloc ?_ ?_ _) | (with_reducible refine Below.drew ?_) | (with_reducible refine Up.base _ ?_ ?_) | (with_reducible exact LeSize.out) | exact LeSize.out | exact Nat.le_add_right_of_le LeSize.out | exact Nat.le_add_right_of_le (Nat.le_add_right_of_le LeSize.out) | (with_reducible exact Nat.le_refl _) | (simp; done) | (simp; omega)))))).mono ?_; rintro e w' ⟨rfl, uat, rfl⟩) | (go_at_call 44; refine (Up.run (HM.out _ (by (repeat' (first | (with_reducible exact Below.refl _ _) | (with_reducible assumption) | (with_reducible refine Below.setCell ?_ ?_ _) | (with_reducible refine Below.alloc ?_ ?_ _) | (with_reducible refine Below.drew ?_) | (with_reducible refine Up.base _ ?_ ?_) | (with_reducible exact LeSize.out) | exact LeSize.out | exact Nat.le_add_right_of_le LeSize.out | exact Nat.le_add_right_of_le (Nat.le_add_right_of_le LeSize.out) | (with_reducible exact Nat.le_refl _) | (simp; done) | (simp; omega)))))).mono ?_; rintro e w' ⟨rfl, umy, rfl⟩))
                go_roundw
                case rel => exact ⟨1, by omega, rfl, by (repeat' (first | (with_reducible exact Below.refl _ _) | (with_reducible assumption) | (with_reducible refine Below.setCell ?_ ?_ _) | (with_reducible refine Below.alloc ?_ ?_ _) | (with_reducible refine Below.drew ?_) | (with_reducible refine Up.base _ ?_ ?_) | (with_reducible exact LeSize.out) | exact LeSize.out | exact Nat.le_add_right_of_le LeSize.out | exact Nat.le_add_right_of_le (Nat.le_add_right_of_le LeSize.out) | (with_reducible exact Nat.le_refl _) | (simp; done) | (simp; omega))), inferInstance, inferInstance, inferInstance, inferInstance, b0, b1, ⟨IsBlk.out⟩, inferInstance, 0, 0, rfl, rfl, .inr (.inl ⟨rfl, by rw [← HS1.out, hst], by rw [← HS1.out, hst], by rw [← HS1.out, hst], rfl⟩)⟩
                case measure => simp [intOf]
              · rw [n4] at HM
                have hst : stepC t rn g want 0 ⟨ph, nx, false⟩ b0 0 0 = (withM 0 kp, 0, nx) := by unfold stepC; simp only [Bool.false_eq_true, if_false]; rw [if_pos n3', hkp, Int.toNat_natCast, n4]; rfl
                clear hkp hP0 hP8
                go_wp2_with (first | (refine l_ltab rfl rfl rfl ?_; go_simp) | (refine l_lruns rfl rfl rfl ?_; go_simp) | (go_at_call 43; refine (Up.run (HA.out _ (by (repeat' (first | (with_reducible exact Below.refl _ _) | (with_reducible assumption) | (with_reducible refine Below.setCell ?_ ?_ _) | (with_reducible refine Below.alloc ?_ ?_ _) | (with_reducible refine Below.drew ?_) | (with_reducible refine Up.base _ ?_ ?_) | (with_reducible exact LeSize.out) | exact LeSize.out | exact Nat.le_add_right_of_le LeSize.out | exact Nat.le_add_right_of_le (Nat.le_add_right_of_le LeSize.out) | (with_reducible exact Nat.le_refl _) | (simp; done) | (simp; omega)))))).mono ?_; rintro e w' ⟨rfl, uat, rfl⟩) | (go_at_call 44; refine (Up.run (HM.out _ (by (repeat' (first | (with_reducible exact Below.refl _ _) | (with_reducible assumption) | (with_reducible refine Below.setCell ?_ ?_ _) | (with_reducible refine Below.alloc ?_ ?_ _) | (with_reducible refine Below.drew ?_) | (with_reducible refine Up.base _ ?_ ?_) | (with_reducible exact LeSize.out) | exact LeSize.out | exact Nat.le_add_right_of_le LeSize.out | exact Nat.le_add_right_of_le (Nat.le_add_right_of_le LeSize.out) | (with_reducible exact Nat.le_refl _) | (simp; done) | (simp; omega)))))).mono ?_; rintro e w' ⟨rfl, umy, rfl⟩))
                (refine wp_region_up_tail 9 (by kernel_rfl) (by kernel_rfl) ?_; simp only [List.take_succ_cons, List.take_zero, List.drop_succ_cons, List.drop_zero]; (repeat (first | go_big_quiet_step ((first | (go_at_call 42; exact Up.pure (swith_any _ _ _)) | fail)))); refine wpQuiet_nil ?_; rintro _ ⟨u, rfl⟩)
                go_wp2
                go_roundw
                case rel => exact ⟨1, by omega, rfl, by (repeat' (first | (with_reducible exact Below.refl _ _) | (with_reducible assumption) | (with_reducible refine Below.setCell ?_ ?_ _) | (with_reducible refine Below.alloc ?_ ?_ _) | (with_reducible refine Below.drew ?_) | (with_reducible refine Up.base _ ?_ ?_) | (with_reducible exact LeSize.out) | exact LeSize.out | exact Nat.le_add_right_of_le LeSize.out | exact Nat.le_add_right_of_le (Nat.le_add_right_of_le LeSize.out) | (with_reducible exact Nat.le_refl _) | (simp; done) | (simp; omega))), inferInstance, inferInstance, inferInstance, inferInstance, nx, b1, ⟨IsBlk.out⟩, inferInstance, (withM 0 kp), 0, rfl, rfl, .inr (.inl ⟨rfl, by rw [← HS1.out, hst], by rw [← HS1.out, hst], by rw [← HS1.out, hst], rfl⟩)⟩
                case measure => simp [intOf]
          · obtain ⟨kp, rfl⟩ : ∃ kp : Nat, ph = kp := ⟨ph.toNat, by have hbb := HBU.out; rcases hp0 with h | h; (rw [h] at hbb; simp at hbb); omega⟩
            have hkp : kp < 8 := by omega
            clear HBU HNX0
            haveI iru := HRU.out kp hkp
            haveI ipx := HPX.out kp hkp
            have HE : Hid (endsM t rn want ⟨kp, nx, true⟩ = (((rn kp).c == 1) && (((rn kp).d && decide (0 ≤ nx)) || (restsM (t.ph kp) (rn kp) && !hasM want kp)))) := Lib.hid rfl
            have HRS : Hid (∀ w', Calls Try.prog 40 #[PqV (t.ph kp), .agg (RuA (rn kp))] w' fun e w'' => e = .returned (.bool (restsM (t.ph kp) (rn kp))) ∧ Below w'.heap.size w' w'') := Lib.hid fun w' => ring_rests _ _ w'
            have HHS : Hid (∀ w', Calls Try.prog 41 #[.int .i64 want, .int .i64 kp] w' fun e w'' => e = .returned (.bool (hasM want kp)) ∧ w' = w'') := Lib.hid fun w' => shas_any want kp w'
            have hkI : (kp : Int) < 8 := by omega
            have hk0 : (0 : Int) ≤ kp := by omega
            generalize rn kp = r at *
            generalize t.ph kp = pq at *
            go_upto_region 17 with (first | (refine l_newRu rfl rfl rfl rfl inferInstance rfl ?_; go_simp) | (refine l_lru rfl rfl rfl ?_; go_simp))
            cases n1 : (r.c == 1)
            · have nd : True := trivial
              have hE : endsM t rn want ⟨kp, nx, true⟩ = false := by rw [HE.out]; simp [*]
              have hst : stepC t rn g want 0 ⟨kp, nx, true⟩ b0 0 0 = (0, 0, b0) := by unfold stepC; rw [hE]; rfl
              clear hE HE
              (refine wp_region_up (by kernel_rfl) (by kernel_rfl) ?_; (repeat (first | (go_big_quiet_want; refine q_lru rfl rfl ?_; simp only [Act.put, List.setIfInBounds_toArray, List.set_cons_succ, List.set_cons_zero]; go_big_quiet_on) | (go_big_quiet_want; refine q_lpx rfl rfl ?_; simp only [Act.put, List.setIfInBounds_toArray, List.set_cons_succ, List.set_cons_zero]; go_big_quiet_on) | go_big_quiet_step ((first | (go_at_call 40; exact Up.calls (HRS.out _)) | (go_at_call 41; exact Up.pure (HHS.out _)) | fail)))); refine wpQuiet_nil ?_; rintro _ ⟨u, rfl⟩)
              go_wp2_with (go_at_call 42; refine (swith_any _ _ _).mono ?_; rintro e w' ⟨rfl, rfl⟩)
              go_roundw
              case rel => exact ⟨1, by omega, rfl, by (repeat' (first | (with_reducible exact Below.refl _ _) | (with_reducible assumption) | (with_reducible refine Below.setCell ?_ ?_ _) | (with_reducible refine Below.alloc ?_ ?_ _) | (with_reducible refine Below.drew ?_) | (with_reducible refine Up.base _ ?_ ?_) | (with_reducible exact LeSize.out) | exact LeSize.out | exact Nat.le_add_right_of_le LeSize.out | exact Nat.le_add_right_of_le (Nat.le_add_right_of_le LeSize.out) | (with_reducible exact Nat.le_refl _) | (simp; done) | (simp; omega))), inferInstance, inferInstance, inferInstance, inferInstance, b0, b1, ⟨IsBlk.out⟩, inferInstance, 0, 0, rfl, rfl, .inr (.inl ⟨rfl, by rw [← HS1.out, hst], by rw [← HS1.out, hst], by rw [← HS1.out, hst], rfl⟩)⟩
              case measure => simp [intOf]
            · cases n2 : r.d
              · have nd : True := trivial
                cases n4 : restsM pq r
                · rw [n4] at HRS
                  have hE : endsM t rn want ⟨kp, nx, true⟩ = false := by rw [HE.out]; simp [*]
                  have hst : stepC t rn g want 0 ⟨kp, nx, true⟩ b0 0 0 = (0, 0, b0) := by unfold stepC; rw [hE]; rfl
                  clear hE HE
                  (refine wp_region_up (by kernel_rfl) (by kernel_rfl) ?_; (repeat (first | (go_big_quiet_want; refine q_lru rfl rfl ?_; simp only [Act.put, List.setIfInBounds_toArray, List.set_cons_succ, List.set_cons_zero]; go_big_quiet_on) | (go_big_quiet_want; refine q_lpx rfl rfl ?_; simp only [Act.put, List.setIfInBounds_toArray, List.set_cons_succ, List.set_cons_zero]; go_big_quiet_on) | go_big_quiet_step ((first | (go_at_call 40; exact Up.calls (HRS.out _)) | (go_at_call 41; exact Up.pure (HHS.out _)) | fail)))); refine wpQuiet_nil ?_; rintro _ ⟨u, rfl⟩)
                  go_wp2_with (go_at_call 42; refine (swith_any _ _ _).mono ?_; rintro e w' ⟨rfl, rfl⟩)
                  go_roundw
                  case rel => exact ⟨1, by omega, rfl, by (repeat' (first | (with_reducible exact Below.refl _ _) | (with_reducible assumption) | (with_reducible refine Below.setCell ?_ ?_ _) | (with_reducible refine Below.alloc ?_ ?_ _) | (with_reducible refine Below.drew ?_) | (with_reducible refine Up.base _ ?_ ?_) | (with_reducible exact LeSize.out) | exact LeSize.out | exact Nat.le_add_right_of_le LeSize.out | exact Nat.le_add_right_of_le (Nat.le_add_right_of_le LeSize.out) | (with_reducible exact Nat.le_refl _) | (simp; done) | (simp; omega))), inferInstance, inferInstance, inferInstance, inferInstance, b0, b1, ⟨IsBlk.out⟩, inferInstance, 0, 0, rfl, rfl, .inr (.inl ⟨rfl, by rw [← HS1.out, hst], by rw [← HS1.out, hst], by rw [← HS1.out, hst], rfl⟩)⟩
                  case measure => simp [intOf]
                · rw [n4] at HRS
                  cases n5 : hasM want kp
                  · rw [n5] at HHS
                    have hE : endsM t rn want ⟨kp, nx, true⟩ = true := by rw [HE.out]; simp [*]
                    have hst : stepC t rn g want 0 ⟨kp, nx, true⟩ b0 0 0 = (0, (withM 0 kp), b0) := by unfold stepC; rw [hE]; rfl
                    clear hE HE
                    (refine wp_region_up (by kernel_rfl) (by kernel_rfl) ?_; (repeat (first | (go_big_quiet_want; refine q_lru rfl rfl ?_; simp only [Act.put, List.setIfInBounds_toArray, List.set_cons_succ, List.set_cons_zero]; go_big_quiet_on) | (go_big_quiet_want; refine q_lpx rfl rfl ?_; simp only [Act.put, List.setIfInBounds_toArray, List.set_cons_succ, List.set_cons_zero]; go_big_quiet_on) | go_big_quiet_step ((first | (go_at_call 40; exact Up.calls (HRS.out _)) | (go_at_call 41; exact Up.pure (HHS.out _)) | fail)))); refine wpQuiet_nil ?_; rintro _ ⟨u, rfl⟩)
                    go_wp2_with (go_at_call 42; refine (swith_any _ _ _).mono ?_; rintro e w' ⟨rfl, rfl⟩)
                    go_roundw
                    case rel => exact ⟨1, by omega, rfl, by (repeat' (first | (with_reducible exact Below.refl _ _) | (with_reducible assumption) | (with_reducible refine Below.setCell ?_ ?_ _) | (with_reducible refine Below.alloc ?_ ?_ _) | (with_reducible refine Below.drew ?_) | (with_reducible refine Up.base _ ?_ ?_) | (with_reducible exact LeSize.out) | exact LeSize.out | exact Nat.le_add_right_of_le LeSize.out | exact Nat.le_add_right_of_le (Nat.le_add_right_of_le LeSize.out) | (with_reducible exact Nat.le_refl _) | (simp; done) | (simp; omega))), inferInstance, inferInstance, inferInstance, inferInstance, b0, b1, ⟨IsBlk.out⟩, inferInstance, 0, (withM 0 kp), rfl, rfl, .inr (.inl ⟨rfl, by rw [← HS1.out, hst], by rw [← HS1.out, hst], by rw [← HS1.out, hst], rfl⟩)⟩
                    case measure => simp [intOf]
                  · rw [n5] at HHS
                    have hE : endsM t rn want ⟨kp, nx, true⟩ = false := by rw [HE.out]; simp [*]
                    have hst : stepC t rn g want 0 ⟨kp, nx, true⟩ b0 0 0 = (0, 0, b0) := by unfold stepC; rw [hE]; rfl
                    clear hE HE
                    (refine wp_region_up (by kernel_rfl) (by kernel_rfl) ?_; (repeat (first | (go_big_quiet_want; refine q_lru rfl rfl ?_; simp only [Act.put, List.setIfInBounds_toArray, List.set_cons_succ, List.set_cons_zero]; go_big_quiet_on) | (go_big_quiet_want; refine q_lpx rfl rfl ?_; simp only [Act.put, List.setIfInBounds_toArray, List.set_cons_succ, List.set_cons_zero]; go_big_quiet_on) | go_big_quiet_step ((first | (go_at_call 40; exact Up.calls (HRS.out _)) | (go_at_call 41; exact Up.pure (HHS.out _)) | fail)))); refine wpQuiet_nil ?_; rintro _ ⟨u, rfl⟩)
                    go_wp2_with (go_at_call 42; refine (swith_any _ _ _).mono ?_; rintro e w' ⟨rfl, rfl⟩)
                    go_roundw
                    case rel => exact ⟨1, by omega, rfl, by (repeat' (first | (with_reducible exact Below.refl _ _) | (with_reducible assumption) | (with_reducible refine Below.setCell ?_ ?_ _) | (with_reducible refine Below.alloc ?_ ?_ _) | (with_reducible refine Below.drew ?_) | (with_reducible refine Up.base _ ?_ ?_) | (with_reducible exact LeSize.out) | exact LeSize.out | exact Nat.le_add_right_of_le LeSize.out | exact Nat.le_add_right_of_le (Nat.le_add_right_of_le LeSize.out) | (with_reducible exact Nat.le_refl _) | (simp; done) | (simp; omega))), inferInstance, inferInstance, inferInstance, inferInstance, b0, b1, ⟨IsBlk.out⟩, inferInstance, 0, 0, rfl, rfl, .inr (.inl ⟨rfl, by rw [← HS1.out, hst], by rw [← HS1.out, hst], by rw [← HS1.out, hst], rfl⟩)⟩
                    case measure => simp [intOf]
              · cases n3 : decide (0 ≤ nx)
                · have n3' : ¬ 0 ≤ nx := of_decide_eq_false n3
                  cases n4 : restsM pq r
                  · rw [n4] at HRS
                    have hE : endsM t rn want ⟨kp, nx, true⟩ = false := by rw [HE.out]; simp [*]
                    have hst : stepC t rn g want 0 ⟨kp, nx, true⟩ b0 0 0 = (0, 0, b0) := by unfold stepC; rw [hE]; rfl
                    clear hE HE
                    (refine wp_region_up (by kernel_rfl) (by kernel_rfl) ?_; (repeat (first | (go_big_quiet_want; refine q_lru rfl rfl ?_; simp only [Act.put, List.setIfInBounds_toArray, List.set_cons_succ, List.set_cons_zero]; go_big_quiet_on) | (go_big_quiet_want; refine q_lpx rfl rfl ?_; simp only [Act.put, List.setIfInBounds_toArray, List.set_cons_succ, List.set_cons_zero]; go_big_quiet_on) | go_big_quiet_step ((first | (go_at_call 40; exact Up.calls (HRS.out _)) | (go_at_call 41; exact Up.pure (HHS.out _)) | fail)))); refine wpQuiet_nil ?_; rintro _ ⟨u, rfl⟩)
                    go_wp2_with (go_at_call 42; refine (swith_any _ _ _).mono ?_; rintro e w' ⟨rfl, rfl⟩)
                    go_roundw
                    case rel => exact ⟨1, by omega, rfl, by (repeat' (first | (with_reducible exact Below.refl _ _) | (with_reducible assumption) | (with_reducible refine Below.setCell ?_ ?_ _) | (with_reducible refine Below.alloc ?_ ?_ _) | (with_reducible refine Below.drew ?_) | (with_reducible refine Up.base _ ?_ ?_) | (with_reducible exact LeSize.out) | exact LeSize.out | exact Nat.le_add_right_of_le LeSize.out | exact Nat.le_add_right_of_le (Nat.le_add_right_of_le LeSize.out) | (with_reducible exact Nat.le_refl _) | (simp; done) | (simp; omega))), inferInstance, inferInstance, inferInstance, inferInstance, b0, b1, ⟨IsBlk.out⟩, inferInstance, 0, 0, rfl, rfl, .inr (.inl ⟨rfl, by rw [← HS1.out, hst], by rw [← HS1.out, hst], by rw [← HS1.out, hst], rfl⟩)⟩
                    case measure => simp [intOf]
                  · rw [n4] at HRS
                    cases n5 : hasM want kp
                    · rw [n5] at HHS
                      have hE : endsM t rn want ⟨kp, nx, true⟩ = true := by rw [HE.out]; simp [*]
                      have hst : stepC t rn g want 0 ⟨kp, nx, true⟩ b0 0 0 = (0, (withM 0 kp), b0) := by unfold stepC; rw [hE]; rfl
                      clear hE HE
                      (refine wp_region_up (by kernel_rfl) (by kernel_rfl) ?_; (repeat (first | (go_big_quiet_want; refine q_lru rfl rfl ?_; simp only [Act.put, List.setIfInBounds_toArray, List.set_cons_succ, List.set_cons_zero]; go_big_quiet_on) | (go_big_quiet_want; refine q_lpx rfl rfl ?_; simp only [Act.put, List.setIfInBounds_toArray, List.set_cons_succ, List.set_cons_zero]; go_big_quiet_on) | go_big_quiet_step ((first | (go_at_call 40; exact Up.calls (HRS.out _)) | (go_at_call 41; exact Up.pure (HHS.out _)) | fail)))); refine wpQuiet_nil ?_; rintro _ ⟨u, rfl⟩)
                      go_wp2_with (go_at_call 42; refine (swith_any _ _ _).mono ?_; rintro e w' ⟨rfl, rfl⟩)
                      go_roundw
                      case rel => exact ⟨1, by omega, rfl, by (repeat' (first | (with_reducible exact Below.refl _ _) | (with_reducible assumption) | (with_reducible refine Below.setCell ?_ ?_ _) | (with_reducible refine Below.alloc ?_ ?_ _) | (with_reducible refine Below.drew ?_) | (with_reducible refine Up.base _ ?_ ?_) | (with_reducible exact LeSize.out) | exact LeSize.out | exact Nat.le_add_right_of_le LeSize.out | exact Nat.le_add_right_of_le (Nat.le_add_right_of_le LeSize.out) | (with_reducible exact Nat.le_refl _) | (simp; done) | (simp; omega))), inferInstance, inferInstance, inferInstance, inferInstance, b0, b1, ⟨IsBlk.out⟩, inferInstance, 0, (withM 0 kp), rfl, rfl, .inr (.inl ⟨rfl, by rw [← HS1.out, hst], by rw [← HS1.out, hst], by rw [← HS1.out, hst], rfl⟩)⟩
                      case measure => simp [intOf]
                    · rw [n5] at HHS
                      have hE : endsM t rn want ⟨kp, nx, true⟩ = false := by rw [HE.out]; simp [*]
                      have hst : stepC t rn g want 0 ⟨kp, nx, true⟩ b0 0 0 = (0, 0, b0) := by unfold stepC; rw [hE]; rfl
                      clear hE HE
                      (refine wp_region_up (by kernel_rfl) (by kernel_rfl) ?_; (repeat (first | (go_big_quiet_want; refine q_lru rfl rfl ?_; simp only [Act.put, List.setIfInBounds_toArray, List.set_cons_succ, List.set_cons_zero]; go_big_quiet_on) | (go_big_quiet_want; refine q_lpx rfl rfl ?_; simp only [Act.put, List.setIfInBounds_toArray, List.set_cons_succ, List.set_cons_zero]; go_big_quiet_on) | go_big_quiet_step ((first | (go_at_call 40; exact Up.calls (HRS.out _)) | (go_at_call 41; exact Up.pure (HHS.out _)) | fail)))); refine wpQuiet_nil ?_; rintro _ ⟨u, rfl⟩)
                      go_wp2_with (go_at_call 42; refine (swith_any _ _ _).mono ?_; rintro e w' ⟨rfl, rfl⟩)
                      go_roundw
                      case rel => exact ⟨1, by omega, rfl, by (repeat' (first | (with_reducible exact Below.refl _ _) | (with_reducible assumption) | (with_reducible refine Below.setCell ?_ ?_ _) | (with_reducible refine Below.alloc ?_ ?_ _) | (with_reducible refine Below.drew ?_) | (with_reducible refine Up.base _ ?_ ?_) | (with_reducible exact LeSize.out) | exact LeSize.out | exact Nat.le_add_right_of_le LeSize.out | exact Nat.le_add_right_of_le (Nat.le_add_right_of_le LeSize.out) | (with_reducible exact Nat.le_refl _) | (simp; done) | (simp; omega))), inferInstance, inferInstance, inferInstance, inferInstance, b0, b1, ⟨IsBlk.out⟩, inferInstance, 0, 0, rfl, rfl, .inr (.inl ⟨rfl, by rw [← HS1.out, hst], by rw [← HS1.out, hst], by rw [← HS1.out, hst], rfl⟩)⟩
                      case measure => simp [intOf]
                · have n3' : 0 ≤ nx := of_decide_eq_true n3
                  have hE : endsM t rn want ⟨kp, nx, true⟩ = true := by rw [HE.out]; simp [*]
                  have hst : stepC t rn g want 0 ⟨kp, nx, true⟩ b0 0 0 = (0, (withM 0 kp), b0) := by unfold stepC; rw [hE]; rfl
                  clear hE HE
                  (refine wp_region_up (by kernel_rfl) (by kernel_rfl) ?_; (repeat (first | (go_big_quiet_want; refine q_lru rfl rfl ?_; simp only [Act.put, List.setIfInBounds_toArray, List.set_cons_succ, List.set_cons_zero]; go_big_quiet_on) | (go_big_quiet_want; refine q_lpx rfl rfl ?_; simp only [Act.put, List.setIfInBounds_toArray, List.set_cons_succ, List.set_cons_zero]; go_big_quiet_on) | go_big_quiet_step ((first | (go_at_call 40; exact Up.calls (HRS.out _)) | (go_at_call 41; exact Up.pure (HHS.out _)) | fail)))); refine wpQuiet_nil ?_; rintro _ ⟨u, rfl⟩)
                  go_wp2_with (go_at_call 42; refine (swith_any _ _ _).mono ?_; rintro e w' ⟨rfl, rfl⟩)
                  go_roundw
                  case rel => exact ⟨1, by omega, rfl, by (repeat' (first | (with_reducible exact Below.refl _ _) | (with_reducible assumption) | (with_reducible refine Below.setCell ?_ ?_ _) | (with_reducible refine Below.alloc ?_ ?_ _) | (with_reducible refine Below.drew ?_) | (with_reducible refine Up.base _ ?_ ?_) | (with_reducible exact LeSize.out) | exact LeSize.out | exact Nat.le_add_right_of_le LeSize.out | exact Nat.le_add_right_of_le (Nat.le_add_right_of_le LeSize.out) | (with_reducible exact Nat.le_refl _) | (simp; done) | (simp; omega))), inferInstance, inferInstance, inferInstance, inferInstance, b0, b1, ⟨IsBlk.out⟩, inferInstance, 0, (withM 0 kp), rfl, rfl, .inr (.inl ⟨rfl, by rw [← HS1.out, hst], by rw [← HS1.out, hst], by rw [← HS1.out, hst], rfl⟩)⟩
                  case measure => simp [intOf]
        · obtain ⟨s1, e1, c1⟩ := S1
          simp only at HS2 iO
          simp only
          have hix := run_index_both1
          obtain ⟨ph, nx, bu⟩ := p1
          simp only at hp1 HB1 HNX1 HS2 iL
          have HBU := HB1
          clear hp0 HB0 HNX0 HB1
          go_upto_region 15 with fail
          cases bu
          · clear HBU hp1
            cases n3 : decide (0 ≤ nx)
            · have n3' : ¬ 0 ≤ nx := of_decide_eq_false n3
              have hst : stepC t rn g want 1 ⟨ph, nx, false⟩ b1 s1 e1 = (s1, e1, b1) := by unfold stepC; simp only [Bool.false_eq_true, if_false]; rw [if_neg n3']
              go_wp2
              go_roundw
              case rel => exact ⟨2, by omega, rfl, by (repeat' (first | (with_reducible exact Below.refl _ _) | (with_reducible assumption) | (with_reducible refine Below.setCell ?_ ?_ _) | (with_reducible refine Below.alloc ?_ ?_ _) | (with_reducible refine Below.drew ?_) | (with_reducible refine Up.base _ ?_ ?_) | (with_reducible exact LeSize.out) | exact LeSize.out | exact Nat.le_add_right_of_le LeSize.out | exact Nat.le_add_right_of_le (Nat.le_add_right_of_le LeSize.out) | (with_reducible exact Nat.le_refl _) | (simp; done) | (simp; omega))), inferInstance, inferInstance, inferInstance, inferInstance, c1, b1, ⟨IsBlk.out⟩, inferInstance, s1, e1, rfl, rfl, .inr (.inr ⟨rfl, by rw [← HS2.out, hst], by rw [← HS2.out, hst], rfl, by rw [← HS2.out, hst]⟩)⟩
              case measure => simp [intOf]
            · have n3' : 0 ≤ nx := of_decide_eq_true n3
              obtain ⟨hP0, hP8⟩ := HNX1.out n3'
              obtain ⟨kp, hkp⟩ := Int.eq_ofNat_of_zero_le hP0
              have HA : Hid (∀ w', Below w.heap.size w w' → Calls Try.prog 43 #[.agg T, .int .i64 g, .int .i64 1, .int .i64 nx] w' fun e w'' => e = .returned (.int .i64 kp) ∧ Below w'.heap.size w' w'') := Lib.hid fun w' hb => by rw [← hkp]; exact ring_at T t g 1 nx w' (HT.out w' hb)
              have HM : Hid (∀ w', Below w.heap.size w w' → Calls Try.prog 44 #[.agg T, .agg R, .int .i64 kp] w' fun e w'' => e = .returned (.bool (mayM t rn kp)) ∧ Below w'.heap.size w' w'') := Lib.hid fun w' hb => ring_may T t R rn kp w' (HT.out w' hb) HR.out (by omega)
              cases n4 : mayM t rn kp
              · rw [n4] at HM
                have hst : stepC t rn g want 1 ⟨ph, nx, false⟩ b1 s1 e1 = (s1, e1, b1) := by unfold stepC; simp only [Bool.false_eq_true, if_false]; rw [if_pos n3', hkp, Int.toNat_natCast, n4]; rfl
                clear hkp hP0 hP8
                go_wp2_with (first | (refine l_ltab rfl rfl rfl ?_; go_simp) | (refine l_lruns rfl rfl rfl ?_; go_simp) | (go_at_call 43; refine (Up.run (HA.out _ (by (repeat' (first | (with_reducible exact Below.refl _ _) | (with_reducible assumption) | (with_reducible refine Below.setCell ?_ ?_ _) | (with_reducible refine Below.alloc ?_ ?_ _) | (with_reducible refine Below.drew ?_) | (with_reducible refine Up.base _ ?_ ?_) | (with_reducible exact LeSize.out) | exact LeSize.out | exact Nat.le_add_right_of_le LeSize.out | exact Nat.le_add_right_of_le (Nat.le_add_right_of_le LeSize.out) | (with_reducible exact Nat.le_refl _) | (simp; done) | (simp; omega)))))).mono ?_; rintro e w' ⟨rfl, uat, rfl⟩) | (go_at_call 44; refine (Up.run (HM.out _ (by (repeat' (first | (with_reducible exact Below.refl _ _) | (with_reducible assumption) | (with_reducible refine Below.setCell ?_ ?_ _) | (with_reducible refine Below.alloc ?_ ?_ _) | (with_reducible refine Below.drew ?_) | (with_reducible refine Up.base _ ?_ ?_) | (with_reducible exact LeSize.out) | exact LeSize.out | exact Nat.le_add_right_of_le LeSize.out | exact Nat.le_add_right_of_le (Nat.le_add_right_of_le LeSize.out) | (with_reducible exact Nat.le_refl _) | (simp; done) | (simp; omega)))))).mono ?_; rintro e w' ⟨rfl, umy, rfl⟩))
                go_roundw
                case rel => exact ⟨2, by omega, rfl, by (repeat' (first | (with_reducible exact Below.refl _ _) | (with_reducible assumption) | (with_reducible refine Below.setCell ?_ ?_ _) | (with_reducible refine Below.alloc ?_ ?_ _) | (with_reducible refine Below.drew ?_) | (with_reducible refine Up.base _ ?_ ?_) | (with_reducible exact LeSize.out) | exact LeSize.out | exact Nat.le_add_right_of_le LeSize.out | exact Nat.le_add_right_of_le (Nat.le_add_right_of_le LeSize.out) | (with_reducible exact Nat.le_refl _) | (simp; done) | (simp; omega))), inferInstance, inferInstance, inferInstance, inferInstance, c1, b1, ⟨IsBlk.out⟩, inferInstance, s1, e1, rfl, rfl, .inr (.inr ⟨rfl, by rw [← HS2.out, hst], by rw [← HS2.out, hst], rfl, by rw [← HS2.out, hst]⟩)⟩
                case measure => simp [intOf]
              · rw [n4] at HM
                have hst : stepC t rn g want 1 ⟨ph, nx, false⟩ b1 s1 e1 = (withM s1 kp, e1, nx) := by unfold stepC; simp only [Bool.false_eq_true, if_false]; rw [if_pos n3', hkp, Int.toNat_natCast, n4]; rfl
                clear hkp hP0 hP8
                go_wp2_with (first | (refine l_ltab rfl rfl rfl ?_; go_simp) | (refine l_lruns rfl rfl rfl ?_; go_simp) | (go_at_call 43; refine (Up.run (HA.out _ (by (repeat' (first | (with_reducible exact Below.refl _ _) | (with_reducible assumption) | (with_reducible refine Below.setCell ?_ ?_ _) | (with_reducible refine Below.alloc ?_ ?_ _) | (with_reducible refine Below.drew ?_) | (with_reducible refine Up.base _ ?_ ?_) | (with_reducible exact LeSize.out) | exact LeSize.out | exact Nat.le_add_right_of_le LeSize.out | exact Nat.le_add_right_of_le (Nat.le_add_right_of_le LeSize.out) | (with_reducible exact Nat.le_refl _) | (simp; done) | (simp; omega)))))).mono ?_; rintro e w' ⟨rfl, uat, rfl⟩) | (go_at_call 44; refine (Up.run (HM.out _ (by (repeat' (first | (with_reducible exact Below.refl _ _) | (with_reducible assumption) | (with_reducible refine Below.setCell ?_ ?_ _) | (with_reducible refine Below.alloc ?_ ?_ _) | (with_reducible refine Below.drew ?_) | (with_reducible refine Up.base _ ?_ ?_) | (with_reducible exact LeSize.out) | exact LeSize.out | exact Nat.le_add_right_of_le LeSize.out | exact Nat.le_add_right_of_le (Nat.le_add_right_of_le LeSize.out) | (with_reducible exact Nat.le_refl _) | (simp; done) | (simp; omega)))))).mono ?_; rintro e w' ⟨rfl, umy, rfl⟩))
                (refine wp_region_up_tail 9 (by kernel_rfl) (by kernel_rfl) ?_; simp only [List.take_succ_cons, List.take_zero, List.drop_succ_cons, List.drop_zero]; (repeat (first | go_big_quiet_step ((first | (go_at_call 42; exact Up.pure (swith_any _ _ _)) | fail)))); refine wpQuiet_nil ?_; rintro _ ⟨u, rfl⟩)
                go_wp2
                go_roundw
                case rel => exact ⟨2, by omega, rfl, by (repeat' (first | (with_reducible exact Below.refl _ _) | (with_reducible assumption) | (with_reducible refine Below.setCell ?_ ?_ _) | (with_reducible refine Below.alloc ?_ ?_ _) | (with_reducible refine Below.drew ?_) | (with_reducible refine Up.base _ ?_ ?_) | (with_reducible exact LeSize.out) | exact LeSize.out | exact Nat.le_add_right_of_le LeSize.out | exact Nat.le_add_right_of_le (Nat.le_add_right_of_le LeSize.out) | (with_reducible exact Nat.le_refl _) | (simp; done) | (simp; omega))), inferInstance, inferInstance, inferInstance, inferInstance, c1, nx, ⟨IsBlk.out⟩, inferInstance, (withM s1 kp), e1, rfl, rfl, .inr (.inr ⟨rfl, by rw [← HS2.out, hst], by rw [← HS2.out, hst], rfl, by rw [← HS2.out, hst]⟩)⟩
                case measure => simp [intOf]
          · obtain ⟨kp, rfl⟩ : ∃ kp : Nat, ph = kp := ⟨ph.toNat, by have hbb := HBU.out; rcases hp1 with h | h; (rw [h] at hbb; simp at hbb); omega⟩
            have hkp : kp < 8 := by omega
            clear HBU HNX1
            haveI iru := HRU.out kp hkp
            haveI ipx := HPX.out kp hkp
            have HE : Hid (endsM t rn want ⟨kp, nx, true⟩ = (((rn kp).c == 1) && (((rn kp).d && decide (0 ≤ nx)) || (restsM (t.ph kp) (rn kp) && !hasM want kp)))) := Lib.hid rfl
            have HRS : Hid (∀ w', Calls Try.prog 40 #[PqV (t.ph kp), .agg (RuA (rn kp))] w' fun e w'' => e = .returned (.bool (restsM (t.ph kp) (rn kp))) ∧ Below w'.heap.size w' w'') := Lib.hid fun w' => ring_rests _ _ w'
            have HHS : Hid (∀ w', Calls Try.prog 41 #[.int .i64 want, .int .i64 kp] w' fun e w'' => e = .returned (.bool (hasM want kp)) ∧ w' = w'') := Lib.hid fun w' => shas_any want kp w'
            have hkI : (kp : Int) < 8 := by omega
            have hk0 : (0 : Int) ≤ kp := by omega
            generalize rn kp = r at *
            generalize t.ph kp = pq at *
            go_upto_region 17 with (first | (refine l_newRu rfl rfl rfl rfl inferInstance rfl ?_; go_simp) | (refine l_lru rfl rfl rfl ?_; go_simp))
            cases n1 : (r.c == 1)
            · have nd : True := trivial
              have hE : endsM t rn want ⟨kp, nx, true⟩ = false := by rw [HE.out]; simp [*]
              have hst : stepC t rn g want 1 ⟨kp, nx, true⟩ b1 s1 e1 = (s1, e1, b1) := by unfold stepC; rw [hE]; rfl
              clear hE HE
              (refine wp_region_up (by kernel_rfl) (by kernel_rfl) ?_; (repeat (first | (go_big_quiet_want; refine q_lru rfl rfl ?_; simp only [Act.put, List.setIfInBounds_toArray, List.set_cons_succ, List.set_cons_zero]; go_big_quiet_on) | (go_big_quiet_want; refine q_lpx rfl rfl ?_; simp only [Act.put, List.setIfInBounds_toArray, List.set_cons_succ, List.set_cons_zero]; go_big_quiet_on) | go_big_quiet_step ((first | (go_at_call 40; exact Up.calls (HRS.out _)) | (go_at_call 41; exact Up.pure (HHS.out _)) | fail)))); refine wpQuiet_nil ?_; rintro _ ⟨u, rfl⟩)
              go_wp2_with (go_at_call 42; refine (swith_any _ _ _).mono ?_; rintro e w' ⟨rfl, rfl⟩)
              go_roundw
              case rel => exact ⟨2, by omega, rfl, by (repeat' (first | (with_reducible exact Below.refl _ _) | (with_reducible assumption) | (with_reducible refine Below.setCell ?_ ?_ _) | (with_reducible refine Below.alloc ?_ ?_ _) | (with_reducible refine Below.drew ?_) | (with_reducible refine Up.base _ ?_ ?_) | (with_reducible exact LeSize.out) | exact LeSize.out | exact Nat.le_add_right_of_le LeSize.out | exact Nat.le_add_right_of_le (Nat.le_add_right_of_le LeSize.out) | (with_reducible exact Nat.le_refl _) | (simp; done) | (simp; omega))), inferInstance, inferInstance, inferInstance, inferInstance, c1, b1, ⟨IsBlk.out⟩, inferInstance, s1, e1, rfl, rfl, .inr (.inr ⟨rfl, by rw [← HS2.out, hst], by rw [← HS2.out, hst], rfl, by rw [← HS2.out, hst]⟩)⟩
              case measure => simp [intOf]
            · cases n2 : r.d
              · have nd : True := trivial
                cases n4 : restsM pq r
                · rw [n4] at HRS
                  have hE : endsM t rn want ⟨kp, nx, true⟩ = false := by rw [HE.out]; simp [*]
                  have hst : stepC t rn g want 1 ⟨kp, nx, true⟩ b1 s1 e1 = (s1, e1, b1) := by unfold stepC; rw [hE]; rfl
                  clear hE HE
                  (refine wp_region_up (by kernel_rfl) (by kernel_rfl) ?_; (repeat (first | (go_big_quiet_want; refine q_lru rfl rfl ?_; simp only [Act.put, List.setIfInBounds_toArray, List.set_cons_succ, List.set_cons_zero]; go_big_quiet_on) | (go_big_quiet_want; refine q_lpx rfl rfl ?_; simp only [Act.put, List.setIfInBounds_toArray, List.set_cons_succ, List.set_cons_zero]; go_big_quiet_on) | go_big_quiet_step ((first | (go_at_call 40; exact Up.calls (HRS.out _)) | (go_at_call 41; exact Up.pure (HHS.out _)) | fail)))); refine wpQuiet_nil ?_; rintro _ ⟨u, rfl⟩)
                  go_wp2_with (go_at_call 42; refine (swith_any _ _ _).mono ?_; rintro e w' ⟨rfl, rfl⟩)
                  go_roundw
                  case rel => exact ⟨2, by omega, rfl, by (repeat' (first | (with_reducible exact Below.refl _ _) | (with_reducible assumption) | (with_reducible refine Below.setCell ?_ ?_ _) | (with_reducible refine Below.alloc ?_ ?_ _) | (with_reducible refine Below.drew ?_) | (with_reducible refine Up.base _ ?_ ?_) | (with_reducible exact LeSize.out) | exact LeSize.out | exact Nat.le_add_right_of_le LeSize.out | exact Nat.le_add_right_of_le (Nat.le_add_right_of_le LeSize.out) | (with_reducible exact Nat.le_refl _) | (simp; done) | (simp; omega))), inferInstance, inferInstance, inferInstance, inferInstance, c1, b1, ⟨IsBlk.out⟩, inferInstance, s1, e1, rfl, rfl, .inr (.inr ⟨rfl, by rw [← HS2.out, hst], by rw [← HS2.out, hst], rfl, by rw [← HS2.out, hst]⟩)⟩
                  case measure => simp [intOf]
                · rw [n4] at HRS
                  cases n5 : hasM want kp
                  · rw [n5] at HHS
                    have hE : endsM t rn want ⟨kp, nx, true⟩ = true := by rw [HE.out]; simp [*]
                    have hst : stepC t rn g want 1 ⟨kp, nx, true⟩ b1 s1 e1 = (s1, (withM e1 kp), b1) := by unfold stepC; rw [hE]; rfl
                    clear hE HE
                    (refine wp_region_up (by kernel_rfl) (by kernel_rfl) ?_; (repeat (first | (go_big_quiet_want; refine q_lru rfl rfl ?_; simp only [Act.put, List.setIfInBounds_toArray, List.set_cons_succ, List.set_cons_zero]; go_big_quiet_on) | (go_big_quiet_want; refine q_lpx rfl rfl ?_; simp only [Act.put, List.setIfInBounds_toArray, List.set_cons_succ, List.set_cons_zero]; go_big_quiet_on) | go_big_quiet_step ((first | (go_at_call 40; exact Up.calls (HRS.out _)) | (go_at_call 41; exact Up.pure (HHS.out _)) | fail)))); refine wpQuiet_nil ?_; rintro _ ⟨u, rfl⟩)
                    go_wp2_with (go_at_call 42; refine (swith_any _ _ _).mono ?_; rintro e w' ⟨rfl, rfl⟩)
                    go_roundw
                    case rel => exact ⟨2, by omega, rfl, by (repeat' (first | (with_reducible exact Below.refl _ _) | (with_reducible assumption) | (with_reducible refine Below.setCell ?_ ?_ _) | (with_reducible refine Below.alloc ?_ ?_ _) | (with_reducible refine Below.drew ?_) | (with_reducible refine Up.base _ ?_ ?_) | (with_reducible exact LeSize.out) | exact LeSize.out | exact Nat.le_add_right_of_le LeSize.out | exact Nat.le_add_right_of_le (Nat.le_add_right_of_le LeSize.out) | (with_reducible exact Nat.le_refl _) | (simp; done) | (simp; omega))), inferInstance, inferInstance, inferInstance, inferInstance, c1, b1, ⟨IsBlk.out⟩, inferInstance, s1, (withM e1 kp), rfl, rfl, .inr (.inr ⟨rfl, by rw [← HS2.out, hst], by rw [← HS2.out, hst], rfl, by rw [← HS2.out, hst]⟩)⟩
                    case measure => simp [intOf]
                  · rw [n5] at HHS
                    have hE : endsM t rn want ⟨kp, nx, true⟩ = false := by rw [HE.out]; simp [*]
                    have hst : stepC t rn g want 1 ⟨kp, nx, true⟩ b1 s1 e1 = (s1, e1, b1) := by unfold stepC; rw [hE]; rfl
                    clear hE HE
                    (refine wp_region_up (by kernel_rfl) (by kernel_rfl) ?_; (repeat (first | (go_big_quiet_want; refine q_lru rfl rfl ?_; simp only [Act.put, List.setIfInBounds_toArray, List.set_cons_succ, List.set_cons_zero]; go_big_quiet_on) | (go_big_quiet_want; refine q_lpx rfl rfl ?_; simp only [Act.put, List.setIfInBounds_toArray, List.set_cons_succ, List.set_cons_zero]; go_big_quiet_on) | go_big_quiet_step ((first | (go_at_call 40; exact Up.calls (HRS.out _)) | (go_at_call 41; exact Up.pure (HHS.out _)) | fail)))); refine wpQuiet_nil ?_; rintro _ ⟨u, rfl⟩)
                    go_wp2_with (go_at_call 42; refine (swith_any _ _ _).mono ?_; rintro e w' ⟨rfl, rfl⟩)
                    go_roundw
                    case rel => exact ⟨2, by omega, rfl, by (repeat' (first | (with_reducible exact Below.refl _ _) | (with_reducible assumption) | (with_reducible refine Below.setCell ?_ ?_ _) | (with_reducible refine Below.alloc ?_ ?_ _) | (with_reducible refine Below.drew ?_) | (with_reducible refine Up.base _ ?_ ?_) | (with_reducible exact LeSize.out) | exact LeSize.out | exact Nat.le_add_right_of_le LeSize.out | exact Nat.le_add_right_of_le (Nat.le_add_right_of_le LeSize.out) | (with_reducible exact Nat.le_refl _) | (simp; done) | (simp; omega))), inferInstance, inferInstance, inferInstance, inferInstance, c1, b1, ⟨IsBlk.out⟩, inferInstance, s1, e1, rfl, rfl, .inr (.inr ⟨rfl, by rw [← HS2.out, hst], by rw [← HS2.out, hst], rfl, by rw [← HS2.out, hst]⟩)⟩
                    case measure => simp [intOf]
              · cases n3 : decide (0 ≤ nx)
                · have n3' : ¬ 0 ≤ nx := of_decide_eq_false n3
                  cases n4 : restsM pq r
                  · rw [n4] at HRS
                    have hE : endsM t rn want ⟨kp, nx, true⟩ = false := by rw [HE.out]; simp [*]
                    have hst : stepC t rn g want 1 ⟨kp, nx, true⟩ b1 s1 e1 = (s1, e1, b1) := by unfold stepC; rw [hE]; rfl
                    clear hE HE
                    (refine wp_region_up (by kernel_rfl) (by kernel_rfl) ?_; (repeat (first | (go_big_quiet_want; refine q_lru rfl rfl ?_; simp only [Act.put, List.setIfInBounds_toArray, List.set_cons_succ, List.set_cons_zero]; go_big_quiet_on) | (go_big_quiet_want; refine q_lpx rfl rfl ?_; simp only [Act.put, List.setIfInBounds_toArray, List.set_cons_succ, List.set_cons_zero]; go_big_quiet_on) | go_big_quiet_step ((first | (go_at_call 40; exact Up.calls (HRS.out _)) | (go_at_call 41; exact Up.pure (HHS.out _)) | fail)))); refine wpQuiet_nil ?_; rintro _ ⟨u, rfl⟩)
                    go_wp2_with (go_at_call 42; refine (swith_any _ _ _).mono ?_; rintro e w' ⟨rfl, rfl⟩)
                    go_roundw
                    case rel => exact ⟨2, by omega, rfl, by (repeat' (first | (with_reducible exact Below.refl _ _) | (with_reducible assumption) | (with_reducible refine Below.setCell ?_ ?_ _) | (with_reducible refine Below.alloc ?_ ?_ _) | (with_reducible refine Below.drew ?_) | (with_reducible refine Up.base _ ?_ ?_) | (with_reducible exact LeSize.out) | exact LeSize.out | exact Nat.le_add_right_of_le LeSize.out | exact Nat.le_add_right_of_le (Nat.le_add_right_of_le LeSize.out) | (with_reducible exact Nat.le_refl _) | (simp; done) | (simp; omega))), inferInstance, inferInstance, inferInstance, inferInstance, c1, b1, ⟨IsBlk.out⟩, inferInstance, s1, e1, rfl, rfl, .inr (.inr ⟨rfl, by rw [← HS2.out, hst], by rw [← HS2.out, hst], rfl, by rw [← HS2.out, hst]⟩)⟩
                    case measure => simp [intOf]
                  · rw [n4] at HRS
                    cases n5 : hasM want kp
                    · rw [n5] at HHS
                      have hE : endsM t rn want ⟨kp, nx, true⟩ = true := by rw [HE.out]; simp [*]
                      have hst : stepC t rn g want 1 ⟨kp, nx, true⟩ b1 s1 e1 = (s1, (withM e1 kp), b1) := by unfold stepC; rw [hE]; rfl
                      clear hE HE
                      (refine wp_region_up (by kernel_rfl) (by kernel_rfl) ?_; (repeat (first | (go_big_quiet_want; refine q_lru rfl rfl ?_; simp only [Act.put, List.setIfInBounds_toArray, List.set_cons_succ, List.set_cons_zero]; go_big_quiet_on) | (go_big_quiet_want; refine q_lpx rfl rfl ?_; simp only [Act.put, List.setIfInBounds_toArray, List.set_cons_succ, List.set_cons_zero]; go_big_quiet_on) | go_big_quiet_step ((first | (go_at_call 40; exact Up.calls (HRS.out _)) | (go_at_call 41; exact Up.pure (HHS.out _)) | fail)))); refine wpQuiet_nil ?_; rintro _ ⟨u, rfl⟩)
                      go_wp2_with (go_at_call 42; refine (swith_any _ _ _).mono ?_; rintro e w' ⟨rfl, rfl⟩)
                      go_roundw
                      case rel => exact ⟨2, by omega, rfl, by (repeat' (first | (with_reducible exact Below.refl _ _) | (with_reducible assumption) | (with_reducible refine Below.setCell ?_ ?_ _) | (with_reducible refine Below.alloc ?_ ?_ _) | (with_reducible refine Below.drew ?_) | (with_reducible refine Up.base _ ?_ ?_) | (with_reducible exact LeSize.out) | exact LeSize.out | exact Nat.le_add_right_of_le LeSize.out | exact Nat.le_add_right_of_le (Nat.le_add_right_of_le LeSize.out) | (with_reducible exact Nat.le_refl _) | (simp; done) | (simp; omega))), inferInstance, inferInstance, inferInstance, inferInstance, c1, b1, ⟨IsBlk.out⟩, inferInstance, s1, (withM e1 kp), rfl, rfl, .inr (.inr ⟨rfl, by rw [← HS2.out, hst], by rw [← HS2.out, hst], rfl, by rw [← HS2.out, hst]⟩)⟩
                      case measure => simp [intOf]
                    · rw [n5] at HHS
                      have hE : endsM t rn want ⟨kp, nx, true⟩ = false := by rw [HE.out]; simp [*]
                      have hst : stepC t rn g want 1 ⟨kp, nx, true⟩ b1 s1 e1 = (s1, e1, b1) := by unfold stepC; rw [hE]; rfl
                      clear hE HE
                      (refine wp_region_up (by kernel_rfl) (by kernel_rfl) ?_; (repeat (first | (go_big_quiet_want; refine q_lru rfl rfl ?_; simp only [Act.put, List.setIfInBounds_toArray, List.set_cons_succ, List.set_cons_zero]; go_big_quiet_on) | (go_big_quiet_want; refine q_lpx rfl rfl ?_; simp only [Act.put, List.setIfInBounds_toArray, List.set_cons_succ, List.set_cons_zero]; go_big_quiet_on) | go_big_quiet_step ((first | (go_at_call 40; exact Up.calls (HRS.out _)) | (go_at_call 41; exact Up.pure (HHS.out _)) | fail)))); refine wpQuiet_nil ?_; rintro _ ⟨u, rfl⟩)
                      go_wp2_with (go_at_call 42; refine (swith_any _ _ _).mono ?_; rintro e w' ⟨rfl, rfl⟩)
                      go_roundw
                      case rel => exact ⟨2, by omega, rfl, by (repeat' (first | (with_reducible exact Below.refl _ _) | (with_reducible assumption) | (with_reducible refine Below.setCell ?_ ?_ _) | (with_reducible refine Below.alloc ?_ ?_ _) | (with_reducible refine Below.drew ?_) | (with_reducible refine Up.base _ ?_ ?_) | (with_reducible exact LeSize.out) | exact LeSize.out | exact Nat.le_add_right_of_le LeSize.out | exact Nat.le_add_right_of_le (Nat.le_add_right_of_le LeSize.out) | (with_reducible exact Nat.le_refl _) | (simp; done) | (simp; omega))), inferInstance, inferInstance, inferInstance, inferInstance, c1, b1, ⟨IsBlk.out⟩, inferInstance, s1, e1, rfl, rfl, .inr (.inr ⟨rfl, by rw [← HS2.out, hst], by rw [← HS2.out, hst], rfl, by rw [← HS2.out, hst]⟩)⟩
                      case measure => simp [intOf]
                · have n3' : 0 ≤ nx := of_decide_eq_true n3
                  have hE : endsM t rn want ⟨kp, nx, true⟩ = true := by rw [HE.out]; simp [*]
                  have hst : stepC t rn g want 1 ⟨kp, nx, true⟩ b1 s1 e1 = (s1, (withM e1 kp), b1) := by unfold stepC; rw [hE]; rfl
                  clear hE HE
                  (refine wp_region_up (by kernel_rfl) (by kernel_rfl) ?_; (repeat (first | (go_big_quiet_want; refine q_lru rfl rfl ?_; simp only [Act.put, List.setIfInBounds_toArray, List.set_cons_succ, List.set_cons_zero]; go_big_quiet_on) | (go_big_quiet_want; refine q_lpx rfl rfl ?_; simp only [Act.put, List.setIfInBounds_toArray, List.set_cons_succ, List.set_cons_zero]; go_big_quiet_on) | go_big_quiet_step ((first | (go_at_call 40; exact Up.calls (HRS.out _)) | (go_at_call 41; exact Up.pure (HHS.out _)) | fail)))); refine wpQuiet_nil ?_; rintro _ ⟨u, rfl⟩)
                  go_wp2_with (go_at_call 42; refine (swith_any _ _ _).mono ?_; rintro e w' ⟨rfl, rfl⟩)
                  go_roundw
                  case rel => exact ⟨2, by omega, rfl, by (repeat' (first | (with_reducible exact Below.refl _ _) | (with_reducible assumption) | (with_reducible refine Below.setCell ?_ ?_ _) | (with_reducible refine Below.alloc ?_ ?_ _) | (with_reducible refine Below.drew ?_) | (with_reducible refine Up.base _ ?_ ?_) | (with_reducible exact LeSize.out) | exact LeSize.out | exact Nat.le_add_right_of_le LeSize.out | exact Nat.le_add_right_of_le (Nat.le_add_right_of_le LeSize.out) | (with_reducible exact Nat.le_refl _) | (simp; done) | (simp; omega))), inferInstance, inferInstance, inferInstance, inferInstance, c1, b1, ⟨IsBlk.out⟩, inferInstance, s1, (withM e1 kp), rfl, rfl, .inr (.inr ⟨rfl, by rw [← HS2.out, hst], by rw [← HS2.out, hst], rfl, by rw [← HS2.out, hst]⟩)⟩
                  case measure => simp [intOf]
        · obtain ⟨s1, e1, c1⟩ := S1
          obtain ⟨s2, e2, c2⟩ := S2
          simp only at HS1 HS2 iO
          simp only
          have HST0 : Hid (∀ w', Calls Try.prog 46 #[.agg #[.int .i64 p0.ph, .int .i64 p0.nx, .bool p0.bu], .agg R] w' fun e w'' => e = .returned (.bool (settM p0.ph p0.nx p0.bu rn)) ∧ Below w'.heap.size w' w'') := Lib.hid fun w' => ring_settled p0.ph p0.nx p0.bu R rn w' HR.out (fun h => by have hbb := HB0.out; rw [h] at hbb; rcases hp0 with h2 | h2; (rw [h2] at hbb; simp at hbb); exact h2)
          have HST1 : Hid (∀ w', Calls Try.prog 46 #[.agg #[.int .i64 p1.ph, .int .i64 p1.nx, .bool p1.bu], .agg R] w' fun e w'' => e = .returned (.bool (settM p1.ph p1.nx p1.bu rn)) ∧ Below w'.heap.size w' w'') := Lib.hid fun w' => ring_settled p1.ph p1.nx p1.bu R rn w' HR.out (fun h => by have hbb := HB1.out; rw [h] at hbb; rcases hp1 with h2 | h2; (rw [h2] at hbb; simp at hbb); exact h2)
          have HGR : Hid (∀ w', Calls Try.prog 45 #[.agg R] w' fun e w'' => e = .returned (.int .i64 (grnN rn 8)) ∧ Below w'.heap.size w' w'') := Lib.hid fun w' => ring_greens R rn w' HR.out
          have HFS : Hid (∀ w', Calls Try.prog 32 #[.int .i64 (bits .andNot .i64 want (grnN rn 8))] w' fun e w'' => e = .returned (.int .i64 (firstM (bits .andNot .i64 want (grnN rn 8)))) ∧ Below w'.heap.size w' w'') := Lib.hid fun w' => sfirst_any _ w'
          generalize settM p0.ph p0.nx p0.bu rn = v0 at *
          generalize settM p1.ph p1.nx p1.bu rn = v1 at *
          generalize grnN rn 8 = G at *
          generalize firstM (bits .andNot .i64 want G) = F at *
          clear hp0 hp1 HB0 HB1 HNX0 HNX1
          go_upto_region 25 with (first | (refine l_lruns rfl rfl rfl ?_; go_simp) | (go_at_call 45; refine (Up.run (HGR.out _)).mono ?_; rintro e w' ⟨rfl, ugr, rfl⟩))
          cases z : (bits .or .i64 s2 e2 == 0)
          · skip
            have HF := Lib.hid (HFIN.out _ _ HS1.out HS2.out false (by simp [*]))
            clear HFIN HS1 HS2
            go_wp2_with (first | (refine g_lruns rfl rfl rfl ?_; go_simp) | (go_at_call 46; first | (with_reducible refine (Up.run (HST0.out _)).mono ?_; rintro e w' ⟨rfl, us0, rfl⟩) | (with_reducible refine (Up.run (HST1.out _)).mono ?_; rintro e w' ⟨rfl, us1, rfl⟩)) | (go_at_call 32; refine (Up.run (HFS.out _)).mono ?_; rintro e w' ⟨rfl, ufs, rfl⟩))
            go_returns
            exact ⟨by rw [HF.out]; rfl, by (repeat' (first | (with_reducible exact Below.refl _ _) | (with_reducible assumption) | (with_reducible refine Below.setCell ?_ ?_ _) | (with_reducible refine Below.alloc ?_ ?_ _) | (with_reducible refine Below.drew ?_) | (with_reducible refine Up.base _ ?_ ?_) | (with_reducible exact LeSize.out) | exact LeSize.out | exact Nat.le_add_right_of_le LeSize.out | exact Nat.le_add_right_of_le (Nat.le_add_right_of_le LeSize.out) | (with_reducible exact Nat.le_refl _) | (simp; done) | (simp; omega)))⟩
          · cases v0
            · skip
              have HF := Lib.hid (HFIN.out _ _ HS1.out HS2.out false (by simp [*]))
              clear HFIN HS1 HS2
              go_wp2_with (first | (refine g_lruns rfl rfl rfl ?_; go_simp) | (go_at_call 46; first | (with_reducible refine (Up.run (HST0.out _)).mono ?_; rintro e w' ⟨rfl, us0, rfl⟩) | (with_reducible refine (Up.run (HST1.out _)).mono ?_; rintro e w' ⟨rfl, us1, rfl⟩)) | (go_at_call 32; refine (Up.run (HFS.out _)).mono ?_; rintro e w' ⟨rfl, ufs, rfl⟩))
              go_returns
              exact ⟨by rw [HF.out]; rfl, by (repeat' (first | (with_reducible exact Below.refl _ _) | (with_reducible assumption) | (with_reducible refine Below.setCell ?_ ?_ _) | (with_reducible refine Below.alloc ?_ ?_ _) | (with_reducible refine Below.drew ?_) | (with_reducible refine Up.base _ ?_ ?_) | (with_reducible exact LeSize.out) | exact LeSize.out | exact Nat.le_add_right_of_le LeSize.out | exact Nat.le_add_right_of_le (Nat.le_add_right_of_le LeSize.out) | (with_reducible exact Nat.le_refl _) | (simp; done) | (simp; omega)))⟩
            · cases v1
              · skip
                have HF := Lib.hid (HFIN.out _ _ HS1.out HS2.out false (by simp [*]))
                clear HFIN HS1 HS2
                go_wp2_with (first | (refine g_lruns rfl rfl rfl ?_; go_simp) | (go_at_call 46; first | (with_reducible refine (Up.run (HST0.out _)).mono ?_; rintro e w' ⟨rfl, us0, rfl⟩) | (with_reducible refine (Up.run (HST1.out _)).mono ?_; rintro e w' ⟨rfl, us1, rfl⟩)) | (go_at_call 32; refine (Up.run (HFS.out _)).mono ?_; rintro e w' ⟨rfl, ufs, rfl⟩))
                go_returns
                exact ⟨by rw [HF.out]; rfl, by (repeat' (first | (with_reducible exact Below.refl _ _) | (with_reducible assumption) | (with_reducible refine Below.setCell ?_ ?_ _) | (with_reducible refine Below.alloc ?_ ?_ _) | (with_reducible refine Below.drew ?_) | (with_reducible refine Up.base _ ?_ ?_) | (with_reducible exact LeSize.out) | exact LeSize.out | exact Nat.le_add_right_of_le LeSize.out | exact Nat.le_add_right_of_le (Nat.le_add_right_of_le LeSize.out) | (with_reducible exact Nat.le_refl _) | (simp; done) | (simp; omega)))⟩
              · cases zf : decide (0 ≤ F)
                · have zf' : ¬ 0 ≤ F := of_decide_eq_false zf
                  have HF := Lib.hid (HFIN.out _ _ HS1.out HS2.out false (by simp [*]))
                  clear HFIN HS1 HS2
                  go_wp2_with (first | (refine g_lruns rfl rfl rfl ?_; go_simp) | (go_at_call 46; first | (with_reducible refine (Up.run (HST0.out _)).mono ?_; rintro e w' ⟨rfl, us0, rfl⟩) | (with_reducible refine (Up.run (HST1.out _)).mono ?_; rintro e w' ⟨rfl, us1, rfl⟩)) | (go_at_call 32; refine (Up.run (HFS.out _)).mono ?_; rintro e w' ⟨rfl, ufs, rfl⟩))
                  go_returns
                  exact ⟨by rw [HF.out]; rfl, by (repeat' (first | (with_reducible exact Below.refl _ _) | (with_reducible assumption) | (with_reducible refine Below.setCell ?_ ?_ _) | (with_reducible refine Below.alloc ?_ ?_ _) | (with_reducible refine Below.drew ?_) | (with_reducible refine Up.base _ ?_ ?_) | (with_reducible exact LeSize.out) | exact LeSize.out | exact Nat.le_add_right_of_le LeSize.out | exact Nat.le_add_right_of_le (Nat.le_add_right_of_le LeSize.out) | (with_reducible exact Nat.le_refl _) | (simp; done) | (simp; omega)))⟩
                · have zf' : 0 ≤ F := of_decide_eq_true zf
                  have HF := Lib.hid (HFIN.out _ _ HS1.out HS2.out true (by simp [*]))
                  clear HFIN HS1 HS2
                  go_wp2_with (first | (refine g_lruns rfl rfl rfl ?_; go_simp) | (go_at_call 46; first | (with_reducible refine (Up.run (HST0.out _)).mono ?_; rintro e w' ⟨rfl, us0, rfl⟩) | (with_reducible refine (Up.run (HST1.out _)).mono ?_; rintro e w' ⟨rfl, us1, rfl⟩)) | (go_at_call 32; refine (Up.run (HFS.out _)).mono ?_; rintro e w' ⟨rfl, ufs, rfl⟩))
                  go_returns
                  exact ⟨by rw [HF.out]; rfl, by (repeat' (first | (with_reducible exact Below.refl _ _) | (with_reducible assumption) | (with_reducible refine Below.setCell ?_ ?_ _) | (with_reducible refine Below.alloc ?_ ?_ _) | (with_reducible refine Below.drew ?_) | (with_reducible refine Up.base _ ?_ ?_) | (with_reducible exact LeSize.out) | exact LeSize.out | exact Nat.le_add_right_of_le LeSize.out | exact Nat.le_add_right_of_le (Nat.le_add_right_of_le LeSize.out) | (with_reducible exact Nat.le_refl _) | (simp; done) | (simp; omega)))⟩
end
end Go.Proofs.Ytbnbakienajhmaa
