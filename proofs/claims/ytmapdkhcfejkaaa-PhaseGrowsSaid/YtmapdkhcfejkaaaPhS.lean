/- What a green comes to at its end, and the next one's limit: the plain law. -/
import Derived.Test.YtmapdkhcfejkaaaPhR
import Derived.Deep.CutBlock
namespace Go.Proofs.Ytmapdkhcfejkaaa
open Go.ChangeShapes Go.WideShapes Go.ChangeAt Go.RowKit
set_option linter.unusedVariables false
attribute [local go_sem] IsBlk.cell IsBlk.frozen

/-- What is kept after n ticks of a green that is pressed all the time; somebody is there all the time, or never. -/
structure GwIn (p : Phs) (long : Bool) (T : Int × Int × Int) (n : Nat) (r : Rn) : Prop where
  c : r.c = 1
  fs : r.fs = 0
  tr : (r.tl, r.tu, r.td) = T
  nd : r.d = false → r.t = n + 1 ∧ r.p = n
  dd : r.d = true → r.m = (long && decide (0 < p.gap)) ∨ limM p.max p.top r.tl ≤ r.t
theorem gw_start {p : Phs} {r : Rn} {long : Bool} {T : Int × Int × Int} (hc : r.c = 0) (hT : (r.tl, r.tu, r.td) = T) :
    GwIn p long T 0 (stepM p r ⟨true, false, false, false, false, false, false, false⟩) ∧ (stepM p r ⟨true, false, false, false, false, false, false, false⟩).d = false := by
  have e : stepM p r ⟨true, false, false, false, false, false, false, false⟩ = redM p r ⟨true, false, false, false, false, false, false, false⟩ := by simp [stepM, hc]
  rw [e]
  refine ⟨⟨rfl, ?_, hT, fun _ => ⟨rfl, rfl⟩, fun h => by simp [redM] at h⟩, rfl⟩
  show (ftM p.walk p.blinks 0 0 false).1 = 0
  simp [ftM]
theorem gw_step {p : Phs} {r : Rn} {long : Bool} {T : Int × Int × Int} {n : Nat} (hp : PhIn p) (hn : n < 200) (hd : r.d = false) (h : GwIn p long T n r) : GwIn p long T (n + 1) (stepM p r ⟨false, false, long, false, true, false, false, false⟩) := by
  have hg := hp.gap
  obtain ⟨h1, h2, h3, h4, _⟩ := h
  obtain ⟨q1, q2⟩ := h4 hd
  generalize hk : (⟨false, false, long, false, true, false, false, false⟩ : Cu) = k
  have k1 : k.en = false := by rw [← hk]
  have k2 : k.pr = true := by rw [← hk]
  have k3 : k.ho = false := by rw [← hk]
  have k4 : k.cu = false := by rw [← hk]
  have k5 : k.ea = false := by rw [← hk]
  have k6 : k.he = long := by rw [← hk]
  have e : stepM p r k = dueR p (goR p r k) k (dueM p (goR p r k) k) := by simp [stepM, h1, grnR, k1]
  have hg' : gFoot p r k = (0, 0) := by simp [gFoot, k4, k2, h2, ftM]
  have o1 : (goR p r k).c = 1 := rfl
  have o2 : (goR p r k).t = n + 2 := by show moreM r.t = _; rw [q1]; unfold moreM; omega
  have o3 : (goR p r k).p = n + 1 := by show (if k.pr = true then moreM r.p else r.p) = _; rw [if_pos k2, q2]; unfold moreM; omega
  have o4 : (goR p r k).fs = 0 := congrArg Prod.fst hg'
  have o5 : (goR p r k).d = false := by show (r.d && _) = false; rw [hd]; rfl
  have o6 : ((goR p r k).tl, (goR p r k).tu, (goR p r k).td) = T := h3
  have o7 : (goR p r k).l = leftM p.gap r.l long := by show leftM p.gap r.l k.he = _; rw [k6]
  have o8 : dueM p (goR p r k) k = true → (goR p r k).l = 0 ∨ longM p (goR p r k) = true := by
    intro hd; unfold dueM at hd; simp [k5] at hd; exact hd.2
  rw [e]
  generalize goR p r k = o at *
  generalize dueM p o k = due at *
  cases hx : due
  · have e2 : dueR p o k false = o := by simp [dueR]
    rw [e2]
    exact ⟨o1, o4, o6, fun _ => ⟨by omega, by omega⟩, fun h => by rw [o5] at h; cases h⟩
  · have e2 : dueR p o k true = ⟨o.c, o.t, o.fs, o.ft, o.l, o.p, o.e, true, decide (0 < o.l) && longM p o, o.tl, o.tu, o.td⟩ := by simp [dueR, k3]
    rw [e2]
    refine ⟨o1, o4, o6, (fun h => by cases h), fun _ => ?_⟩
    show (decide (0 < o.l) && longM p o) = (long && decide (0 < p.gap)) ∨ limM p.max p.top o.tl ≤ o.t
    cases hl : longM p o
    · left
      have h0 := (o8 hx).resolve_right (by rw [hl]; simp)
      rw [o7] at h0
      cases hlg : long
      · simp
      · rw [hlg] at h0
        have h0' : p.gap = 0 := h0
        simp [h0']
    · right
      unfold longM at hl
      simp at hl
      omega
/-- After the end. -/
structure GyIn (p : Phs) (T : Int × Int × Int) (n : Nat) (r : Rn) : Prop where
  c : r.c = 0 ∨ (r.c = 2 ∧ r.t = n + 1 ∧ (n : Int) + 1 ≤ p.yel) ∨ (r.c = 3 ∧ 1 ≤ r.t ∧ r.t ≤ p.red ∧ (n : Int) + 1 = p.yel + r.t)
  d : r.d = false
  tr : (r.tl, r.tu, r.td) = T
def grT (p : Phs) (r : Rn) : Int × Int × Int := if r.d = true then (grLim p.max p.top p.step r.tl r.tu r.td r.m, grUp r.tu r.m, grDn r.td r.m) else (r.tl, r.tu, r.td)
theorem gy_end {p : Phs} {r : Rn} (hy : 1 ≤ p.yel) (hc : r.c = 1) : GyIn p (grT p r) 0 (stepM p r ⟨false, true, false, false, false, false, false, false⟩) := by
  have e : stepM p r ⟨false, true, false, false, false, false, false, false⟩ = endR p r := by simp [stepM, hc, grnR]
  rw [e]
  unfold endR grT
  split
  · exact ⟨.inr (.inl ⟨rfl, rfl, by simpa using hy⟩), rfl, rfl⟩
  · exact ⟨.inr (.inl ⟨rfl, rfl, by simpa using hy⟩), rfl, rfl⟩
theorem gy_step {p : Phs} {r : Rn} {T : Int × Int × Int} {n : Nat} (hp : PhIn p) (hc0 : r.c ≠ 0) (h : GyIn p T n r) : GyIn p T (n + 1) (stepM p r ⟨false, false, false, false, false, false, false, false⟩) := by
  have hyl := hp.yel
  have hrd := hp.red
  obtain ⟨h1, h2, h3⟩ := h
  rcases h1 with h1 | ⟨h1, h4, h5⟩ | ⟨h1, h6, h4, h5⟩
  · exact absurd h1 hc0
  · have e : stepM p r ⟨false, false, false, false, false, false, false, false⟩ = yelM p r := by simp [stepM, h1]
    rw [e]
    unfold yelM
    split
    · refine ⟨.inr (.inl ⟨rfl, ?_, ?_⟩), rfl, h3⟩
      · show moreM r.t = _; unfold moreM; omega
      · omega
    · split
      · exact ⟨.inr (.inr ⟨rfl, Int.le_refl _, by show (1 : Int) ≤ _; omega, by show _ = p.yel + 1; omega⟩), rfl, h3⟩
      · exact ⟨.inl rfl, rfl, h3⟩
  · have e : stepM p r ⟨false, false, false, false, false, false, false, false⟩ = clrM p r := by simp [stepM, h1]
    rw [e]
    unfold clrM
    split
    · have e2 : moreM r.t = r.t + 1 := by unfold moreM; omega
      refine ⟨.inr (.inr ⟨rfl, ?_, ?_, ?_⟩), rfl, h3⟩
      · show 1 ≤ moreM r.t; omega
      · show moreM r.t ≤ _; omega
      · show _ = p.yel + moreM r.t; omega
    · exact ⟨.inl rfl, rfl, h3⟩
theorem gy_red {p : Phs} {r : Rn} {T : Int × Int × Int} {n : Nat} (hp : PhIn p) (hn : 40 ≤ n) (h : GyIn p T n r) : r.c = 0 := by
  have hyl := hp.yel
  have hrd := hp.red
  rcases h.c with h1 | ⟨h1, h4, h5⟩ | ⟨h1, h6, h4, h5⟩
  · exact h1
  · omega
  · omega
theorem grT_bd {p : Phs} {r : Rn} (hp : PhIn p) (h : 0 ≤ r.tl ∧ r.tl ≤ 9999) : 0 ≤ (grT p r).1 ∧ (grT p r).1 ≤ 9999 := by
  have hm := hp.max
  have ht := hp.top
  unfold grT
  split
  · exact grLim_bd (by omega) (by omega)
  · exact h
/-! ### The walk -/
def TrA (T : Int × Int × Int) : Array Value := #[.int .i64 T.1, .int .i64 T.2.1, .int .i64 T.2.2]
/-- The phase, the run, what the next limit hangs on. -/
structure GwSt (w wx : World) (b8 b9 b10 : Nat) (p : Phs) (r : Rn) (T : Int × Int × Int) : Prop where
  i8 : IsBlk wx b8 (PhR p) 24
  i9 : IsBlk wx b9 (RnA r) 41
  i10 : IsBlk wx b10 (TrA T) 39
  tl : 0 ≤ r.tl ∧ r.tl ≤ 9999
  bel : Below w.heap.size w wx
theorem run_field_trend (r : Rn) (w : World) : Sem.run Try.prog (Instr.field 41 (.agg (RnA r)) 8) w = .ok (.agg (TrA (r.tl, r.tu, r.td))) w := by kernel_rfl
theorem l_newTr {ops : Array Oper} {rest : List Oper} {op : Oper} {a : Act} {w : World} {Q : Exit → Act → World → Prop} {x y : Operand} {Z : Array Value} {t : TypeId} {b : Nat} {T : Int × Int × Int} (hgd : op.guard = none) (ho : op.op = .store 39 x y) (hx : a.eval x = .pointer (some ⟨b, 0, none⟩)) (hy : a.eval y = .agg (TrA T)) (hb : SizeIs b w) (hs : 3 = Z.size)
    (h : wpList Try.prog ops Q rest (a.put op.dst undef) (w.alloc (.cells (TrA T) t))) : wpList Try.prog ops Q (op :: rest) a (w.alloc (.cells Z t)) :=
  wpList_store_new (T := TrA T) 39 hgd ho hx hy hb hs (by kernel_rfl) (by simp [TrA, Value.oneCell']) h
class IsTr (C : Array Value) (T : outParam (Int × Int × Int)) : Prop where
  out : C = TrA T
instance (T : Int × Int × Int) : IsTr (TrA T) T := ⟨rfl⟩
def putTr (w : World) (b : Nat) (T : Int × Int × Int) : World := w.setCells b 0 (TrA T).toList
theorem l_setTr {ops : Array Oper} {rest : List Oper} {op : Oper} {a : Act} {w : World} {Q : Exit → Act → World → Prop} {x y : Operand} {C : Array Value} {t : TypeId} {b : Nat} {T T' : Int × Int × Int} (hgd : op.guard = none) (ho : op.op = .store 39 x y) (hx : a.eval x = .pointer (some ⟨b, 0, none⟩)) (hy : a.eval y = .agg (TrA T')) [hb : IsBlk w b C t] [hr : IsTr C T]
    (h : wpList Try.prog ops Q rest (a.put op.dst undef) (putTr w b T')) : wpList Try.prog ops Q (op :: rest) a w :=
  wpList_store_part (o := 0) (cs := TrA T') 39 hgd ho hx hy (by rw [hr.out]; exact Nat.le_refl _) (by kernel_rfl) (by simp [TrA, Value.oneCell']) h
instance (w : World) (b : Nat) (t : TypeId) (T T' : Int × Int × Int) [h : IsBlk w b (TrA T) t] : IsBlk (putTr w b T') b (TrA T') t := ⟨by
  unfold putTr
  rw [heap_sets_same _ h.out, spl_all (by rfl)]⟩
instance (w : World) (b k : Nat) (C : Array Value) (t : TypeId) (T : Int × Int × Int) [h : IsBlk w b C t] [n : Apart b k] : IsBlk (putTr w k T) b C t := ⟨by unfold putTr; rw [heap_sets_other _ _ n.out]; exact h.out⟩
instance (b : Nat) (w : World) (k : Nat) (T : Int × Int × Int) [h : LeSize b w] : LeSize b (putTr w k T) := ⟨by unfold putTr; rw [size_setCells]; exact h.out⟩
theorem below_putTr {B : Nat} {a w : World} {b : Nat} {T : Int × Int × Int} (h : Below B a w) (hb : B ≤ b) : Below B a (putTr w b T) := below_setCells _ _ h hb
theorem load_tr {w : World} {b : Nat} {C : Array Value} {t : TypeId} {T : Int × Int × Int} [h : IsBlk w b C t] [hr : IsTr C T] : Sem.run Try.prog (Instr.loadAt 39 (.pointer (some ⟨b, 0, none⟩))) w = .ok (.agg (TrA T)) w := by
  have := run_loadAt_mid (P := Try.prog) w b 0 39 (TrA T).toList _ (blk_range h.out 0 _ fun j hj => by rw [hr.out]; simp) Try.underlying39 rfl (by kernel_rfl)
  exact this
theorem load_rtr {w : World} {b : Nat} {C : Array Value} {t : TypeId} {r : Rn} [h : IsBlk w b C t] [hr : IsRn C r] : Sem.run Try.prog (Instr.loadAt 39 (.pointer (some ⟨b, 9, none⟩))) w = .ok (.agg (TrA (r.tl, r.tu, r.td))) w := by
  have := run_loadAt_mid (P := Try.prog) w b 9 39 (TrA (r.tl, r.tu, r.td)).toList _ (blk_range h.out 9 _ fun j hj => by
    rw [hr.out]
    have : j < 3 := hj
    rcases (show j = 0 ∨ j = 1 ∨ j = 2 by omega) with rfl | rfl | rfl <;> rfl) Try.underlying39 rfl (by kernel_rfl)
  exact this
theorem q_ltr {W : World} {K : Act → Prop} {op : Oper} {a : Act} {x : Operand} {b : Nat} {C : Array Value} {t : TypeId} {T : Int × Int × Int} [hr : IsTr C T] (ho : op.op = .load 39 x) (hx : a.eval x = .pointer (some ⟨b, 0, none⟩)) [h : IsBlk W b C t]
    (hk : K (a.put op.dst (.agg (TrA T)))) : op.quiet Try.prog a (fun w' => ∃ u : Up W, w' = u.w) K := quiet_load_at ho hx (fun u => load_tr) hk
theorem z_ltr {W : World} {Z : World → Prop} {K : Act → Prop} {op : Oper} {a : Act} {x : Operand} {b : Nat} {C : Array Value} {t : TypeId} {T : Int × Int × Int} [hr : IsTr C T] (ho : op.op = .load 39 x) (hx : a.eval x = .pointer (some ⟨b, 0, none⟩)) [h : IsBlk W b C t]
    (hk : K (a.put op.dst (.agg (TrA T)))) : op.quiet Try.prog a (fun w' => ∃ u : UpZ W Z, w' = u.up.w) K := quiet_load_z ho hx (fun u => load_tr) hk
theorem l_ltr {ops : Array Oper} {rest : List Oper} {op : Oper} {a : Act} {w : World} {Q : Exit → Act → World → Prop} {x : Operand} {b : Nat} {C : Array Value} {t : TypeId} {T : Int × Int × Int} [hr : IsTr C T] (hgd : op.guard = none) (ho : op.op = .load 39 x) (hx : a.eval x = .pointer (some ⟨b, 0, none⟩)) [h : IsBlk w b C t]
    (hk : wpList Try.prog ops Q rest (a.put op.dst (.agg (TrA T))) w) : wpList Try.prog ops Q (op :: rest) a w := wpList_load_at hgd ho hx load_tr hk
theorem y_ltr {ops : Array Oper} {S : World → Prop} {op : Oper} {a : Act} {x : Operand} {b : Nat} {C : Array Value} {t : TypeId} {T : Int × Int × Int} [hr : IsTr C T] (hw : Region.wanted op (yielded ops a.tmps) = true) (ho : op.op = .load 39 x) (hx : a.eval x = .pointer (some ⟨b, 0, none⟩)) (hS : ∀ w, S w → IsBlk w b C t) :
    YieldsIf Try.prog ops S op (.agg (TrA T)) a := yieldsIf_load_at hw ho hx (fun w hs => by haveI := hS w hs; exact load_tr)
theorem q_lrtr {W : World} {K : Act → Prop} {op : Oper} {a : Act} {x : Operand} {b : Nat} {C : Array Value} {t : TypeId} {r : Rn} [hr : IsRn C r] (ho : op.op = .load 39 x) (hx : a.eval x = .pointer (some ⟨b, 9, none⟩)) [h : IsBlk W b C t]
    (hk : K (a.put op.dst (.agg (TrA (r.tl, r.tu, r.td))))) : op.quiet Try.prog a (fun w' => ∃ u : Up W, w' = u.w) K := quiet_load_at ho hx (fun u => load_rtr) hk
theorem z_lrtr {W : World} {Z : World → Prop} {K : Act → Prop} {op : Oper} {a : Act} {x : Operand} {b : Nat} {C : Array Value} {t : TypeId} {r : Rn} [hr : IsRn C r] (ho : op.op = .load 39 x) (hx : a.eval x = .pointer (some ⟨b, 9, none⟩)) [h : IsBlk W b C t]
    (hk : K (a.put op.dst (.agg (TrA (r.tl, r.tu, r.td))))) : op.quiet Try.prog a (fun w' => ∃ u : UpZ W Z, w' = u.up.w) K := quiet_load_z ho hx (fun u => load_rtr) hk
theorem l_lrtr {ops : Array Oper} {rest : List Oper} {op : Oper} {a : Act} {w : World} {Q : Exit → Act → World → Prop} {x : Operand} {b : Nat} {C : Array Value} {t : TypeId} {r : Rn} [hr : IsRn C r] (hgd : op.guard = none) (ho : op.op = .load 39 x) (hx : a.eval x = .pointer (some ⟨b, 9, none⟩)) [h : IsBlk w b C t]
    (hk : wpList Try.prog ops Q rest (a.put op.dst (.agg (TrA (r.tl, r.tu, r.td)))) w) : wpList Try.prog ops Q (op :: rest) a w := wpList_load_at hgd ho hx load_rtr hk
theorem y_lrtr {ops : Array Oper} {S : World → Prop} {op : Oper} {a : Act} {x : Operand} {b : Nat} {C : Array Value} {t : TypeId} {r : Rn} [hr : IsRn C r] (hw : Region.wanted op (yielded ops a.tmps) = true) (ho : op.op = .load 39 x) (hx : a.eval x = .pointer (some ⟨b, 9, none⟩)) (hS : ∀ w, S w → IsBlk w b C t) :
    YieldsIf Try.prog ops S op (.agg (TrA (r.tl, r.tu, r.td))) a := yieldsIf_load_at hw ho hx (fun w hs => by haveI := hS w hs; exact load_rtr)
theorem run_neq_tr (T : Int × Int × Int) (w : World) : Sem.run Try.prog (binOp .neq 39 (.agg (TrA T)) (.agg (TrA T))) w = .ok (.bool false) w := by
  unfold TrA
  simp [go_sem]
theorem run_eql_tr (T : Int × Int × Int) (w : World) : Sem.run Try.prog (binOp .eql 39 (.agg (TrA T)) (.agg (TrA T))) w = .ok (.bool true) w := by
  unfold TrA
  simp [go_sem]
theorem rgrowF_any (p : Phs) (T : Int × Int × Int) (m : Bool) (w : World) (hp : PhIn p) :
    Calls Try.prog 19 #[PhA p, .agg (TrA T), .bool m] w fun e w' => e = .returned (.agg (TrA (grLim p.max p.top p.step T.1 T.2.1 T.2.2 m, grUp T.2.1 m, grDn T.2.2 m))) ∧ Below w.heap.size w w' := by
  have h1 := hp.max; have h2 := hp.top; have h3 := hp.step
  exact rgrow_any p.on p.min p.gap p.max p.top p.step p.yel p.red p.walk p.blinks p.recl p.lock p.rest T.1 T.2.1 T.2.2 m w (by omega) (by omega) (by omega)
theorem rlimitF_any (p : Phs) (T : Int × Int × Int) (w : World) :
    Calls Try.prog 20 #[PhA p, .agg (TrA T)] w fun e w' => e = .returned (.int .i64 (limM p.max p.top T.1)) ∧ Below w.heap.size w w' :=
  rlimit_any p.on p.min p.gap p.max p.top p.step p.yel p.red p.walk p.blinks p.recl p.lock p.rest T.1 T.2.1 T.2.2 w
/-- While the green goes on. -/
def GwMid (w : World) (b8 b9 b10 : Nat) (p : Phs) (long : Bool) (T : Int × Int × Int) (wx : World) : Prop := ∃ r n, GwSt w wx b8 b9 b10 p r T ∧ GwIn p long T n r
def GyMid (w : World) (b8 b9 b10 : Nat) (p : Phs) (r : Rn) (wx : World) : Prop := GwSt w wx b8 b9 b10 p r (grT p r)
set_option maxHeartbeats 8000000 in
set_option maxRecDepth 100000 in
theorem phaseGrows_walk (a0 : Option Addr) (cap0 : Nat) (z0 : List Int) (a1 : Int) (a2 : Option Addr) (cap2 : Nat) (z2 : List Int) (w : World) (hc0 : z0.length ≤ cap0 ∧ cap0 ≤ 9223372036854775807) (_ : Hdr w a0 cap0) (hz0 : Ints w a0 z0) (_ : ∀ i, i < z0.length → InKind .i64 (z0.getD i 0)) (_ : InKind .i64 a1)
    (hc2 : z2.length ≤ cap2 ∧ cap2 ≤ 9223372036854775807) (_ : Hdr w a2 cap2) (hz2 : Ints w a2 z2) (_ : ∀ i, i < z2.length → InKind .i64 (z2.getD i 0)) :
    Calls Try.prog 7 #[.slice a0 z0.length cap0, .int .i64 a1, .slice a2 z2.length cap2] w fun e w' => e = .returned (.bool true) ∧ Below w.heap.size w w' := by
  have HZ : Hid (∀ w', Below w.heap.size w w' → Ints w' a0 z0) := Lib.hid fun w' hb => Row1.below hz0 hb (Nat.le_refl _)
  have HZL : Hid (z0.length ≤ 9223372036854775807) := Lib.hid (by omega)
  have HY := Lib.hid hz2
  have hk0 := Int.emod_nonneg a1 (show (8 : Int) ≠ 0 by omega)
  have hk1 := Int.emod_lt_of_pos a1 (show (0 : Int) < 8 by omega)
  obtain ⟨k, hk⟩ : ∃ k : Nat, a1 % 8 = k := ⟨(a1 % 8).toNat, by omega⟩
  have hk8 : k < 8 := by omega
  have hkI : (k : Int) < 8 := by omega
  have hP := tab_phIn z0 k
  have HOK : Hid (((tabM z0).ph k).on = true → PhOk ((tabM z0).ph k)) := Lib.hid fun h => by
    rcases tab_ph z0 k with ⟨_, h1⟩ | h1
    · exact h1
    · rw [h1] at h; cases h
  have HPH : Hid (∀ w' T, IsTab w' T (tabM z0) → IsPh T (k * 13) ((tabM z0).ph k)) := Lib.hid fun w' T h => h.isPh k hk8
  generalize (tabM z0).ph k = p at *
  have HPI := Lib.hid hP
  have hbt : 0 ≤ (beginM p).tl ∧ (beginM p).tl ≤ 9999 := by have := hP.max; simp only [beginM]; omega
  have z := zeroTab
  have f0 : (PhR p)[0]? = some (.bool p.on) := rfl
  have f2 : (PhR p)[2]? = some (.int .i64 p.gap) := rfl
  have g0 : ∀ r, (RnA r)[0]? = some (.int .i64 r.c) := fun r => rfl
  have g1 : ∀ r, (RnA r)[1]? = some (.int .i64 r.t) := fun r => rfl
  have g7 : ∀ r, (RnA r)[7]? = some (.bool r.d) := fun r => rfl
  have g8 : ∀ r, (RnA r)[8]? = some (.bool r.m) := fun r => rfl
  clear hz0 hz2 hk0 hk1 hP
  by_cases hgo : z2.length ≤ 40 ∧ p.on = true
  · obtain ⟨hlen, hon⟩ := hgo
    have hok := HOK.out hon
    have hy1 : 1 ≤ p.yel := by have := hok.yel; omega
    clear hok HOK
    have hft := run_field_trend
    go_enter Try.func7, Try.ntmps7
    go_upto_region 2 with (first | (go_at_call 9; refine (ltable_up _ _ _ _ HZL.out (HZ.out _ (by (repeat' (first | (with_reducible exact Below.refl _ _) | (with_reducible assumption) | (with_reducible refine Below.setCell ?_ ?_ _) | (with_reducible refine Below.alloc ?_ ?_ _) | (with_reducible refine Below.drew ?_) | (with_reducible refine Up.base _ ?_ ?_) | (with_reducible exact LeSize.out) | exact LeSize.out | exact Nat.le_add_right_of_le LeSize.out | exact Nat.le_add_right_of_le (Nat.le_add_right_of_le LeSize.out) | (with_reducible exact Nat.le_refl _) | (simp; done) | (simp; omega)))))).mono ?_; rintro e w' ⟨T, uT, rfl, rfl, hT⟩) | (refine l_newTab rfl rfl rfl rfl inferInstance hT rfl ?_; go_simp))
    haveI hph := HPH.out _ _ hT
    haveI : Sz131 T := ⟨hT.size⟩
    clear hT HPH
    go_upto_region 7 with (first | (go_at_call 10; refine (place_any _ _ _ (by omega) (by omega)).mono ?_; rintro e w' ⟨rfl, rfl⟩) | (refine l_phA rfl rfl rfl ?_; go_simp) | (refine l_newPr rfl rfl rfl rfl inferInstance rfl ?_; go_simp) | (refine l_newRn rfl rfl rfl rfl inferInstance rfl ?_; go_simp) | (refine l_lpr rfl rfl rfl ?_; go_simp) | (go_at_call 12; refine (Up.run (pbeginF_any _ _)).mono ?_; rintro e w' ⟨rfl, u9, rfl⟩) | (go_at_call 13; refine (Up.run (rbeginF_any _ _)).mono ?_; rintro e w' ⟨rfl, u10, rfl⟩) | (refine l_newTr rfl rfl rfl rfl inferInstance rfl ?_; go_simp))
    have hT0 : ((beginM p).tl, (beginM p).tu, (beginM p).td) = (p.max, 0, 0) := rfl
    have hc0 : (beginM p).c = 0 := rfl
    rw [hT0]
    have i8 : IsBlk (u10.w.alloc (.cells (TrA (p.max, 0, 0)) 39)) (uT.w.heap.size + 1) (PhR p) 24 := inferInstance
    have i9 : IsBlk (u10.w.alloc (.cells (TrA (p.max, 0, 0)) 39)) u9.w.heap.size (RnA (beginM p)) 41 := inferInstance
    have i10 : IsBlk (u10.w.alloc (.cells (TrA (p.max, 0, 0)) 39)) u10.w.heap.size (TrA (p.max, 0, 0)) 39 := inferInstance
    have hbw : Below w.heap.size w (u10.w.alloc (.cells (TrA (p.max, 0, 0)) 39)) := by (repeat' (first | (with_reducible exact Below.refl _ _) | (with_reducible assumption) | (with_reducible refine Below.setCell ?_ ?_ _) | (with_reducible refine Below.alloc ?_ ?_ _) | (with_reducible refine Below.drew ?_) | (with_reducible refine Up.base _ ?_ ?_) | (with_reducible exact LeSize.out) | exact LeSize.out | exact Nat.le_add_right_of_le LeSize.out | exact Nat.le_add_right_of_le (Nat.le_add_right_of_le LeSize.out) | (with_reducible exact Nat.le_refl _) | (simp; done) | (simp; omega)))
    have HST0 : Hid (GwSt w (u10.w.alloc (.cells (TrA (p.max, 0, 0)) 39)) (uT.w.heap.size + 1) u9.w.heap.size u10.w.heap.size p (beginM p) (p.max, 0, 0)) := Lib.hid ⟨i8, i9, i10, hbt, hbw⟩
    have HTR0 := Lib.hid hT0
    clear i8 i9 i10 hbw hT0 hbt
    have hlo := uT.bel.size
    have h89 := u9.bel.size
    have h910 := u10.bel.size
    simp only [World.size_alloc] at h89 h910
    generalize (u10.w.alloc (.cells (TrA (p.max, 0, 0)) 39)) = W0 at *
    obtain ⟨T0, hT00⟩ : ∃ T0, (p.max, (0 : Int), (0 : Int)) = T0 := ⟨_, rfl⟩
    rw [hT00] at HST0 HTR0 ⊢
    obtain ⟨b8, hb8⟩ : ∃ b, uT.w.heap.size + 1 = b := ⟨_, rfl⟩
    obtain ⟨b9, hb9⟩ : ∃ b, u9.w.heap.size = b := ⟨_, rfl⟩
    obtain ⟨b10, hb10⟩ : ∃ b, u10.w.heap.size = b := ⟨_, rfl⟩
    rw [hb8, hb9, hb10] at HST0
    rw [hb8, hb9, hb10]
    generalize beginM p = r0 at *
    haveI : Apart b8 b9 := ⟨by omega⟩
    haveI : Apart b8 b10 := ⟨by omega⟩
    haveI : Apart b9 b10 := ⟨by omega⟩
    haveI : Apart b10 b9 := ⟨by omega⟩
    have hb9w : w.heap.size ≤ b9 := by omega
    have hb10w : w.heap.size ≤ b10 := by omega
    have HNQ := run_neq_tr
    have HEQ := run_eql_tr
    clear hb8 hb9 hb10 hph hlo h89 h910 hT00 hft
    have HC0 := Lib.hid hc0
    clear hc0
    go_wp2
    go_loopw [11] (fun i wr => ∃ j : Nat, j ≤ z2.length ∧ i = .int .i64 j ∧ ∃ r T, Hid (GwSt w wr b8 b9 b10 p r T ∧ r.c = 0 ∧ (r.tl, r.tu, r.td) = T)) (fun i _ => z2.length - (intOf i).toNat)
    case atStart => exact ⟨0, Nat.zero_le _, rfl, _, _, Lib.hid ⟨HST0.out, HC0.out, HTR0.out⟩⟩
    case round =>
      clear HST0 HC0 HTR0
      obtain ⟨j, hj, rfl, r, T, HH⟩ := hrel
      obtain ⟨i8, i9, i10, hbt, hbw⟩ := HH.out.1
      haveI : LeSize w.heap.size wr := ⟨hbw.size⟩
      by_cases hlt : j < z2.length
      · have hcell : ∃ yb yoff, a2 = some ⟨yb, yoff, none⟩ ∧ yb < w.heap.size ∧ w.cell? ⟨yb, yoff + j, none⟩ = some (.int .i64 (z2.getD j 0)) := by
          obtain ⟨yb, yoff, e, hyb, hyc⟩ := HY.out.cell (by omega)
          exact ⟨yb, yoff, e, hyb, hyc j hlt⟩
        obtain ⟨yb, yoff, rfl, hyb, hcell⟩ := hcell
        haveI : LeSize (yb + 1) w := ⟨hyb⟩
        haveI : LeSize (yb + 1) wr := ⟨Nat.le_trans hyb hbw.size⟩
        generalize z2.getD j 0 = y at *
        have HCE : Hid (∀ wx, Below w.heap.size w wx → wx.cell? ⟨yb, yoff + j, none⟩ = some (.int .i64 y)) := Lib.hid fun wx hb => by rw [hb.cell (p := ⟨yb, yoff + j, none⟩) hyb]; exact hcell
        have hcw := HCE.out wr hbw
        clear hcell
        obtain ⟨m, hm⟩ : ∃ m, y % 3 = m := ⟨_, rfl⟩
        obtain ⟨long, hlong⟩ : ∃ l, (m == 1) = l := ⟨_, rfl⟩
        have HG0 := Lib.hid (gw_start (p := p) (long := long) HH.out.2.1 HH.out.2.2)
        have HST1 := Lib.hid (step_tl (k := ⟨true, false, false, false, false, false, false, false⟩) HPI.out hbt)
        clear HH
        go_upto_region 11 with (first | (refine l_lpr rfl rfl rfl ?_; go_simp) | (refine l_lrn rfl rfl rfl ?_; go_simp) | (go_at_call 17; refine (Up.run (pstepF_any _ _ ⟨true, false, false, false, false, false, false, false⟩ _ HPI.out (by assumption))).mono ?_; rintro e w' ⟨rfl, ust, rfl⟩) | (refine l_setRn rfl rfl rfl rfl ?_; go_simp))
        have j8 : IsBlk (putRn ust.w b9 (stepM p r ⟨true, false, false, false, false, false, false, false⟩)) b8 (PhR p) 24 := inferInstance
        have j9 : IsBlk (putRn ust.w b9 (stepM p r ⟨true, false, false, false, false, false, false, false⟩)) b9 (RnA (stepM p r ⟨true, false, false, false, false, false, false, false⟩)) 41 := inferInstance
        have j10 : IsBlk (putRn ust.w b9 (stepM p r ⟨true, false, false, false, false, false, false, false⟩)) b10 (TrA T) 39 := inferInstance
        have hb1 : Below w.heap.size w (putRn ust.w b9 (stepM p r ⟨true, false, false, false, false, false, false, false⟩)) := by (repeat' (first | (with_reducible exact Below.refl _ _) | (with_reducible assumption) | (with_reducible refine below_putRn ?_ ?_) | (with_reducible refine Below.setCell ?_ ?_ _) | (with_reducible refine Below.alloc ?_ ?_ _) | (with_reducible refine Below.drew ?_) | (with_reducible refine Up.base _ ?_ ?_) | (with_reducible exact LeSize.out) | exact LeSize.out | (with_reducible exact Nat.le_refl _) | omega | (simp; done) | (simp; omega)))
        generalize (putRn ust.w b9 (stepM p r ⟨true, false, false, false, false, false, false, false⟩)) = W1 at *
        generalize stepM p r ⟨true, false, false, false, false, false, false, false⟩ = r1 at *
        have HS1 : Hid (GwSt w W1 b8 b9 b10 p r1 T) := Lib.hid ⟨j8, j9, j10, HST1.out, hb1⟩
        have hcw1 := HCE.out W1 hb1
        clear i8 i9 i10 hbt hbw hcw
        haveI : LeSize w.heap.size W1 := ⟨hb1.size⟩
        haveI : LeSize (yb + 1) W1 := ⟨Nat.le_trans hyb hb1.size⟩
        go_upto_block 2 with (first | (go_at_call 10; refine (place_any _ _ _ (by omega) (by omega)).mono ?_; rintro e w' ⟨rfl, rfl⟩))
        clear j8 j9 j10 hb1 hcw1
        go_cut [] (fun wx => GwMid w b8 b9 b10 p long T wx)
        case first =>
          go_wp2
          go_loopw [13] (fun i wx => ∃ n : Nat, n ≤ 200 ∧ i = .int .i64 n ∧ ∃ r2, Hid (GwSt w wx b8 b9 b10 p r2 T ∧ GwIn p long T n r2)) (fun i _ => 200 - (intOf i).toNat)
          case atStart => exact ⟨0, by omega, rfl, _, Lib.hid ⟨HS1.out, HG0.out.1⟩⟩
          case round =>
            clear HS1 HG0
            obtain ⟨n, hn, rfl, r2, HH⟩ := hrel
            obtain ⟨i8, i9, i10, hbt, hbw⟩ := HH.out.1
            haveI : LeSize w.heap.size wr := ⟨hbw.size⟩
            haveI : LeSize (yb + 1) wr := ⟨Nat.le_trans hyb hbw.size⟩
            have hcw := HCE.out _ hbw
            by_cases hgo : n < 200 ∧ r2.d = false ∧ m < 2
            · obtain ⟨h1, h2, h3⟩ := hgo
              have HX := Lib.hid (gw_step HPI.out h1 h2 HH.out.2)
              have HST := Lib.hid (step_tl (k := ⟨false, false, long, false, true, false, false, false⟩) HPI.out hbt)
              clear HH
              go_wp2_with (first | (go_at_call 10; refine (place_any _ _ _ (by omega) (by omega)).mono ?_; rintro e w' ⟨rfl, rfl⟩) | (refine l_lpr rfl rfl rfl ?_; go_simp) | (refine l_lrn rfl rfl rfl ?_; go_simp) | (go_at_call 17; refine (Up.run (pstepF_any _ _ ⟨false, false, long, false, true, false, false, false⟩ _ HPI.out (by assumption))).mono ?_; rintro e w' ⟨rfl, ust, rfl⟩) | (refine l_setRn rfl rfl rfl rfl ?_; go_simp))
              go_roundw
              case rel => exact ⟨n + 1, by omega, by go_num, _, Lib.hid ⟨⟨inferInstance, inferInstance, inferInstance, HST.out, by (repeat' (first | (with_reducible exact Below.refl _ _) | (with_reducible assumption) | (with_reducible refine below_putRn ?_ ?_) | (with_reducible refine Below.setCell ?_ ?_ _) | (with_reducible refine Below.alloc ?_ ?_ _) | (with_reducible refine Below.drew ?_) | (with_reducible refine Up.base _ ?_ ?_) | (with_reducible exact LeSize.out) | exact LeSize.out | (with_reducible exact Nat.le_refl _) | omega | (simp; done) | (simp; omega)))⟩, HX.out⟩⟩
              case measure => simp [intOf]; omega
            · have HMD : Hid (GwMid w b8 b9 b10 p long T wr) := Lib.hid ⟨r2, n, HH.out⟩
              clear HH
              by_cases h1 : n < 200
              · cases h2 : r2.d
                · have h3 : ¬ m < 2 := fun h => hgo ⟨h1, h2, h⟩
                  clear hgo
                  go_wp2_with (go_at_call 10; refine (place_any _ _ _ (by omega) (by omega)).mono ?_; rintro e w' ⟨rfl, rfl⟩)
                  go_meet
                  exact HMD.out
                · clear hgo
                  go_wp2_with (go_at_call 10; refine (place_any _ _ _ (by omega) (by omega)).mono ?_; rintro e w' ⟨rfl, rfl⟩)
                  go_meet
                  exact HMD.out
              · obtain rfl : n = 200 := by omega
                clear hgo
                go_wp2_with (go_at_call 10; refine (place_any _ _ _ (by omega) (by omega)).mono ?_; rintro e w' ⟨rfl, rfl⟩)
                go_meet
                exact HMD.out
        case rest =>
          obtain ⟨r2, n, hs2, hg2⟩ := hcut
          obtain ⟨i8, i9, i10, hbt, hbw⟩ := hs2
          have h2c := hg2.c
          have HG2 := Lib.hid hg2
          have HTR : Hid (T = (r2.tl, r2.tu, r2.td)) := Lib.hid hg2.tr.symm
          clear hg2 HS1 HG0 HST1
          haveI : LeSize w.heap.size wc := ⟨hbw.size⟩
          go_upto_if 75 with fail
          go_cut [] (fun wx => GyMid w b8 b9 b10 p r2 wx)
          case first =>
            cases hd : r2.d
            · have HE : Hid (grT p r2 = T) := Lib.hid (by rw [HTR.out]; simp [grT, hd])
              go_wp2
              go_meet
              unfold GyMid
              rw [HE.out]
              exact ⟨i8, i9, i10, hbt, hbw⟩
            · have HE : Hid (grT p r2 = (grLim p.max p.top p.step T.1 T.2.1 T.2.2 r2.m, grUp T.2.1 r2.m, grDn T.2.2 r2.m)) := Lib.hid (by rw [HTR.out]; simp [grT, hd])
              have hdd := HG2.out.dd hd
              clear HG2
              go_upto_region 18 with (first | (refine l_lpr rfl rfl rfl ?_; go_simp) | (refine l_ltr rfl rfl rfl ?_; go_simp) | (go_at_call 19; refine (Up.run (rgrowF_any _ _ _ _ HPI.out)).mono ?_; rintro e w' ⟨rfl, ugr, rfl⟩) | (refine l_setTr rfl rfl rfl rfl ?_; go_simp))
              have hb3 : Below w.heap.size w (putTr ugr.w b10 (grLim p.max p.top p.step T.1 T.2.1 T.2.2 r2.m, grUp T.2.1 r2.m, grDn T.2.2 r2.m)) := below_putTr (by (repeat' (first | (with_reducible exact Below.refl _ _) | (with_reducible assumption) | (with_reducible refine below_putRn ?_ ?_) | (with_reducible refine Below.setCell ?_ ?_ _) | (with_reducible refine Below.alloc ?_ ?_ _) | (with_reducible refine Below.drew ?_) | (with_reducible refine Up.base _ ?_ ?_) | (with_reducible exact LeSize.out) | exact LeSize.out | (with_reducible exact Nat.le_refl _) | omega | (simp; done) | (simp; omega)))) hb10w
              have k8 : IsBlk (putTr ugr.w b10 (grLim p.max p.top p.step T.1 T.2.1 T.2.2 r2.m, grUp T.2.1 r2.m, grDn T.2.2 r2.m)) b8 (PhR p) 24 := inferInstance
              have k9 : IsBlk (putTr ugr.w b10 (grLim p.max p.top p.step T.1 T.2.1 T.2.2 r2.m, grUp T.2.1 r2.m, grDn T.2.2 r2.m)) b9 (RnA r2) 41 := inferInstance
              have k10 : IsBlk (putTr ugr.w b10 (grLim p.max p.top p.step T.1 T.2.1 T.2.2 r2.m, grUp T.2.1 r2.m, grDn T.2.2 r2.m)) b10 (TrA (grT p r2)) 39 := by rw [HE.out]; exact inferInstance
              generalize (putTr ugr.w b10 (grLim p.max p.top p.step T.1 T.2.1 T.2.2 r2.m, grUp T.2.1 r2.m, grDn T.2.2 r2.m)) = W2 at *
              have hl2 := hb3.size
              clear HE i8 i9 i10 hbw HTR
              haveI : LeSize w.heap.size W2 := ⟨hl2⟩
              cases hm2 : r2.m <;> cases long <;> by_cases hg : 0 < p.gap
              all_goals
                simp only [hm2, hg, decide_true, decide_false, Bool.and_true, Bool.and_false, Bool.true_and, Bool.false_and, Bool.true_eq_false, Bool.false_eq_true, false_or, true_or, reduceCtorEq] at hdd
                have hdd3 : ¬ (r2.t < limM p.max p.top r2.tl) ∨ True := by first | exact .inl (by omega) | exact .inr trivial
                rcases hdd3 with hdd3 | hdd3
                all_goals
                  (refine wp_region_up (by kernel_rfl) (by kernel_rfl) ?_; (repeat (first | (go_big_quiet_want; refine q_lpr rfl rfl ?_; simp only [Act.put, List.setIfInBounds_toArray, List.set_cons_succ, List.set_cons_zero]; go_big_quiet_on) | (go_big_quiet_want; refine q_lrtr rfl rfl ?_; simp only [Act.put, List.setIfInBounds_toArray, List.set_cons_succ, List.set_cons_zero]; go_big_quiet_on) | go_big_quiet_step ((first | (go_at_call 20; exact Up.calls (rlimitF_any _ _ _)) | fail)))); refine wpQuiet_nil ?_; rintro _ ⟨u, rfl⟩)
                  go_wp2
                  go_meet
                  unfold GyMid
                  exact ⟨inferInstance, inferInstance, inferInstance, hbt, by (repeat' (first | (with_reducible exact Below.refl _ _) | (with_reducible assumption) | (with_reducible refine Below.setCell ?_ ?_ _) | (with_reducible refine Below.alloc ?_ ?_ _) | (with_reducible refine Below.drew ?_) | (with_reducible refine Up.base _ ?_ ?_) | (with_reducible exact LeSize.out) | exact LeSize.out | exact Nat.le_add_right_of_le LeSize.out | exact Nat.le_add_right_of_le (Nat.le_add_right_of_le LeSize.out) | (with_reducible exact Nat.le_refl _) | (simp; done) | (simp; omega)))⟩
          case rest =>
            obtain ⟨i8, i9, i10, hbt, hbw⟩ := hcut
            haveI : LeSize w.heap.size wc := ⟨hbw.size⟩
            have HY3 := Lib.hid (gy_end (r := r2) hy1 h2c)
            have HST3 := Lib.hid (step_tl (k := ⟨false, true, false, false, false, false, false, false⟩) HPI.out hbt)
            clear HG2 HTR
            generalize grT p r2 = T2 at *
            go_upto_region 21 with (first | (refine l_lpr rfl rfl rfl ?_; go_simp) | (refine l_lrn rfl rfl rfl ?_; go_simp) | (go_at_call 17; refine (Up.run (pstepF_any _ _ ⟨false, true, false, false, false, false, false, false⟩ _ HPI.out (by assumption))).mono ?_; rintro e w' ⟨rfl, ust, rfl⟩) | (refine l_setRn rfl rfl rfl rfl ?_; go_simp))
            have j8 : IsBlk (putRn ust.w b9 (stepM p r2 ⟨false, true, false, false, false, false, false, false⟩)) b8 (PhR p) 24 := inferInstance
            have j9 : IsBlk (putRn ust.w b9 (stepM p r2 ⟨false, true, false, false, false, false, false, false⟩)) b9 (RnA (stepM p r2 ⟨false, true, false, false, false, false, false, false⟩)) 41 := inferInstance
            have j10 : IsBlk (putRn ust.w b9 (stepM p r2 ⟨false, true, false, false, false, false, false, false⟩)) b10 (TrA T2) 39 := inferInstance
            have hb1 : Below w.heap.size w (putRn ust.w b9 (stepM p r2 ⟨false, true, false, false, false, false, false, false⟩)) := by (repeat' (first | (with_reducible exact Below.refl _ _) | (with_reducible assumption) | (with_reducible refine below_putRn ?_ ?_) | (with_reducible refine Below.setCell ?_ ?_ _) | (with_reducible refine Below.alloc ?_ ?_ _) | (with_reducible refine Below.drew ?_) | (with_reducible refine Up.base _ ?_ ?_) | (with_reducible exact LeSize.out) | exact LeSize.out | (with_reducible exact Nat.le_refl _) | omega | (simp; done) | (simp; omega)))
            generalize (putRn ust.w b9 (stepM p r2 ⟨false, true, false, false, false, false, false, false⟩)) = W3 at *
            generalize stepM p r2 ⟨false, true, false, false, false, false, false, false⟩ = r3 at *
            clear i8 i9 i10 hbw
            have HS3 : Hid (GwSt w W3 b8 b9 b10 p r3 T2) := Lib.hid ⟨j8, j9, j10, HST3.out, hb1⟩
            have hnq3 : ∀ w', Sem.run Try.prog (binOp .neq 39 (.agg (TrA (r3.tl, r3.tu, r3.td))) (.agg (TrA T2))) w' = .ok (.bool false) w' := fun w' => by rw [HY3.out.tr]; exact run_neq_tr _ _
            go_wp2_with (first | (refine l_ltr rfl rfl rfl ?_; go_simp) | (refine l_lrtr rfl rfl rfl ?_; go_simp))
            clear j8 j9 j10 hb1 hnq3
            go_loopw [14] (fun i wx => ∃ n : Nat, n ≤ 40 ∧ i = .int .i64 n ∧ ∃ r4, Hid (GwSt w wx b8 b9 b10 p r4 T2 ∧ GyIn p T2 n r4)) (fun i _ => 40 - (intOf i).toNat)
            case atStart => exact ⟨0, by omega, rfl, _, Lib.hid ⟨HS3.out, HY3.out⟩⟩
            case round =>
              clear HS3 HY3 HST3
              obtain ⟨n, hn, rfl, r4, HH⟩ := hrel
              obtain ⟨i8, i9, i10, hbt, hbw⟩ := HH.out.1
              haveI : LeSize w.heap.size wr := ⟨hbw.size⟩
              by_cases hc4 : r4.c = 0
              · have HFIN : Hid (∃ r T, Hid (GwSt w wr b8 b9 b10 p r T ∧ r.c = 0 ∧ (r.tl, r.tu, r.td) = T)) := Lib.hid ⟨r4, T2, Lib.hid ⟨HH.out.1, hc4, HH.out.2.tr⟩⟩
                clear HH
                have e1 : (r4.c != 0) = false := by simp [hc4]
                clear hc4
                by_cases h1 : n < 40
                all_goals
                  go_wp2
                  go_roundw
                  case rel => exact ⟨j + 1, by omega, by go_num, HFIN.out⟩
                  case measure => simp [intOf]; omega
              · by_cases h1 : n < 40
                · have HX := Lib.hid (gy_step HPI.out hc4 HH.out.2)
                  have HST := Lib.hid (step_tl (k := ⟨false, false, false, false, false, false, false, false⟩) HPI.out hbt)
                  have e1 : (r4.c != 0) = true := by simp [hc4]
                  clear HH hc4
                  go_wp2_with (first | (refine l_lpr rfl rfl rfl ?_; go_simp) | (refine l_lrn rfl rfl rfl ?_; go_simp) | (go_at_call 17; refine (Up.run (pstepF_any _ _ ⟨false, false, false, false, false, false, false, false⟩ _ HPI.out (by assumption))).mono ?_; rintro e w' ⟨rfl, ust, rfl⟩) | (refine l_setRn rfl rfl rfl rfl ?_; go_simp))
                  go_roundw
                  case rel => exact ⟨n + 1, by omega, by go_num, _, Lib.hid ⟨⟨inferInstance, inferInstance, inferInstance, HST.out, by (repeat' (first | (with_reducible exact Below.refl _ _) | (with_reducible assumption) | (with_reducible refine below_putRn ?_ ?_) | (with_reducible refine Below.setCell ?_ ?_ _) | (with_reducible refine Below.alloc ?_ ?_ _) | (with_reducible refine Below.drew ?_) | (with_reducible refine Up.base _ ?_ ?_) | (with_reducible exact LeSize.out) | exact LeSize.out | (with_reducible exact Nat.le_refl _) | omega | (simp; done) | (simp; omega)))⟩, HX.out⟩⟩
                  case measure => simp [intOf]; omega
                · exact absurd (gy_red HPI.out (by omega) HH.out.2) hc4
      · obtain rfl : j = z2.length := by omega
        have heq3 : ∀ w', Sem.run Try.prog (binOp .eql 39 (.agg (TrA (r.tl, r.tu, r.td))) (.agg (TrA T))) w' = .ok (.bool true) w' := fun w' => by rw [HH.out.2.2]; exact run_eql_tr _ _
        clear HH
        go_wp2_with (first | (refine l_ltr rfl rfl rfl ?_; go_simp) | (refine l_lrtr rfl rfl rfl ?_; go_simp) | (go_at_call 11; refine (Up.run (awake18_any _)).mono ?_; rintro e w' ⟨rfl, u, rfl⟩))
        go_returns
        exact ⟨rfl, by (repeat' (first | (with_reducible exact Below.refl _ _) | (with_reducible assumption) | (with_reducible refine Below.setCell ?_ ?_ _) | (with_reducible refine Below.alloc ?_ ?_ _) | (with_reducible refine Below.drew ?_) | (with_reducible refine Up.base _ ?_ ?_) | (with_reducible exact LeSize.out) | exact LeSize.out | exact Nat.le_add_right_of_le LeSize.out | exact Nat.le_add_right_of_le (Nat.le_add_right_of_le LeSize.out) | (with_reducible exact Nat.le_refl _) | (simp; done) | (simp; omega)))⟩
  · have HON : Hid (p.on = true → 40 < z2.length) := Lib.hid fun h => by by_cases hl : z2.length ≤ 40; exact absurd ⟨hl, h⟩ hgo; omega
    clear hgo
    go_enter Try.func7, Try.ntmps7
    go_upto_region 2 with (first | (go_at_call 9; refine (ltable_up _ _ _ _ HZL.out (HZ.out _ (by (repeat' (first | (with_reducible exact Below.refl _ _) | (with_reducible assumption) | (with_reducible refine Below.setCell ?_ ?_ _) | (with_reducible refine Below.alloc ?_ ?_ _) | (with_reducible refine Below.drew ?_) | (with_reducible refine Up.base _ ?_ ?_) | (with_reducible exact LeSize.out) | exact LeSize.out | exact Nat.le_add_right_of_le LeSize.out | exact Nat.le_add_right_of_le (Nat.le_add_right_of_le LeSize.out) | (with_reducible exact Nat.le_refl _) | (simp; done) | (simp; omega)))))).mono ?_; rintro e w' ⟨T, uT, rfl, rfl, hT⟩) | (refine l_newTab rfl rfl rfl rfl inferInstance hT rfl ?_; go_simp))
    haveI hph := HPH.out _ _ hT
    haveI : Sz131 T := ⟨hT.size⟩
    clear hT HPH
    rcases Bool.eq_false_or_eq_true p.on with hon | hon
    · have hlen2 := HON.out hon
      go_wp2_with (first | (go_at_call 10; refine (place_any _ _ _ (by omega) (by omega)).mono ?_; rintro e w' ⟨rfl, rfl⟩) | (refine l_phA rfl rfl rfl ?_; go_simp) | (refine l_newPr rfl rfl rfl rfl inferInstance rfl ?_; go_simp) | (go_at_call 11; refine (Up.run (awake18_any _)).mono ?_; rintro e w' ⟨rfl, u, rfl⟩))
      go_returns
      exact ⟨rfl, by (repeat' (first | (with_reducible exact Below.refl _ _) | (with_reducible assumption) | (with_reducible refine Below.setCell ?_ ?_ _) | (with_reducible refine Below.alloc ?_ ?_ _) | (with_reducible refine Below.drew ?_) | (with_reducible refine Up.base _ ?_ ?_) | (with_reducible exact LeSize.out) | exact LeSize.out | exact Nat.le_add_right_of_le LeSize.out | exact Nat.le_add_right_of_le (Nat.le_add_right_of_le LeSize.out) | (with_reducible exact Nat.le_refl _) | (simp; done) | (simp; omega)))⟩
    · go_wp2_with (first | (go_at_call 10; refine (place_any _ _ _ (by omega) (by omega)).mono ?_; rintro e w' ⟨rfl, rfl⟩) | (refine l_phA rfl rfl rfl ?_; go_simp) | (refine l_newPr rfl rfl rfl rfl inferInstance rfl ?_; go_simp) | (go_at_call 11; refine (Up.run (awake18_any _)).mono ?_; rintro e w' ⟨rfl, u, rfl⟩))
      go_returns
      exact ⟨rfl, by (repeat' (first | (with_reducible exact Below.refl _ _) | (with_reducible assumption) | (with_reducible refine Below.setCell ?_ ?_ _) | (with_reducible refine Below.alloc ?_ ?_ _) | (with_reducible refine Below.drew ?_) | (with_reducible refine Up.base _ ?_ ?_) | (with_reducible exact LeSize.out) | exact LeSize.out | exact Nat.le_add_right_of_le LeSize.out | exact Nat.le_add_right_of_le (Nat.le_add_right_of_le LeSize.out) | (with_reducible exact Nat.le_refl _) | (simp; done) | (simp; omega)))⟩
set_option maxRecDepth 100000 in
theorem PhaseGrows_lifted (os : Os) (started : os.Started) (H : Type) (enc : TypeId × Value → H) :
    ReturnsInHanded {} Try.checked os 7 .any (Rows.phaseGrowsSpec.pre6 enc Try.prog Try.f7 Rows.phaseGrowsRow.domain false) (Rows.phaseGrowsSpec.post enc Try.prog Try.f7 false true false false) := by
  refine returnsInHanded_of_change (C := Try.checked) own started (by kernel_rfl) Try.func7
    (ChangeSpec.witness6 (enc := enc) (C := Try.checked) false ⟨#[], #[.slice none 0 0, .int .i64 0, .slice none 0 0], []⟩ 8 (by kernel_rfl) (by kernel_rfl) (by kernel_rfl) (by kernel_rfl)) ?_
  intro W base args ds gs before hval0 hW hcnd _
  have hval : ∀ (j : Nat) t v, Try.f7.params[j]? = some t → args[j]? = some v → Value.okWide Try.prog W .any base t v := hval0
  have hW' := hW
  obtain ⟨p, q, hA0, hV, rfl, hfz, hnd⟩ := hW
  have hA : DataW.TrodAll enc Try.prog W 0 (fun _ => true) true Try.f7.params.toList args.toList ds p := hA0
  rw [Try.params7] at hA hval
  obtain ⟨v0, vs0, d0, ds0, p0, q0, hargs, rfl, rfl, h0, r0⟩ := trodAll_cons hA
  obtain ⟨v1, vs1, d1, ds1, p1, q1, rfl, rfl, rfl, h1, r1⟩ := trodAll_cons r0
  obtain ⟨v2, vs2, d2, ds2, p2, q2, rfl, rfl, rfl, h2, r2⟩ := trodAll_cons r1
  obtain ⟨rfl, rfl, rfl⟩ := trodAll_nil r2
  obtain rfl : args = #[v0, v1, v2] := by cases args; simp_all
  obtain ⟨rfl, rfl⟩ := trodVars_none hV
  have k0 := h0
  have lt0 : ∀ x ∈ p0, x.block < W.heap.size := by obtain ⟨m, hm⟩ := k0; exact DataW.trod_lt m _ _ _ hm
  have k1 := h1
  have lt1 : ∀ x ∈ p1, x.block < W.heap.size := by obtain ⟨m, hm⟩ := k1; exact DataW.trod_lt m _ _ _ hm
  have k2 := h2
  have lt2 : ∀ x ∈ p2, x.block < W.heap.size := by obtain ⟨m, hm⟩ := k2; exact DataW.trod_lt m _ _ _ hm
  obtain ⟨a0, cap0, z0, rfl, hl0, hm0, hh0, hr0, iz0⟩ := open_ints1 Try.underlying22 Try.underlying3 (by kernel_rfl) (hval 0 22 v0 rfl rfl) k0
  obtain ⟨a1, rfl, w1⟩ := open_int1 Try.underlying3 (hval 1 3 v1 rfl rfl)
  obtain ⟨a2, cap2, z2, rfl, hl2, hm2, hh2, hr2, iz2⟩ := open_ints1 Try.underlying22 Try.underlying3 (by kernel_rfl) (hval 2 22 v2 rfl rfl) k2
  clear hA0 hval0
  refine (phaseGrows_walk a0 cap0 z0 a1 a2 cap2 z2 W ⟨hl0, hm0⟩ hh0 hr0 iz0 w1 ⟨hl2, hm2⟩ hh2 hr2 iz2).mono fun e W' ⟨he, bel⟩ => ?_
  subst he
  exact ⟨_, rfl, _, _, _, [], _, [], hW', trodAll_mk1 (shut_bool Try.underlying4 _), (trodAll_cons_mk (Below.trod laidOut (by kernel_rfl) (of_decide_eq_true (by kernel_rfl)) k0 bel lt0) (trodAll_cons_mk (Below.trod laidOut (by kernel_rfl) (of_decide_eq_true (by kernel_rfl)) k1 bel lt1) (trodAll_cons_mk (Below.trod laidOut (by kernel_rfl) (of_decide_eq_true (by kernel_rfl)) k2 bel lt2) trodAll_mk0))), rfl, bel.frame _, fun h => by cases h⟩

theorem PhaseGrows_over : Rows.phaseGrowsRow.holds Try.pinned (OpenSpec.ofChange Rows.phaseGrowsSpec) :=
  OpenClaim.holds_of_wide 7 Try.f7 rfl rfl rfl rfl rfl rfl rfl ⟨rfl, rfl, rfl, rfl, rfl⟩ rfl rfl rfl rfl rfl (by kernel_rfl) Try.func7 (by kernel_rfl)
    (of_decide_eq_true (by kernel_rfl)) (by unfold Func.isWrapper; first | (rw [if_pos (by decide +kernel)]; kernel_rfl) | (rw [if_neg (by decide +kernel)]; exact ⟨rfl, rfl⟩))
    (fun os started H enc _ => PhaseGrows_lifted os started H enc)

/-- The given statement. -/
theorem PhaseGrows_holds : Rows.PhaseGrowsSaid := PhaseGrows_over
#print axioms PhaseGrows_holds
end Go.Proofs.Ytmapdkhcfejkaaa
