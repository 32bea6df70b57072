/- A table by numbers, as a call hands it back; its phases. -/
import Derived.Test.YtbnbakienajhmaaTabQ
namespace Go.Proofs.Ytbnbakienajhmaa
open Go.RowKit
set_option linter.unusedVariables false

/-! ### Tables -/
/-- The table that numbers give, as a call hands it back. -/
theorem ltable_up (a : Option Addr) (cap : Nat) (zs : List Int) (w : World) (hl : zs.length ≤ 9223372036854775807) (hz : Ints w a zs) :
    Calls Try.prog 7 #[.slice a zs.length cap] w fun e w' => ∃ T, ∃ u : Up w, e = .returned (.agg T) ∧ w' = u.w ∧ IsTab u.w T (tabM zs) := by
  refine (ltable_any a cap zs w hl hz).mono ?_
  rintro e w' ⟨T, rfl, hT, hb⟩
  exact ⟨T, ⟨w', hb⟩, rfl, rfl, hT⟩
theorem tab_ph (zs : List Int) (k : Nat) : ((tabM zs).ph k).on = true ∧ PhOk ((tabM zs).ph k) ∨ (tabM zs).ph k = ph0 := by
  show (ph1 zs (rowsM zs).1 k).on = true ∧ PhOk (ph1 zs (rowsM zs).1 k) ∨ ph1 zs (rowsM zs).1 k = ph0
  unfold ph1
  split
  · exact .inl ⟨rfl, phM_ok zs _⟩
  · exact .inr rfl
/-- What every phase of a table keeps. -/
structure PhIn (p : Phs) : Prop where
  min : 0 ≤ p.min ∧ p.min ≤ 12
  gap : 0 ≤ p.gap ∧ p.gap ≤ 8
  max : 0 ≤ p.max ∧ p.max ≤ 36 ∧ p.min ≤ p.max
  top : p.max ≤ p.top ∧ p.top ≤ 50
  step : 0 ≤ p.step ∧ p.step ≤ 6
  yel : 0 ≤ p.yel ∧ p.yel ≤ 13
  red : 0 ≤ p.red ∧ p.red ≤ 4
  walk : 0 ≤ p.walk ∧ p.walk ≤ 10
  blinks : 0 ≤ p.blinks ∧ p.blinks ≤ 10
theorem tab_phIn (zs : List Int) (k : Nat) : PhIn ((tabM zs).ph k) := by
  rcases tab_ph zs k with ⟨_, h⟩ | h
  · obtain ⟨h1, h2, h3, h4, h5, h6, h7, h8, h9, h10⟩ := h
    exact ⟨by omega, by omega, by omega, by omega, by omega, by omega, by omega, by omega, by omega⟩
  · rw [h]; exact ⟨by decide, by decide, by decide, by decide, by decide, by decide, by decide, by decide, by decide⟩

theorem IsTab.one {w : World} {T : Array Value} {t : Tab} (h : IsTab w T t) : T.all (·.oneCell') = true := by
  obtain ⟨g, d, r, b, rfl, hI⟩ := h
  obtain ⟨_, _, _, rfl, _⟩ := hI.gr
  obtain ⟨_, _, rfl, _⟩ := hI.de
  obtain ⟨_, _, rfl, _⟩ := hI.ra
  obtain ⟨_, _, rfl, _⟩ := hI.bu
  exact tab_one _ _ _ _ _ rfl rfl rfl rfl
set_option maxHeartbeats 400000 in
theorem place_big (v n : Int) (w : World) (hn : 1 ≤ n) (hn2 : n ≤ 4611686018427387904) :
    Calls Try.prog 22 #[.int .i64 v, .int .i64 n] w fun e w' => e = .returned (.int .i64 (v % n)) ∧ w = w' := by
  have hb := tmod_bd (v := v) hn
  have hne : (n == 0) = false := by simp; omega
  have H := Lib.hid (emod_tmod (v := v) hn)
  go_enter Try.func22, Try.ntmps22
  go_wp2
  all_goals
    go_ret
    exact ⟨ret_int (by rw [H.out]; simp [*]; try omega), rfl⟩
theorem sets_newT {w : World} {Z T : Array Value} {t : TypeId} (hs : T.size = Z.size) : (w.alloc (.cells Z t)).setCells w.heap.size 0 T.toList = w.alloc (.cells T t) := by
  have key : ∀ (vs : List Value) (C : Array Value) (o : Nat), (w.alloc (.cells C t)).setCells w.heap.size o vs = w.alloc (.cells (spl C o vs) t) := by
    intro vs
    induction vs with
    | nil => intro C o; rfl
    | cons v vs ih =>
      intro C o
      rw [World.setCells, spl, ← ih]
      congr 1
      exact World.setCell_alloc_at _ _ _ _ _ rfl
  rw [key, spl_all hs]
theorem wpList_store_newT {ops : Array Oper} {rest : List Oper} {op : Oper} {a : Act} {w : World} {Q : Exit → Act → World → Prop} (ty : TypeId) {x y : Operand} {Z T : Array Value} {t : TypeId} {b : Nat} (hgd : op.guard = none) (ho : op.op = .store ty x y) (hx : a.eval x = .pointer (some ⟨b, 0, none⟩)) (hy : a.eval y = .agg T)
    (hb : SizeIs b w) (hs : T.size = Z.size) (hi : (Try.prog.info? ty).map (·.size) = some T.size) (h1 : T.all (·.oneCell') = true)
    (h : wpList Try.prog ops Q rest (a.put op.dst undef) (w.alloc (.cells T t))) : wpList Try.prog ops Q (op :: rest) a (w.alloc (.cells Z t)) := by
  have hb := hb.out
  subst hb
  refine wpList_store_part (o := 0) (C := Z) (t := t) ty hgd ho hx hy (by omega) hi h1 ?_
  rw [sets_newT hs]
  exact h
/-- A table's variable is filled. -/
theorem l_newTab {ops : Array Oper} {rest : List Oper} {op : Oper} {a : Act} {w w0 : World} {Q : Exit → Act → World → Prop} {x y : Operand} {Z T : Array Value} {t : TypeId} {b : Nat} {tb : Tab} (hgd : op.guard = none) (ho : op.op = .store 32 x y) (hx : a.eval x = .pointer (some ⟨b, 0, none⟩)) (hy : a.eval y = .agg T)
    (hb : SizeIs b w) (hT : IsTab w0 T tb) (hs : 131 = Z.size)
    (h : wpList Try.prog ops Q rest (a.put op.dst undef) (w.alloc (.cells T t))) : wpList Try.prog ops Q (op :: rest) a (w.alloc (.cells Z t)) :=
  wpList_store_newT 32 hgd ho hx hy hb (by rw [hT.size]; exact hs) (by rw [hT.size]; exact info_tab) hT.one h
/-! ### A phase held whole, its cells spelled -/
def PrR (p : Phs) : Array Value := #[.bool p.on, .int .i64 p.min, .int .i64 p.gap, .int .i64 p.max, .int .i64 p.top, .int .i64 p.step, .int .i64 p.yel, .int .i64 p.red, .int .i64 p.walk, .int .i64 p.blinks, .int .i64 p.recl, .bool p.lock, .bool p.rest]
class IsPq (C : Array Value) (p : outParam Phs) : Prop where
  out : C = PrR p
instance (p : Phs) : IsPq (PrR p) p := ⟨rfl⟩
instance (p : Phs) : IsPq #[.bool p.on, .int .i64 p.min, .int .i64 p.gap, .int .i64 p.max, .int .i64 p.top, .int .i64 p.step, .int .i64 p.yel, .int .i64 p.red, .int .i64 p.walk, .int .i64 p.blinks, .int .i64 p.recl, .bool p.lock, .bool p.rest] p := ⟨rfl⟩
theorem load_pq {w : World} {b : Nat} {C : Array Value} {t : TypeId} {p : Phs} [h : IsBlk w b C t] [hr : IsPq C p] : Sem.run Try.prog (Instr.loadAt 24 (.pointer (some ⟨b, 0, none⟩))) w = .ok (.agg #[.bool p.on, .int .i64 p.min, .int .i64 p.gap, .int .i64 p.max, .int .i64 p.top, .int .i64 p.step, .int .i64 p.yel, .int .i64 p.red, .int .i64 p.walk, .int .i64 p.blinks, .int .i64 p.recl, .bool p.lock, .bool p.rest]) w := by
  have := run_loadAt_mid (P := Try.prog) w b 0 24 (PrR p).toList _ (blk_range h.out 0 _ fun j hj => by rw [hr.out]; simp) Try.underlying24 rfl (by kernel_rfl)
  exact this
theorem q_lpq {W : World} {K : Act → Prop} {op : Oper} {a : Act} {x : Operand} {b : Nat} {C : Array Value} {t : TypeId} {p : Phs} [hr : IsPq C p] (ho : op.op = .load 24 x) (hx : a.eval x = .pointer (some ⟨b, 0, none⟩)) [h : IsBlk W b C t]
    (hk : K (a.put op.dst (.agg #[.bool p.on, .int .i64 p.min, .int .i64 p.gap, .int .i64 p.max, .int .i64 p.top, .int .i64 p.step, .int .i64 p.yel, .int .i64 p.red, .int .i64 p.walk, .int .i64 p.blinks, .int .i64 p.recl, .bool p.lock, .bool p.rest]))) : op.quiet Try.prog a (fun w' => ∃ u : Up W, w' = u.w) K := quiet_load_at ho hx (fun u => load_pq) hk
theorem z_lpq {W : World} {Z : World → Prop} {K : Act → Prop} {op : Oper} {a : Act} {x : Operand} {b : Nat} {C : Array Value} {t : TypeId} {p : Phs} [hr : IsPq C p] (ho : op.op = .load 24 x) (hx : a.eval x = .pointer (some ⟨b, 0, none⟩)) [h : IsBlk W b C t]
    (hk : K (a.put op.dst (.agg #[.bool p.on, .int .i64 p.min, .int .i64 p.gap, .int .i64 p.max, .int .i64 p.top, .int .i64 p.step, .int .i64 p.yel, .int .i64 p.red, .int .i64 p.walk, .int .i64 p.blinks, .int .i64 p.recl, .bool p.lock, .bool p.rest]))) : op.quiet Try.prog a (fun w' => ∃ u : UpZ W Z, w' = u.up.w) K := quiet_load_z ho hx (fun u => load_pq) hk
theorem l_lpq {ops : Array Oper} {rest : List Oper} {op : Oper} {a : Act} {w : World} {Q : Exit → Act → World → Prop} {x : Operand} {b : Nat} {C : Array Value} {t : TypeId} {p : Phs} [hr : IsPq C p] (hgd : op.guard = none) (ho : op.op = .load 24 x) (hx : a.eval x = .pointer (some ⟨b, 0, none⟩)) [h : IsBlk w b C t]
    (hk : wpList Try.prog ops Q rest (a.put op.dst (.agg #[.bool p.on, .int .i64 p.min, .int .i64 p.gap, .int .i64 p.max, .int .i64 p.top, .int .i64 p.step, .int .i64 p.yel, .int .i64 p.red, .int .i64 p.walk, .int .i64 p.blinks, .int .i64 p.recl, .bool p.lock, .bool p.rest])) w) : wpList Try.prog ops Q (op :: rest) a w := wpList_load_at hgd ho hx load_pq hk
theorem y_lpq {ops : Array Oper} {S : World → Prop} {op : Oper} {a : Act} {x : Operand} {b : Nat} {C : Array Value} {t : TypeId} {p : Phs} [hr : IsPq C p] (hw : Region.wanted op (yielded ops a.tmps) = true) (ho : op.op = .load 24 x) (hx : a.eval x = .pointer (some ⟨b, 0, none⟩)) (hS : ∀ w, S w → IsBlk w b C t) :
    YieldsIf Try.prog ops S op (.agg #[.bool p.on, .int .i64 p.min, .int .i64 p.gap, .int .i64 p.max, .int .i64 p.top, .int .i64 p.step, .int .i64 p.yel, .int .i64 p.red, .int .i64 p.walk, .int .i64 p.blinks, .int .i64 p.recl, .bool p.lock, .bool p.rest]) a := yieldsIf_load_at hw ho hx (fun w hs => by haveI := hS w hs; exact load_pq)
end Go.Proofs.Ytbnbakienajhmaa
