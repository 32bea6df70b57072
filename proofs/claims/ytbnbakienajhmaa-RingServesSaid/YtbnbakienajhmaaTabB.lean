/- The contracts of the reference's Where, Beside, On. -/
import Derived.Test.YtbnbakienajhmaaTabA
import Derived.Test.YtbnbakienajhmaaFree
import Derived.Test.YtbnbakienajhmaaSetW
namespace Go.Proofs.Ytbnbakienajhmaa
open Go.RowKit
set_option linter.unusedVariables false

/-- An array of 131 cells. -/
class Sz131 (C : Array Value) : Prop where
  out : C.size = 131
theorem load_tab {w : World} {b : Nat} {C : Array Value} {t : TypeId} [h : IsBlk w b C t] [hz : Sz131 C] : Sem.run Try.prog (Instr.loadAt 32 (.pointer (some ⟨b, 0, none⟩))) w = .ok (.agg C) w := by
  have e : ((C.extract 0 (0 + 131)).toList).length = 131 := by have := hz.out; simp; omega
  have := run_loadAt_mid (P := Try.prog) w b 0 32 (C.extract 0 (0 + 131)).toList _ (World.rangeAt_of_block h.out 0 131) Try.underlying32 rfl (by rw [e]; exact info_tab)
  rwa [Array.toArray_toList, show C.extract 0 (0 + 131) = C by rw [Nat.zero_add, ← hz.out]; exact Array.extract_size] at this
theorem q_ltab {W : World} {K : Act → Prop} {op : Oper} {a : Act} {x : Operand} {b : Nat} {C : Array Value} {t : TypeId} [hz : Sz131 C] (ho : op.op = .load 32 x) (hx : a.eval x = .pointer (some ⟨b, 0, none⟩)) [h : IsBlk W b C t]
    (hk : K (a.put op.dst (.agg C))) : op.quiet Try.prog a (fun w' => ∃ u : Up W, w' = u.w) K := quiet_load_at ho hx (fun u => load_tab) hk
theorem z_ltab {W : World} {Z : World → Prop} {K : Act → Prop} {op : Oper} {a : Act} {x : Operand} {b : Nat} {C : Array Value} {t : TypeId} [hz : Sz131 C] (ho : op.op = .load 32 x) (hx : a.eval x = .pointer (some ⟨b, 0, none⟩)) [h : IsBlk W b C t]
    (hk : K (a.put op.dst (.agg C))) : op.quiet Try.prog a (fun w' => ∃ u : UpZ W Z, w' = u.up.w) K := quiet_load_z ho hx (fun u => load_tab) hk
theorem l_ltab {ops : Array Oper} {rest : List Oper} {op : Oper} {a : Act} {w : World} {Q : Exit → Act → World → Prop} {x : Operand} {b : Nat} {C : Array Value} {t : TypeId} [hz : Sz131 C] (hgd : op.guard = none) (ho : op.op = .load 32 x) (hx : a.eval x = .pointer (some ⟨b, 0, none⟩)) [h : IsBlk w b C t]
    (hk : wpList Try.prog ops Q rest (a.put op.dst (.agg C)) w) : wpList Try.prog ops Q (op :: rest) a w := wpList_load_at hgd ho hx load_tab hk
theorem y_ltab {ops : Array Oper} {S : World → Prop} {op : Oper} {a : Act} {x : Operand} {b : Nat} {C : Array Value} {t : TypeId} [hz : Sz131 C] (hw : Region.wanted op (yielded ops a.tmps) = true) (ho : op.op = .load 32 x) (hx : a.eval x = .pointer (some ⟨b, 0, none⟩)) (hS : ∀ w, S w → IsBlk w b C t) :
    YieldsIf Try.prog ops S op (.agg C) a := yieldsIf_load_at hw ho hx (fun w hs => by haveI := hS w hs; exact load_tab)
def whereM (gr : List (List Int × List Int)) (p : Int) : Option Spot := (spotsM gr).find? fun s => s.p == p
def spA : Option Spot → Array Value
  | some s => #[.int .i64 s.g, .int .i64 s.k, .int .i64 s.i, .int .i64 s.p]
  | none => #[.int .i64 0, .int .i64 0, .int .i64 0, .int .i64 0]
theorem find_take {α : Type} {p : α → Bool} {xs : List α} {k : Nat} (h : ∀ j, j < k → ∀ x, xs[j]? = some x → p x = false) (hk : xs.length ≤ k) : xs.find? p = none := by
  rw [List.find?_eq_none]
  intro x hx
  obtain ⟨j, hj, hjx⟩ := List.getElem_of_mem hx
  have := h j (by omega) x (by rw [List.getElem?_eq_getElem hj, hjx])
  simp [this]
theorem find_at {α : Type} {p : α → Bool} : ∀ {xs : List α} {k : Nat} {x : α}, (∀ j, j < k → ∀ y, xs[j]? = some y → p y = false) → xs[k]? = some x → p x = true → xs.find? p = some x
  | [], k, x, _, hx, _ => by simp at hx
  | y :: ys, 0, x, _, hx, hp => by simp at hx; subst hx; simp [List.find?, hp]
  | y :: ys, k + 1, x, h, hx, hp => by
    have h0 := h 0 (by omega) y rfl
    rw [List.find?_cons, h0]
    exact find_at (k := k) (fun j hj z hz => h (j + 1) (by omega) z (by simpa using hz)) (by simpa using hx) hp
attribute [local go_sem] IsBlk.cell IsBlk.frozen
set_option maxHeartbeats 8000000 in
set_option maxRecDepth 100000 in
theorem where_any (T : Array Value) (t : Tab) (p : Int) (w : World) (hT : IsTab w T t) :
    Calls Try.prog 34 #[.agg T, .int .i64 p] w fun e w' => e = .returned (.tuple #[.agg (spA (whereM t.gr p)), .bool (whereM t.gr p).isSome]) ∧ Below w.heap.size w w' := by
  haveI : Sz131 T := ⟨hT.size⟩
  have HT : Hid (∀ w', Below w.heap.size w w' → IsTab w' T t) := Lib.hid fun w' hb => hT.below hb (Nat.le_refl _)
  have HL : Hid ((spotsM t.gr).length ≤ 1000) := Lib.hid (by
    obtain ⟨g, d, r, b, _, hI⟩ := hT
    have := spG_length hI.lr t.gr.length
    have := hI.lg
    unfold spotsM; omega)
  clear hT
  generalize hL : whereM t.gr p = o
  have HO := Lib.hid hL
  clear hL
  go_enter Try.func34, Try.ntmps34
  go_wp2_with (first | (refine l_ltab rfl rfl rfl ?_; go_simp) | (go_at_call 60; refine (spots_any _ _ _ (HT.out _ (by (repeat' (first | (with_reducible exact Below.refl _ _) | (with_reducible assumption) | (with_reducible refine Below.setCell ?_ ?_ _) | (with_reducible refine Below.alloc ?_ ?_ _) | (with_reducible refine Below.drew ?_) | (with_reducible refine Up.base _ ?_ ?_) | (with_reducible exact LeSize.out) | exact LeSize.out | exact Nat.le_add_right_of_le LeSize.out | exact Nat.le_add_right_of_le (Nat.le_add_right_of_le LeSize.out) | (with_reducible exact Nat.le_refl _) | (simp; done) | (simp; omega)))))).mono ?_; rintro e w' ⟨vsp, rfl, hsp, hbsp⟩))
  obtain ⟨xs, hxs⟩ : ∃ xs, spotsM t.gr = xs := ⟨_, rfl⟩
  rw [hxs] at hsp HL
  have HXS := Lib.hid hxs
  clear hxs
  obtain ⟨sa, scap, rfl, _, _, _, hrow⟩ := OwnK.opened spotC_len hsp
  have hR := Lib.hid hrow
  have hlen := HL.out
  have i0 : IsBlk w' (w.heap.size + 1) #[.int .i64 0, .int .i64 0, .int .i64 0, .int .i64 0] 87 := ⟨by rw [hbsp.block _ (by simp)]; exact (inferInstance : IsBlk _ _ _ _).out⟩
  have hbel : Below w.heap.size w w' := (by (repeat' (first | (with_reducible exact Below.refl _ _) | (with_reducible assumption) | (with_reducible refine Below.setCell ?_ ?_ _) | (with_reducible refine Below.alloc ?_ ?_ _) | (with_reducible refine Below.drew ?_) | (with_reducible refine Up.base _ ?_ ?_) | (with_reducible exact LeSize.out) | exact LeSize.out | exact Nat.le_add_right_of_le LeSize.out | exact Nat.le_add_right_of_le (Nat.le_add_right_of_le LeSize.out) | (with_reducible exact Nat.le_refl _) | (simp; done) | (simp; omega))) : Below w.heap.size w ((w.alloc (.cells T 32)).alloc (.cells #[.int .i64 0, .int .i64 0, .int .i64 0, .int .i64 0] 87))).trans (hbsp.mono (by simp; omega))
  clear hrow hsp hbsp HT HL
  go_loop [7] (fun i => ∃ k : Nat, k ≤ xs.length ∧ i = .int .i64 k ∧ ∀ j, j < k → ∀ x, xs[j]? = some x → (x.p == p) = false) (fun i => xs.length - (intOf i).toNat)
  case atStart => exact ⟨0, Nat.zero_le _, rfl, fun j hj => absurd hj (by omega)⟩
  case round =>
    obtain ⟨k, hk, rfl, hno⟩ := hrel
    have HN := Lib.hid hno
    clear hno
    by_cases hlt : k < xs.length
    · obtain ⟨b, off, rfl, hbl, hc⟩ := hR.out.resolve_left (by omega)
      obtain ⟨x, hx⟩ : ∃ x, xs[k]? = some x := ⟨_, List.getElem?_eq_getElem hlt⟩
      have c0 := hc k hlt 0 (by omega)
      have c1 := hc k hlt 1 (by omega)
      have c2 := hc k hlt 2 (by omega)
      have c3 := hc k hlt 3 (by omega)
      simp only [hx, Option.bind_some, spotC, List.getElem?_cons_zero, List.getElem?_cons_succ, Option.getD_some, Nat.add_zero] at c0 c1 c2 c3
      have HX := Lib.hid hx
      clear hc hx
      cases hp : (x.p == p)
      · have HP := Lib.hid hp
        go_wp2
        go_round
        case rel => exact ⟨k + 1, by omega, by go_num, fun j hj y hy => by
          by_cases hjk : j = k
          · subst hjk; have := HX.out; rw [this] at hy; cases hy; exact HP.out
          · exact HN.out j (by omega) y hy⟩
        case measure => simp [intOf]; omega
      · have HO2 : Hid (o = some x) := Lib.hid (by rw [← HO.out]; unfold whereM; rw [HXS.out]; exact find_at HN.out HX.out hp)
        go_wp2
        go_returns
        exact ⟨by rw [HO2.out]; rfl, by (repeat' (first | (with_reducible exact Below.refl _ _) | (with_reducible assumption) | (with_reducible refine Below.setCell ?_ ?_ _) | (with_reducible refine Below.alloc ?_ ?_ _) | (with_reducible refine Below.drew ?_) | (with_reducible refine Up.base _ ?_ ?_) | (with_reducible exact LeSize.out) | exact LeSize.out | exact Nat.le_add_right_of_le LeSize.out | exact Nat.le_add_right_of_le (Nat.le_add_right_of_le LeSize.out) | (with_reducible exact Nat.le_refl _) | (simp; done) | (simp; omega)))⟩
    · have HO2 : Hid (o = none) := Lib.hid (by rw [← HO.out]; unfold whereM; rw [HXS.out]; exact find_take HN.out (by omega))
      go_wp2
      go_returns
      exact ⟨by rw [HO2.out]; rfl, by (repeat' (first | (with_reducible exact Below.refl _ _) | (with_reducible assumption) | (with_reducible refine Below.setCell ?_ ?_ _) | (with_reducible refine Below.alloc ?_ ?_ _) | (with_reducible refine Below.drew ?_) | (with_reducible refine Up.base _ ?_ ?_) | (with_reducible exact LeSize.out) | exact LeSize.out | exact Nat.le_add_right_of_le LeSize.out | exact Nat.le_add_right_of_le (Nat.le_add_right_of_le LeSize.out) | (with_reducible exact Nat.le_refl _) | (simp; done) | (simp; omega)))⟩

/-! ### Beside -/
def besideM (gr : List (List Int × List Int)) (p q : Int) : Bool :=
  match whereM gr p, whereM gr q with
  | some a, some b => ((a.g : Int) == (b.g : Int)) && ((a.k : Int) != (b.k : Int))
  | _, _ => false
set_option maxHeartbeats 8000000 in
set_option maxRecDepth 100000 in
theorem beside_any (T : Array Value) (t : Tab) (p q : Int) (w : World) (hT : IsTab w T t) :
    Calls Try.prog 17 #[.agg T, .int .i64 p, .int .i64 q] w fun e w' => e = .returned (.bool (besideM t.gr p q)) ∧ Below w.heap.size w w' := by
  haveI : Sz131 T := ⟨hT.size⟩
  have HT : Hid (∀ w', Below w.heap.size w w' → IsTab w' T t) := Lib.hid fun w' hb => hT.below hb (Nat.le_refl _)
  clear hT
  have HQ : ∀ w', IsTab w' T t → ∀ p, Calls Try.prog 34 #[.agg T, .int .i64 p] w' fun e w'' => e = .returned (.tuple #[.agg (spA (whereM t.gr p)), .bool (whereM t.gr p).isSome]) ∧ Below w'.heap.size w' w'' := fun w' h p => where_any T t p w' h
  unfold besideM
  generalize whereM t.gr = F at *
  have HP := Lib.hid (fun w' h => HQ w' h p)
  have HQ := Lib.hid (fun w' h => HQ w' h q)
  generalize F p = a at *
  generalize F q = b at *
  cases a <;> cases b
  all_goals
    have HP1 := HP.out
    have HQ1 := HQ.out
    simp only [spA, Option.isSome] at HP1 HQ1
    replace HP := Lib.hid HP1
    replace HQ := Lib.hid HQ1
    clear HP1 HQ1
    go_enter Try.func17, Try.ntmps17
    go_wp2_with (first | (refine l_ltab rfl rfl rfl ?_; go_simp) | (go_at_call 34; refine (Up.run (HP.out _ (HT.out _ (by (repeat' (first | (with_reducible exact Below.refl _ _) | (with_reducible assumption) | (with_reducible refine Below.setCell ?_ ?_ _) | (with_reducible refine Below.alloc ?_ ?_ _) | (with_reducible refine Below.drew ?_) | (with_reducible refine Up.base _ ?_ ?_) | (with_reducible exact LeSize.out) | exact LeSize.out | exact Nat.le_add_right_of_le LeSize.out | exact Nat.le_add_right_of_le (Nat.le_add_right_of_le LeSize.out) | (with_reducible exact Nat.le_refl _) | (simp; done) | (simp; omega))))))).mono ?_; clear HP; rintro e w' ⟨rfl, uw, rfl⟩) | (go_at_call 34; refine (Up.run (HQ.out _ (HT.out _ (by (repeat' (first | (with_reducible exact Below.refl _ _) | (with_reducible assumption) | (with_reducible refine Below.setCell ?_ ?_ _) | (with_reducible refine Below.alloc ?_ ?_ _) | (with_reducible refine Below.drew ?_) | (with_reducible refine Up.base _ ?_ ?_) | (with_reducible exact LeSize.out) | exact LeSize.out | exact Nat.le_add_right_of_le LeSize.out | exact Nat.le_add_right_of_le (Nat.le_add_right_of_le LeSize.out) | (with_reducible exact Nat.le_refl _) | (simp; done) | (simp; omega))))))).mono ?_; rintro e w' ⟨rfl, uw2, rfl⟩))
  all_goals
    go_ret
    first
      | exact ⟨rfl, by (repeat' (first | (with_reducible exact Below.refl _ _) | (with_reducible assumption) | (with_reducible refine Below.setCell ?_ ?_ _) | (with_reducible refine Below.alloc ?_ ?_ _) | (with_reducible refine Below.drew ?_) | (with_reducible refine Up.base _ ?_ ?_) | (with_reducible exact LeSize.out) | exact LeSize.out | exact Nat.le_add_right_of_le LeSize.out | exact Nat.le_add_right_of_le (Nat.le_add_right_of_le LeSize.out) | (with_reducible exact Nat.le_refl _) | (simp; done) | (simp; omega)))⟩
      | (refine ⟨ret_bool ?_, by (repeat' (first | (with_reducible exact Below.refl _ _) | (with_reducible assumption) | (with_reducible refine Below.setCell ?_ ?_ _) | (with_reducible refine Below.alloc ?_ ?_ _) | (with_reducible refine Below.drew ?_) | (with_reducible refine Up.base _ ?_ ?_) | (with_reducible exact LeSize.out) | exact LeSize.out | exact Nat.le_add_right_of_le LeSize.out | exact Nat.le_add_right_of_le (Nat.le_add_right_of_le LeSize.out) | (with_reducible exact Nat.le_refl _) | (simp; done) | (simp; omega)))⟩; simp [*])
/-! ### On -/
def onL (t : Tab) (n : Nat) : List Int := ((List.range n).filter fun p => (t.ph p).on).map fun p : Nat => (p : Int)
def onM (t : Tab) : Int := ofM (onL t 8)
theorem onL_succ (t : Tab) (n : Nat) : onL t (n + 1) = onL t n ++ (if (t.ph n).on then [(n : Int)] else []) := by
  unfold onL
  rw [List.range_succ, List.filter_append, List.map_append]
  cases h : (t.ph n).on <;> simp [h]
theorem onL_length (t : Tab) (n : Nat) : (onL t n).length ≤ n := by
  unfold onL; rw [List.length_map]; have := List.length_filter_le (fun p => (t.ph p).on) (List.range n); simpa using this
set_option maxHeartbeats 8000000 in
set_option maxRecDepth 100000 in
theorem ron_any (T : Array Value) (t : Tab) (w : World) (hT : IsTab w T t) :
    Calls Try.prog 21 #[.agg T] w fun e w' => e = .returned (.int .i64 (onM t)) ∧ Below w.heap.size w w' := by
  have HP : Hid (∀ p, p < 8 → T[p * 13]? = some (.bool (t.ph p).on)) := Lib.hid fun p hp => hT.phx p 0 _ hp (by omega) rfl
  clear hT
  go_enter Try.func21, Try.ntmps21
  go_wp2
  go_loopw [3, 4] (fun l i wr => ∃ k : Nat, k ≤ 8 ∧ i = .int .i64 k ∧ OwnInts wr (w.heap.size + 1) l (onL t k) ∧ Below (w.heap.size + 1) (w.alloc (.cells T 32)) wr) (fun _ i _ => 8 - (intOf i).toNat)
  case atStart => exact ⟨0, Nat.zero_le _, rfl, OwnInts.nil _ _, Below.refl _ _⟩
  case round =>
    obtain ⟨k, hk, rfl, hown, hb⟩ := hrel
    have hB := hb.size
    rw [World.size_alloc] at hB
    have iB : IsBlk wr w.heap.size T 32 := ⟨by rw [hb.block _ (by omega)]; exact heap_alloc_here _ _⟩
    have hlen := onL_length t k
    have hbw : Below w.heap.size w wr := ((Below.refl w.heap.size w).alloc (Nat.le_refl _) (.cells T 32)).trans (hb.mono (by omega))
    by_cases hlt : k < 8
    · have hkI : (k : Int) < 8 := by omega
      have tp := HP.out k hlt
      have HS := Lib.hid (onL_succ t k)
      generalize (t.ph k).on = x at *
      cases x
      · go_wp2
        go_roundw
        case rel => exact ⟨k + 1, by omega, by go_num, by rw [HS.out]; simpa using hown, hb⟩
        case measure => simp [intOf]; omega
      · go_wp2_with (at_builtin; refine wpList_app_int rfl _ _ rfl (w.heap.size + 1) rfl (hown.alloc _) (b := wr.heap.size) (y := (k : Int)) rfl (by simp) (by omega) (by simp; omega) ?_; intro v' w1 hown' hg)
        go_roundw
        case rel => exact ⟨k + 1, by omega, by go_num, by rw [HS.out]; simpa using hown', hown.grown hb hB (Nat.le_refl _) hg⟩
        case measure => simp [intOf]; omega
    · obtain rfl : k = 8 := by omega
      obtain ⟨a, cap, rfl, hi⟩ := hown.opened
      go_wp2_with (go_at_call 51; refine (rof_any _ _ _ _ (by omega) hi).mono ?_; rintro e w' ⟨rfl, rfl⟩)
      go_ret
      exact ⟨rfl, hbw⟩
end Go.Proofs.Ytbnbakienajhmaa
