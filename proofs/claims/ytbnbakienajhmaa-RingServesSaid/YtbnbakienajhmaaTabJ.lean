/- The contracts of the reference's bounds: Free. -/
import Derived.Test.YtbnbakienajhmaaTabI
namespace Go.Proofs.Ytbnbakienajhmaa
open Go.RowKit
set_option linter.unusedVariables false
attribute [local go_sem] IsBlk.cell IsBlk.frozen

theorem wpList_load_want {ops : Array Oper} {rest : List Oper} {op : Oper} {a : Act} {w : World} {Q : Exit → Act → World → Prop} {x : Operand} {ty : TypeId} {b o : Nat} {v : Value} (hw : Region.wanted op (yielded ops a.tmps) = true) (ho : op.op = .load ty x) (hx : a.eval x = .pointer (some ⟨b, o, none⟩))
    (hrun : Sem.run Try.prog (Instr.loadAt ty (.pointer (some ⟨b, o, none⟩))) w = .ok v w) (h : wpList Try.prog ops Q rest (a.put op.dst v) w) : wpList Try.prog ops Q (op :: rest) a w := by
  refine wpList_step fun K hK => ?_
  simp only [hw, if_true]
  unfold Oper.wp execOp
  simp only [ho, hx]
  generalize Instr.loadAt ty (Value.pointer (some ⟨b, o, none⟩)) = L at hrun ⊢
  simp [go_sem, hrun]
  exact hK _ _ h
/-- A load of the whole table behind a guard. -/
theorem g_ltab {ops : Array Oper} {rest : List Oper} {op : Oper} {a : Act} {w : World} {Q : Exit → Act → World → Prop} {x : Operand} {b : Nat} {C : Array Value} {t : TypeId} (hw : Region.wanted op (yielded ops a.tmps) = true) (ho : op.op = .load 32 x) (hx : a.eval x = .pointer (some ⟨b, 0, none⟩)) [h : IsBlk w b C t] [hz : Sz131 C]
    (hk : wpList Try.prog ops Q rest (a.put op.dst (.agg C)) w) : wpList Try.prog ops Q (op :: rest) a w := wpList_load_want hw ho hx load_tab hk
def fpL (t : Tab) (n : Nat) : List Int := (List.range n).map fun g : Nat => passZ t (g : Int)
theorem fpL_succ (t : Tab) (n : Nat) : fpL t (n + 1) = fpL t n ++ [passZ t (n : Int)] := by unfold fpL; rw [List.range_succ, List.map_append]; rfl
theorem fpL_len (t : Tab) (n : Nat) : (fpL t n).length = n := by simp [fpL]
def freeZ (t : Tab) (p : Int) : Int := match whereM t.gr p with | none => 0 | some x => if hasM (onM t) p then sumZ (passZ t x.g :: fpL t t.gr.length) else 0
set_option maxHeartbeats 8000000 in
set_option maxRecDepth 100000 in
theorem rfree_any (T : Array Value) (t : Tab) (p : Int) (w : World) (hT : IsTab w T t) :
    Calls Try.prog 24 #[.agg T, .int .i64 p] w fun e w' => e = .returned (.int .i64 (freeZ t p)) ∧ Below w.heap.size w w' := by
  haveI : Sz131 T := ⟨hT.size⟩
  have HT : Hid (∀ w', Below w.heap.size w w' → IsTab w' T t) := Lib.hid fun w' hb => hT.below hb (Nat.le_refl _)
  obtain ⟨ga, gcap, t104, hlg⟩ : ∃ ga gcap, T[104]? = some (.slice ga t.gr.length gcap) ∧ t.gr.length ≤ 8 := by
    obtain ⟨g, d, r, b, hTe, hI⟩ := hT
    obtain ⟨ga, gcap, H, rfl, _, _⟩ := hI.gr
    exact ⟨ga, gcap, by rw [hTe, arrF_get _ _ _ (by omega)]; rfl, hI.lg⟩
  clear hT
  have HW : ∀ w', IsTab w' T t → Calls Try.prog 34 #[.agg T, .int .i64 p] w' fun e w'' => e = .returned (.tuple #[.agg (spA (whereM t.gr p)), .bool (whereM t.gr p).isSome]) ∧ Below w'.heap.size w' w'' := fun w' h => where_any T t p w' h
  cases hw : whereM t.gr p with
  | none =>
    rw [show freeZ t p = 0 by simp [freeZ, hw]]
    rw [hw] at HW
    simp only [spA, Option.isSome] at HW
    have HW := Lib.hid HW
    go_enter Try.func24, Try.ntmps24
    go_wp2_with (first | (refine l_ltab rfl rfl rfl ?_; go_simp) | (go_at_call 34; refine (Up.run (HW.out _ (HT.out _ (by (repeat' (first | (with_reducible exact Below.refl _ _) | (with_reducible assumption) | (with_reducible refine Below.setCell ?_ ?_ _) | (with_reducible refine Below.alloc ?_ ?_ _) | (with_reducible refine Below.drew ?_) | (with_reducible refine Up.base _ ?_ ?_) | (with_reducible exact LeSize.out) | exact LeSize.out | exact Nat.le_add_right_of_le LeSize.out | exact Nat.le_add_right_of_le (Nat.le_add_right_of_le LeSize.out) | (with_reducible exact Nat.le_refl _) | (simp; done) | (simp; omega))))))).mono ?_; rintro e w' ⟨rfl, uw, rfl⟩))
    go_ret
    exact ⟨rfl, by (repeat' (first | (with_reducible exact Below.refl _ _) | (with_reducible assumption) | (with_reducible refine Below.setCell ?_ ?_ _) | (with_reducible refine Below.alloc ?_ ?_ _) | (with_reducible refine Below.drew ?_) | (with_reducible refine Up.base _ ?_ ?_) | (with_reducible exact LeSize.out) | exact LeSize.out | exact Nat.le_add_right_of_le LeSize.out | exact Nat.le_add_right_of_le (Nat.le_add_right_of_le LeSize.out) | (with_reducible exact Nat.le_refl _) | (simp; done) | (simp; omega)))⟩
  | some x =>
    rw [hw] at HW
    simp only [spA, Option.isSome] at HW
    have HW := Lib.hid HW
    cases hh : hasM (onM t) p
    · rw [show freeZ t p = 0 by simp [freeZ, hw, hh]]
      clear hw
      go_enter Try.func24, Try.ntmps24
      go_wp2_with (first | (refine l_ltab rfl rfl rfl ?_; go_simp) | (refine g_ltab rfl rfl rfl ?_; go_simp) | (go_at_call 21; refine (Up.run (ron_any _ _ _ (HT.out _ (by (repeat' (first | (with_reducible exact Below.refl _ _) | (with_reducible assumption) | (with_reducible refine Below.setCell ?_ ?_ _) | (with_reducible refine Below.alloc ?_ ?_ _) | (with_reducible refine Below.drew ?_) | (with_reducible refine Up.base _ ?_ ?_) | (with_reducible exact LeSize.out) | exact LeSize.out | exact Nat.le_add_right_of_le LeSize.out | exact Nat.le_add_right_of_le (Nat.le_add_right_of_le LeSize.out) | (with_reducible exact Nat.le_refl _) | (simp; done) | (simp; omega))))))).mono ?_; rintro e w' ⟨rfl, uo, rfl⟩) | (go_at_call 14; refine (rhas_any _ _ _).mono ?_; rintro e w' ⟨rfl, rfl⟩) | (go_at_call 34; refine (Up.run (HW.out _ (HT.out _ (by (repeat' (first | (with_reducible exact Below.refl _ _) | (with_reducible assumption) | (with_reducible refine Below.setCell ?_ ?_ _) | (with_reducible refine Below.alloc ?_ ?_ _) | (with_reducible refine Below.drew ?_) | (with_reducible refine Up.base _ ?_ ?_) | (with_reducible exact LeSize.out) | exact LeSize.out | exact Nat.le_add_right_of_le LeSize.out | exact Nat.le_add_right_of_le (Nat.le_add_right_of_le LeSize.out) | (with_reducible exact Nat.le_refl _) | (simp; done) | (simp; omega))))))).mono ?_; rintro e w' ⟨rfl, uw, rfl⟩))
      go_ret
      exact ⟨rfl, by (repeat' (first | (with_reducible exact Below.refl _ _) | (with_reducible assumption) | (with_reducible refine Below.setCell ?_ ?_ _) | (with_reducible refine Below.alloc ?_ ?_ _) | (with_reducible refine Below.drew ?_) | (with_reducible refine Up.base _ ?_ ?_) | (with_reducible exact LeSize.out) | exact LeSize.out | exact Nat.le_add_right_of_le LeSize.out | exact Nat.le_add_right_of_le (Nat.le_add_right_of_le LeSize.out) | (with_reducible exact Nat.le_refl _) | (simp; done) | (simp; omega)))⟩
    · obtain ⟨R, hR⟩ : ∃ R, freeZ t p = R := ⟨_, rfl⟩
      have HR := Lib.hid (show sumZ (passZ t x.g :: fpL t t.gr.length) = R by rw [← hR]; simp [freeZ, hw, hh])
      rw [hR]
      clear hR hw
      obtain ⟨P0, hP0⟩ : ∃ P0, passZ t x.g = P0 := ⟨_, rfl⟩
      have HPA : Hid (∀ w', Below w.heap.size w w' → ∀ g, Calls Try.prog 52 #[.agg T, .int .i64 g] w' fun e w'' => e = .returned (.int .i64 (passZ t g)) ∧ Below w'.heap.size w' w'') := Lib.hid fun w' h g => rpass_any T t g w' (HT.out _ h)
      have HP0 : Hid (∀ w', Below w.heap.size w w' → Calls Try.prog 52 #[.agg T, .int .i64 x.g] w' fun e w'' => e = .returned (.int .i64 P0) ∧ Below w'.heap.size w' w'') := Lib.hid fun w' h => by rw [← hP0]; exact HPA.out w' h x.g
      rw [hP0] at HR
      clear hP0
      go_enter Try.func24, Try.ntmps24
      go_wp2_with (first | (refine l_ltab rfl rfl rfl ?_; go_simp) | (refine g_ltab rfl rfl rfl ?_; go_simp) | (go_at_call 21; refine (Up.run (ron_any _ _ _ (HT.out _ (by (repeat' (first | (with_reducible exact Below.refl _ _) | (with_reducible assumption) | (with_reducible refine Below.setCell ?_ ?_ _) | (with_reducible refine Below.alloc ?_ ?_ _) | (with_reducible refine Below.drew ?_) | (with_reducible refine Up.base _ ?_ ?_) | (with_reducible exact LeSize.out) | exact LeSize.out | exact Nat.le_add_right_of_le LeSize.out | exact Nat.le_add_right_of_le (Nat.le_add_right_of_le LeSize.out) | (with_reducible exact Nat.le_refl _) | (simp; done) | (simp; omega))))))).mono ?_; rintro e w' ⟨rfl, uo, rfl⟩) | (go_at_call 14; refine (rhas_any _ _ _).mono ?_; rintro e w' ⟨rfl, rfl⟩) | (go_at_call 34; refine (Up.run (HW.out _ (HT.out _ (by (repeat' (first | (with_reducible exact Below.refl _ _) | (with_reducible assumption) | (with_reducible refine Below.setCell ?_ ?_ _) | (with_reducible refine Below.alloc ?_ ?_ _) | (with_reducible refine Below.drew ?_) | (with_reducible refine Up.base _ ?_ ?_) | (with_reducible exact LeSize.out) | exact LeSize.out | exact Nat.le_add_right_of_le LeSize.out | exact Nat.le_add_right_of_le (Nat.le_add_right_of_le LeSize.out) | (with_reducible exact Nat.le_refl _) | (simp; done) | (simp; omega))))))).mono ?_; rintro e w' ⟨rfl, uw, rfl⟩) | (go_at_call 52; refine (Up.run (HP0.out _ (by (repeat' (first | (with_reducible exact Below.refl _ _) | (with_reducible assumption) | (with_reducible refine Below.setCell ?_ ?_ _) | (with_reducible refine Below.alloc ?_ ?_ _) | (with_reducible refine Below.drew ?_) | (with_reducible refine Up.base _ ?_ ?_) | (with_reducible exact LeSize.out) | exact LeSize.out | exact Nat.le_add_right_of_le LeSize.out | exact Nat.le_add_right_of_le (Nat.le_add_right_of_le LeSize.out) | (with_reducible exact Nat.le_refl _) | (simp; done) | (simp; omega)))))).mono ?_; rintro e w' ⟨rfl, up, rfl⟩))
      go_loopw [7, 8] (fun l i wr => ∃ k : Nat, k ≤ t.gr.length ∧ i = .int .i64 k ∧ OwnInts wr (w.heap.size + 1) l (P0 :: fpL t k) ∧ Below (w.heap.size + 1) (w.alloc (.cells T 32)) wr) (fun _ i _ => t.gr.length - (intOf i).toNat)
      case atStart => exact ⟨0, Nat.zero_le _, rfl, OwnInts.one (heap_alloc_here _ _) LeSize.out, by (repeat' (first | (with_reducible exact Below.refl _ _) | (with_reducible assumption) | (with_reducible refine Below.setCell ?_ ?_ _) | (with_reducible refine Below.alloc ?_ ?_ _) | (with_reducible refine Below.drew ?_) | (with_reducible refine Up.base _ ?_ ?_) | (with_reducible exact LeSize.out) | exact LeSize.out | exact Nat.le_add_right_of_le LeSize.out | exact Nat.le_add_right_of_le (Nat.le_add_right_of_le LeSize.out) | (with_reducible exact Nat.le_refl _) | (simp; done) | (simp; omega)))⟩
      case round =>
        clear HP0 HW
        obtain ⟨k, hk, rfl, hown, hb⟩ := hrel
        obtain ⟨ur, rfl⟩ : ∃ ur : Up (w.alloc (.cells T 32)), wr = ur.w := ⟨⟨wr, hb.mono (by simp)⟩, rfl⟩
        have hpl := fpL_len t k
        have hfl : (P0 :: fpL t k).length ≤ 1000000 := by simp; omega
        by_cases hlt : k < t.gr.length
        · obtain ⟨S, hS⟩ : ∃ S, passZ t (k : Int) = S := ⟨_, rfl⟩
          have HS : Hid (∀ w', Below w.heap.size w w' → Calls Try.prog 52 #[.agg T, .int .i64 k] w' fun e w'' => e = .returned (.int .i64 S) ∧ Below w'.heap.size w' w'') := Lib.hid fun w' h => by rw [← hS]; exact HPA.out w' h k
          have hct := fpL_succ t k
          rw [hS] at hct
          have HCT := Lib.hid hct
          clear hct hS HPA
          obtain ⟨la, ll, lc, rfl⟩ := hown.slice
          go_wp2_with (first | (refine l_ltab rfl rfl rfl ?_; go_simp) | (go_at_call 52; refine (Up.run (HS.out _ (by (repeat' (first | (with_reducible exact Below.refl _ _) | (with_reducible assumption) | (with_reducible refine Below.setCell ?_ ?_ _) | (with_reducible refine Below.alloc ?_ ?_ _) | (with_reducible refine Below.drew ?_) | (with_reducible refine Up.base _ ?_ ?_) | (with_reducible exact LeSize.out) | exact LeSize.out | exact Nat.le_add_right_of_le LeSize.out | exact Nat.le_add_right_of_le (Nat.le_add_right_of_le LeSize.out) | (with_reducible exact Nat.le_refl _) | (simp; done) | (simp; omega)))))).mono ?_; rintro e w' ⟨rfl, use, rfl⟩) | (at_builtin; have o3 := Lib.hid (hown.below (show Below ur.w.heap.size ur.w (use.w.alloc (.cells #[.int .i64 S] 3)) by (repeat' (first | (with_reducible exact Below.refl _ _) | (with_reducible assumption) | (with_reducible refine Below.setCell ?_ ?_ _) | (with_reducible refine Below.alloc ?_ ?_ _) | (with_reducible refine Below.drew ?_) | (with_reducible refine Up.base _ ?_ ?_) | (with_reducible exact LeSize.out) | exact LeSize.out | exact Nat.le_add_right_of_le LeSize.out | exact Nat.le_add_right_of_le (Nat.le_add_right_of_le LeSize.out) | (with_reducible exact Nat.le_refl _) | (simp; done) | (simp; omega))))); have hb3 := Lib.hid (hb.trans (show Below (w.heap.size + 1) ur.w (use.w.alloc (.cells #[.int .i64 S] 3)) by (repeat' (first | (with_reducible exact Below.refl _ _) | (with_reducible assumption) | (with_reducible refine Below.setCell ?_ ?_ _) | (with_reducible refine Below.alloc ?_ ?_ _) | (with_reducible refine Below.drew ?_) | (with_reducible refine Up.base _ ?_ ?_) | (with_reducible exact LeSize.out) | exact LeSize.out | exact Nat.le_add_right_of_le LeSize.out | exact Nat.le_add_right_of_le (Nat.le_add_right_of_le LeSize.out) | (with_reducible exact Nat.le_refl _) | (simp; done) | (simp; omega))))); refine wpList_app_int rfl _ _ rfl (w.heap.size + 1) rfl o3.out (b := use.w.heap.size) (y := S) rfl (by simp) hfl (by have := hb3.out.size; simp only [World.size_alloc] at this ⊢; exact this) ?_; intro v' w1 hown' hg))
          have hb4 := o3.out.grown0 hb3.out (by have := hb3.out.size; simp only [World.size_alloc] at this ⊢; exact this) (Nat.le_refl _) hg
          clear hg
          go_roundw
          case rel => exact ⟨k + 1, by omega, by go_num, by rw [HCT.out]; exact hown', hb4⟩
          case measure => simp [intOf]; omega
        · obtain rfl : k = t.gr.length := by omega
          obtain ⟨a, cap, rfl, hi⟩ := hown.opened
          have hzl : (P0 :: fpL t t.gr.length).length ≤ 1000 := by simp; omega
          generalize P0 :: fpL t t.gr.length = zs at *
          go_wp2_with (go_at_call 53; refine (vsum_any _ _ _ _ hzl hi).mono ?_; rintro e w' ⟨rfl, rfl⟩)
          go_ret
          exact ⟨ret_int HR.out, by (repeat' (first | (with_reducible exact Below.refl _ _) | (with_reducible assumption) | (with_reducible refine Below.setCell ?_ ?_ _) | (with_reducible refine Below.alloc ?_ ?_ _) | (with_reducible refine Below.drew ?_) | (with_reducible refine Up.base _ ?_ ?_) | (with_reducible exact LeSize.out) | exact LeSize.out | exact Nat.le_add_right_of_le LeSize.out | exact Nat.le_add_right_of_le (Nat.le_add_right_of_le LeSize.out) | (with_reducible exact Nat.le_refl _) | (simp; done) | (simp; omega)))⟩
end Go.Proofs.Ytbnbakienajhmaa
