/- The contract of detect's Here. -/
import Derived.Test.YteohpfelgaffoaaDetB
namespace Go.Proofs.Yteohpfelgaffoaa
open Go.RowKit
set_option linter.unusedVariables false
attribute [local go_sem] IsBlk.cell IsBlk.frozen

def det0 : Det := ⟨0, 0, 0, 0, 0, 0, 0⟩
def callB (d : Det) (c : Ch) : Bool := c.out || decide (3 ≤ c.bad) || wt_stuckM d.mon d.mof c.won c.wof
/-- For whom the first n channels call. -/
def hereN (de : List Det) (cs : List Ch) : Nat → Int
  | 0 => 0
  | n + 1 => if callB (de.getD n ⟨0, 0, 0, 0, 0, 0, 0⟩) (cs.getD n ch0) then withM (hereN de cs n) (de.getD n ⟨0, 0, 0, 0, 0, 0, 0⟩).ph else hereN de cs n
set_option maxHeartbeats 8000000 in
set_option maxRecDepth 100000 in
theorem here_de (T : Array Value) (de : List Det) (a : Option Addr) (cap : Nat) (cs : List Ch) (w : World) (hT : IsDe w T de) (hcs : Chs w a cs) (hcl : cs.length ≤ 1000) :
    Calls Try.prog 13 #[.agg T, .slice a cs.length cap] w fun e w' => e = .returned (.int .i64 (hereN de cs (min cs.length de.length))) ∧ Below w.heap.size w w' := by
  obtain ⟨da, dcap, t113, hrow, ld⟩ := hT
  have HR := Lib.hid hrow
  have HC := Lib.hid hcs
  clear hrow hcs
  go_enter Try.func13, Try.ntmps13
  go_wp2
  go_loopw [5, 11] (fun s i wr => ∃ n : Nat, n ≤ cs.length ∧ n ≤ de.length ∧ i = .int .i64 n ∧ s = .int .i64 (hereN de cs n) ∧ Below w.heap.size w wr ∧ IsBlk wr w.heap.size T 34) (fun _ i _ => cs.length - (intOf i).toNat)
  case atStart => exact ⟨0, Nat.zero_le _, Nat.zero_le _, rfl, rfl, by (repeat' (first | (with_reducible exact Below.refl _ _) | (with_reducible assumption) | (with_reducible refine Below.setCell ?_ ?_ _) | (with_reducible refine Below.alloc ?_ ?_ _) | (with_reducible refine Below.drew ?_) | (with_reducible refine Up.base _ ?_ ?_) | (with_reducible exact LeSize.out) | exact LeSize.out | exact Nat.le_add_right_of_le LeSize.out | exact Nat.le_add_right_of_le (Nat.le_add_right_of_le LeSize.out) | (with_reducible exact Nat.le_refl _) | (simp; done) | (simp; omega))), inferInstance⟩
  case round =>
    obtain ⟨n, hn, hnd, rfl, rfl, hbw, iB⟩ := hrel
    haveI : LeSize w.heap.size wr := ⟨hbw.size⟩
    have lB := iB.le
    by_cases hlc : n < cs.length
    · obtain ⟨cb, coff, rfl, hcb, hcc⟩ := HC.out.cells hlc
      haveI : LeSize (cb + 1) wr := ⟨Nat.le_trans hcb hbw.size⟩
      have hc : ∀ j, j < 7 → wr.cell? ⟨cb, coff + n * 7 + j, none⟩ = some (((chC (cs.getD n ch0))[j]?).getD undef) := fun j hj => by
        rw [hbw.cell (p := ⟨cb, coff + n * 7 + j, none⟩) hcb]; exact hcc j hj
      have e0 := hc 0 (by omega)
      have e1 := hc 1 (by omega)
      have e2 := hc 2 (by omega)
      have e3 := hc 3 (by omega)
      have e4 := hc 4 (by omega)
      have e5 := hc 5 (by omega)
      have e6 := hc 6 (by omega)
      by_cases hld : n < de.length
      · obtain ⟨db, doff, rfl, hdb, hdc⟩ := det_cells HR.out hld
        haveI : LeSize (db + 1) wr := ⟨Nat.le_trans hdb hbw.size⟩
        have hd : ∀ j, j < 7 → wr.cell? ⟨db, doff + n * 7 + j, none⟩ = some (((detC (de.getD n ⟨0, 0, 0, 0, 0, 0, 0⟩))[j]?).getD undef) := fun j hj => by
          rw [hbw.cell (p := ⟨db, doff + n * 7 + j, none⟩) hdb]; exact hdc j hj
        have c0 := hd 0 (by omega)
        have c1 := hd 1 (by omega)
        have c2 := hd 2 (by omega)
        have c3 := hd 3 (by omega)
        have c4 := hd 4 (by omega)
        have c5 := hd 5 (by omega)
        have c6 := hd 6 (by omega)
        have HS : Hid (hereN de cs (n + 1) = if callB (de.getD n ⟨0, 0, 0, 0, 0, 0, 0⟩) (cs.getD n ch0) then withM (hereN de cs n) (de.getD n ⟨0, 0, 0, 0, 0, 0, 0⟩).ph else hereN de cs n) := Lib.hid rfl
        generalize de.getD n ⟨0, 0, 0, 0, 0, 0, 0⟩ = d at *
        generalize cs.getD n ch0 = c at *
        simp only [detC, chC, Nat.add_zero, List.getElem?_cons_zero, List.getElem?_cons_succ, Option.getD_some] at c0 c1 c2 c3 c4 c5 c6 e0 e1 e2 e3 e4 e5 e6
        generalize hereN de cs n = s0 at *
        clear hd hdc hc hcc
        cases ho : c.out <;> cases hf : decide (3 ≤ c.bad) <;> cases hk : wt_stuckM d.mon d.mof c.won c.wof
        all_goals
          have HX : Hid (hereN de cs (n + 1) = _) := Lib.hid (HS.out.trans (by unfold callB; rw [ho, hf, hk]))
          have HO := Lib.hid ho
          go_wp2_with (first | (go_at_call 35; refine (Up.run (lv_failed_any _ _ _)).mono ?_; rintro e w' ⟨rfl, u, rfl⟩) | (go_at_call 36; refine (Up.run (wt_stuck_any _ _ _ _ _)).mono ?_; rintro e w' ⟨rfl, u, rfl⟩) | (go_at_call 37; refine (swith_any _ _ _).mono ?_; rintro e w' ⟨rfl, rfl⟩))
          go_roundw
          case rel => exact ⟨n + 1, by omega, by omega, by go_num, by rw [HX.out]; rfl, by (repeat' (first | (with_reducible exact Below.refl _ _) | (with_reducible assumption) | (with_reducible refine Below.setCell ?_ ?_ _) | (with_reducible refine Below.alloc ?_ ?_ _) | (with_reducible refine Below.drew ?_) | (with_reducible refine Up.base _ ?_ ?_) | (with_reducible exact LeSize.out) | exact LeSize.out | exact Nat.le_add_right_of_le LeSize.out | exact Nat.le_add_right_of_le (Nat.le_add_right_of_le LeSize.out) | (with_reducible exact Nat.le_refl _) | (simp; done) | (simp; omega))), inferInstance⟩
          case measure => simp [intOf]; omega
      · have hnn : n = de.length := by omega
        have HM : Hid (min cs.length de.length = n) := Lib.hid (by omega)
        have hge : (de.length : Int) ≤ n := by omega
        generalize cs.getD n ch0 = c at *
        simp only [chC, Nat.add_zero, List.getElem?_cons_zero, List.getElem?_cons_succ, Option.getD_some] at e0 e1 e2 e3 e4 e5 e6
        clear hc hcc hnn
        go_wp2
        go_ret
        exact ⟨ret_int (by rw [HM.out]), by (repeat' (first | (with_reducible exact Below.refl _ _) | (with_reducible assumption) | (with_reducible refine Below.setCell ?_ ?_ _) | (with_reducible refine Below.alloc ?_ ?_ _) | (with_reducible refine Below.drew ?_) | (with_reducible refine Up.base _ ?_ ?_) | (with_reducible exact LeSize.out) | exact LeSize.out | exact Nat.le_add_right_of_le LeSize.out | exact Nat.le_add_right_of_le (Nat.le_add_right_of_le LeSize.out) | (with_reducible exact Nat.le_refl _) | (simp; done) | (simp; omega)))⟩
    · have HM : Hid (min cs.length de.length = n) := Lib.hid (by omega)
      obtain rfl : n = cs.length := by omega
      go_wp2
      go_ret
      exact ⟨ret_int (by rw [HM.out]), by (repeat' (first | (with_reducible exact Below.refl _ _) | (with_reducible assumption) | (with_reducible refine Below.setCell ?_ ?_ _) | (with_reducible refine Below.alloc ?_ ?_ _) | (with_reducible refine Below.drew ?_) | (with_reducible refine Up.base _ ?_ ?_) | (with_reducible exact LeSize.out) | exact LeSize.out | exact Nat.le_add_right_of_le LeSize.out | exact Nat.le_add_right_of_le (Nat.le_add_right_of_le LeSize.out) | (with_reducible exact Nat.le_refl _) | (simp; done) | (simp; omega)))⟩
theorem here_any (T : Array Value) (t : Tab) (a : Option Addr) (cap : Nat) (cs : List Ch) (w : World) (hT : IsTab w T t) (hcs : Chs w a cs) (hcl : cs.length ≤ 1000) :
    Calls Try.prog 13 #[.agg T, .slice a cs.length cap] w fun e w' => e = .returned (.int .i64 (hereN t.de cs (min cs.length t.de.length))) ∧ Below w.heap.size w w' := here_de T t.de a cap cs w hT.isDe hcs hcl
end Go.Proofs.Yteohpfelgaffoaa
