/- The contracts of package plan: Where, row, Members. -/
import Derived.Test.YtbnbakienajhmaaPlnM
import Derived.Test.YtbnbakienajhmaaSetN
import Derived.WalkMore
import Derived.Deep.LoopGhost
namespace Go.Proofs.Ytbnbakienajhmaa
open Go.RowKit
set_option linter.unusedVariables false
attribute [local go_sem] IsBlk.cell IsBlk.frozen

/-! ### Where a phase stands -/
def fdP (l : List Spot) (p : Int) : Option Spot := l.find? fun s => s.p == p
theorem fdP_app (l m : List Spot) (p : Int) : fdP (l ++ m) p = (fdP l p).or (fdP m p) := by unfold fdP; exact List.find?_append
theorem spI_pre (r : List Int) (g k : Nat) {j m : Nat} (h : j ≤ m) : ∃ rest, spI r g k m = spI r g k j ++ rest := by
  obtain ⟨d, rfl⟩ := Nat.le.dest h
  clear h
  induction d with
  | zero => exact ⟨[], by simp⟩
  | succ d ih => obtain ⟨t, ht⟩ := ih; rw [← Nat.add_assoc, spI_succ, ht, List.append_assoc]; exact ⟨_, rfl⟩
theorem spK_pre (gr : List (List Int × List Int)) (g : Nat) {j m : Nat} (h : j ≤ m) : ∃ rest, spK gr g m = spK gr g j ++ rest := by
  obtain ⟨d, rfl⟩ := Nat.le.dest h
  clear h
  induction d with
  | zero => exact ⟨[], by simp⟩
  | succ d ih => obtain ⟨t, ht⟩ := ih; rw [← Nat.add_assoc, spK_succ, ht, List.append_assoc]; exact ⟨_, rfl⟩
theorem spG_pre (gr : List (List Int × List Int)) {j m : Nat} (h : j ≤ m) : ∃ rest, spG gr m = spG gr j ++ rest := by
  obtain ⟨d, rfl⟩ := Nat.le.dest h
  clear h
  induction d with
  | zero => exact ⟨[], by simp⟩
  | succ d ih => obtain ⟨t, ht⟩ := ih; rw [← Nat.add_assoc, spG_succ, ht, List.append_assoc]; exact ⟨_, rfl⟩
theorem where_hit {gr : List (List Int × List Int)} {n k j : Nat} {p : Int} (hn : n < gr.length) (hk : k < 2) (hj : j < (rowOf gr n k).length) (hp : okP p = true) (hx : (rowOf gr n k).getD j 0 = p)
    (hN : fdP (spG gr n ++ spK gr n k ++ spI (rowOf gr n k) n k j) p = none) : whereM gr p = some ⟨n, k, j, p⟩ := by
  obtain ⟨r1, h1⟩ := spG_pre gr (show n + 1 ≤ gr.length by omega)
  obtain ⟨r2, h2⟩ := spK_pre gr n (show k + 1 ≤ 2 by omega)
  obtain ⟨r3, h3⟩ := spI_pre (rowOf gr n k) n k (show j + 1 ≤ (rowOf gr n k).length by omega)
  have e : spotsM gr = (spG gr n ++ spK gr n k ++ spI (rowOf gr n k) n k j) ++ (⟨n, k, j, p⟩ :: (r3 ++ r2 ++ r1)) := by
    unfold spotsM
    rw [h1, spG_succ, h2, spK_succ, h3, spI_succ, hx, if_pos hp]
    simp [List.append_assoc]
  show fdP (spotsM gr) p = _
  rw [e, fdP_app, hN]
  simp [fdP]
theorem where_miss {gr : List (List Int × List Int)} {n k j : Nat} {p : Int} (hx : (rowOf gr n k).getD j 0 ≠ p)
    (hN : fdP (spG gr n ++ spK gr n k ++ spI (rowOf gr n k) n k j) p = none) : fdP (spG gr n ++ spK gr n k ++ spI (rowOf gr n k) n k (j + 1)) p = none := by
  rw [spI_succ, ← List.append_assoc, fdP_app, hN]
  split
  · rw [List.getD_eq_getElem?_getD] at hx; simp [fdP, hx]
  · rfl
theorem where_row {gr : List (List Int × List Int)} {n k : Nat} {p : Int} (hN : fdP (spG gr n ++ spK gr n k ++ spI (rowOf gr n k) n k (rowOf gr n k).length) p = none) : fdP (spG gr n ++ spK gr n (k + 1)) p = none := by
  rw [spK_succ, ← List.append_assoc]; exact hN
theorem where_grp {gr : List (List Int × List Int)} {n : Nat} {p : Int} (hN : fdP (spG gr n ++ spK gr n 2) p = none) : fdP (spG gr (n + 1)) p = none := by
  rw [spG_succ]; exact hN
theorem where_out {gr : List (List Int × List Int)} {p : Int} (hp : okP p = false) : whereM gr p = none := by
  have hI : ∀ (r : List Int) (g k m : Nat), fdP (spI r g k m) p = none := by
    intro r g k m
    induction m with
    | zero => rfl
    | succ m ih =>
      rw [spI_succ, fdP_app, ih]
      split
      · rename_i hq
        have : r.getD m 0 ≠ p := fun h => by rw [h, hp] at hq; cases hq
        rw [List.getD_eq_getElem?_getD] at this
        simp [fdP, this]
      · rfl
  have hK : ∀ g m, fdP (spK gr g m) p = none := by
    intro g m
    induction m with
    | zero => rfl
    | succ m ih => rw [spK_succ, fdP_app, ih, hI]; rfl
  have hG : ∀ m, fdP (spG gr m) p = none := by
    intro m
    induction m with
    | zero => rfl
    | succ m ih => rw [spG_succ, fdP_app, ih, hK]; rfl
  exact hG _
def whG : Option Spot → Int | some s => s.g | none => 0
def whK : Option Spot → Int | some s => s.k | none => 0
def whI : Option Spot → Int | some s => s.i | none => 0
theorem of_one (p : Int) : (ofM [p] == 0) = !okP p := by
  rw [Bool.eq_iff_iff]
  simp only [beq_iff_eq, ofM, pack_zero, Bool.not_eq_true']
  constructor
  · intro h
    cases hp : okP p
    · rfl
    · unfold okP at hp
      simp at hp
      have := h p.toNat (by omega)
      have e : ((p.toNat : Nat) : Int) = p := by omega
      rw [e] at this; simp at this
  · intro h i hi
    unfold okP at h
    simp at h
    simp; omega
/-- A row out of a group's two rows. -/
theorem run_index_rows {k : Nat} (hk : k < 2) (v0 v1 : Value) (w : World) : Sem.run Try.prog (Instr.index 92 (.agg #[v0, v1]) (.int .i64 k)) w = .ok (if k = 0 then v0 else v1) w := by
  rcases (show k = 0 ∨ k = 1 by omega) with rfl | rfl
  · simp [Instr.index, asIntOf, Sem.run_bind, run_underlying Try.underlying92, part, isAgg, run_underlying Try.underlying22, Result.andThen]
  · simp [Instr.index, asIntOf, Sem.run_bind, run_underlying Try.underlying92, part, isAgg, run_underlying Try.underlying22, Result.andThen]
set_option maxHeartbeats 8000000 in
set_option maxRecDepth 100000 in
theorem pwhere_any (T : Array Value) (t : Tab) (p : Int) (w : World) (hT : IsTab w T t) :
    Calls Try.prog 31 #[.agg T, .int .i64 p] w fun e w' => e = .returned (.tuple #[.int .i64 (whG (whereM t.gr p)), .int .i64 (whK (whereM t.gr p)), .int .i64 (whI (whereM t.gr p)), .bool (whereM t.gr p).isSome]) ∧ Below w.heap.size w w' := by
  have h1 := of_one p
  cases hp : okP p
  · rw [hp] at h1
    rw [where_out hp]
    simp only [whG, whK, whI, Option.isSome]
    clear hT hp
    go_enter Try.func31, Try.ntmps31
    go_wp2_with (go_at_call 58; refine (sof_any _ 1 [p] _ (by simp) (ints_new _ (by simp) rfl)).mono ?_; rintro e w' ⟨rfl, rfl⟩)
    go_step3
    go_wp2_with (go_at_call 58; refine (sof_any _ 1 [p] _ (by simp) (ints_new _ (by simp) rfl)).mono ?_; rintro e w' ⟨rfl, rfl⟩)
    rw [Exit.noGoto_ret]
    show bodyPost Try.prog Try.f31 _ _ _ _
    go_returns
    exact ⟨rfl, by (repeat' (first | (with_reducible exact Below.refl _ _) | (with_reducible assumption) | (with_reducible refine Below.setCell ?_ ?_ _) | (with_reducible refine Below.alloc ?_ ?_ _) | (with_reducible refine Below.drew ?_) | (with_reducible refine Up.base _ ?_ ?_) | (with_reducible exact LeSize.out) | exact LeSize.out | exact Nat.le_add_right_of_le LeSize.out | exact Nat.le_add_right_of_le (Nat.le_add_right_of_le LeSize.out) | (with_reducible exact Nat.le_refl _) | (simp; done) | (simp; omega)))⟩
  rw [hp] at h1
  obtain ⟨g, d, r, b, hTe, hI⟩ := hT
  obtain ⟨ga, gcap, H, rfl, hrow, hints⟩ := hI.gr
  have lg := hI.lg
  have lr := Lib.hid hI.lr
  have t104 : T[104]? = some (.slice ga t.gr.length gcap) := by rw [hTe, arrF_get _ _ _ (by omega)]; rfl
  have HR := Lib.hid hrow
  have HI := Lib.hid hints
  have HP := Lib.hid hp
  obtain ⟨R, hRr⟩ : ∃ R, whereM t.gr p = R := ⟨_, rfl⟩
  have HRR := Lib.hid hRr
  rw [hRr]
  clear hrow hints hI hTe hRr hp
  go_enter Try.func31, Try.ntmps31
  go_wp2_with (go_at_call 58; refine (sof_any _ 1 [p] _ (by simp) (ints_new _ (by simp) rfl)).mono ?_; rintro e w' ⟨rfl, rfl⟩)
  go_step3
  go_wp2_with (go_at_call 58; refine (sof_any _ 1 [p] _ (by simp) (ints_new _ (by simp) rfl)).mono ?_; rintro e w' ⟨rfl, rfl⟩)
  go_step3
  go_wp2
  go_loopw [4, 5, 6, 7, 21] (fun x4 x5 x6 x7 i wr => ∃ n : Nat, n ≤ t.gr.length ∧ i = .int .i64 n ∧ x4 = .int .i64 0 ∧ x5 = .int .i64 0 ∧ x6 = .int .i64 0 ∧ x7 = .bool false ∧ Hid (fdP (spG t.gr n) p = none) ∧ Below (w.heap.size + 1) (w.alloc (.cells T 32)) wr) (fun _ _ _ _ i _ => t.gr.length - (intOf i).toNat)
  case atStart => exact ⟨0, Nat.zero_le _, rfl, rfl, rfl, rfl, rfl, Lib.hid rfl, by (repeat' (first | (with_reducible exact Below.refl _ _) | (with_reducible assumption) | (with_reducible refine Below.setCell ?_ ?_ _) | (with_reducible refine Below.alloc ?_ ?_ _) | (with_reducible refine Below.drew ?_) | (with_reducible refine Up.base _ ?_ ?_) | (with_reducible exact LeSize.out) | exact LeSize.out | exact Nat.le_add_right_of_le LeSize.out | exact Nat.le_add_right_of_le (Nat.le_add_right_of_le LeSize.out) | (with_reducible exact Nat.le_refl _) | (simp; done) | (simp; omega)))⟩
  case round =>
    obtain ⟨n, hn, rfl, rfl, rfl, rfl, rfl, hN, hb⟩ := hrel
    have hB := hb.size
    rw [World.size_alloc] at hB
    have hbw : Below w.heap.size w wr := ((Below.refl w.heap.size w).alloc (Nat.le_refl _) (.cells T 32)).trans (hb.mono (by omega))
    haveI : LeSize w.heap.size wr := ⟨hbw.size⟩
    haveI : LeSize (w.heap.size + 1) wr := ⟨hB⟩
    by_cases hlt : n < t.gr.length
    · obtain ⟨gb, goff, rfl, hgb, hgc⟩ := HR.out.resolve_left (by omega)
      have hc0 : wr.cell? ⟨gb, goff + n * 2, none⟩ = some (.slice (H n 0).1 (rowOf t.gr n 0).length (H n 0).2) := by
        rw [hb.cell (p := ⟨gb, goff + n * 2, none⟩) (by simp; omega), World.cell?_alloc_past _ _ _ (by omega)]; exact hgc n hlt 0 (by omega)
      have hc1 : wr.cell? ⟨gb, goff + n * 2 + 1, none⟩ = some (.slice (H n 1).1 (rowOf t.gr n 1).length (H n 1).2) := by
        rw [hb.cell (p := ⟨gb, goff + n * 2 + 1, none⟩) (by simp; omega), World.cell?_alloc_past _ _ _ (by omega)]; exact hgc n hlt 1 (by omega)
      haveI : LeSize (gb + 1) wr := ⟨by omega⟩
      clear hgc HR
      go_wp2
      go_loopw [4, 5, 6, 7, 27] (fun x4 x5 x6 x7 i wr' => ∃ k : Nat, k ≤ 2 ∧ i = .int .i64 k ∧ x4 = .int .i64 0 ∧ x5 = .int .i64 0 ∧ x6 = .int .i64 0 ∧ x7 = .bool false ∧ Hid (fdP (spG t.gr n ++ spK t.gr n k) p = none) ∧ wr' = wr.alloc (.cells #[.slice (H n 0).1 (rowOf t.gr n 0).length (H n 0).2, .slice (H n 1).1 (rowOf t.gr n 1).length (H n 1).2] 92)) (fun _ _ _ _ i _ => 2 - (intOf i).toNat)
      case atStart => exact ⟨0, by omega, rfl, rfl, rfl, rfl, rfl, Lib.hid (by simpa [spK] using hN.out), rfl⟩
      case round =>
        obtain ⟨k, hk, rfl, rfl, rfl, rfl, rfl, hN2, rfl⟩ := hrel
        by_cases hltk : k < 2
        · have hix := run_index_rows hltk (.slice (H n 0).1 (rowOf t.gr n 0).length (H n 0).2) (.slice (H n 1).1 (rowOf t.gr n 1).length (H n 1).2)
          have hix2 : ∀ w', Sem.run Try.prog (Instr.index 92 (.agg #[.slice (H n 0).1 (rowOf t.gr n 0).length (H n 0).2, .slice (H n 1).1 (rowOf t.gr n 1).length (H n 1).2]) (.int .i64 k)) w' = .ok (.slice (H n k).1 (rowOf t.gr n k).length (H n k).2) w' := fun w' => by
            rw [hix w']
            rcases (show k = 0 ∨ k = 1 by omega) with rfl | rfl <;> rfl
          clear hix
          have hin := HI.out n hlt k hltk
          have hrl := lr.out n k
          have HHIT : Hid (∀ j, j < (rowOf t.gr n k).length → (rowOf t.gr n k).getD j 0 = p → fdP (spG t.gr n ++ spK t.gr n k ++ spI (rowOf t.gr n k) n k j) p = none → R = some ⟨n, k, j, p⟩) := Lib.hid fun j hj hx h => by rw [← HRR.out]; exact where_hit hlt hltk hj HP.out hx h
          have HMISS : Hid (∀ j, (rowOf t.gr n k).getD j 0 ≠ p → fdP (spG t.gr n ++ spK t.gr n k ++ spI (rowOf t.gr n k) n k j) p = none → fdP (spG t.gr n ++ spK t.gr n k ++ spI (rowOf t.gr n k) n k (j + 1)) p = none) := Lib.hid fun j hx h => where_miss hx h
          have HROW : Hid (fdP (spG t.gr n ++ spK t.gr n k ++ spI (rowOf t.gr n k) n k (rowOf t.gr n k).length) p = none → fdP (spG t.gr n ++ spK t.gr n (k + 1)) p = none) := Lib.hid fun h => where_row h
          have HKI : (k : Int) < 2 := by omega
          generalize hS0 : (Value.slice (H n 0).1 (rowOf t.gr n 0).length (H n 0).2) = S0 at *
          generalize hS1 : (Value.slice (H n 1).1 (rowOf t.gr n 1).length (H n 1).2) = S1 at *
          generalize (H n k).1 = hd at *
          generalize (H n k).2 = hcp at *
          generalize rowOf t.gr n k = row at *
          clear hS0 hS1
          have HIN := Lib.hid hin
          clear hin
          go_wp2
          go_loopw [4, 5, 6, 7, 33] (fun x4 x5 x6 x7 i wr' => ∃ j : Nat, j ≤ row.length ∧ i = .int .i64 j ∧ x4 = .int .i64 0 ∧ x5 = .int .i64 0 ∧ x6 = .int .i64 0 ∧ x7 = .bool false ∧ Hid (fdP (spG t.gr n ++ spK t.gr n k ++ spI row n k j) p = none) ∧ wr' = wr.alloc (.cells #[S0, S1] 92)) (fun _ _ _ _ i _ => row.length - (intOf i).toNat)
          case atStart => exact ⟨0, by omega, rfl, rfl, rfl, rfl, rfl, Lib.hid (by simpa [spI] using hN2.out), rfl⟩
          case round =>
            obtain ⟨j, hj, rfl, rfl, rfl, rfl, rfl, hN3, rfl⟩ := hrel
            by_cases hjl : j < row.length
            · obtain ⟨rb, roff, rfl, hrb, hrc⟩ := HIN.out.cell (by omega)
              have hcell : wr.cell? ⟨rb, roff + j, none⟩ = some (.int .i64 (row.getD j 0)) := by
                rw [hb.cell (p := ⟨rb, roff + j, none⟩) (by simp; omega), World.cell?_alloc_past _ _ _ (by omega)]; exact hrc j hjl
              haveI : LeSize (rb + 1) wr := ⟨by omega⟩
              clear hrc
              by_cases hx : row.getD j 0 = p
              · have HX := Lib.hid (HHIT.out j hjl hx hN3.out)
                have hx2 : (row.getD j 0 == p) = true := by simpa using hx
                clear hx
                generalize row.getD j 0 = x at *
                go_wp2
                rw [Exit.noGoto_ret]
                show bodyPost Try.prog Try.f31 _ _ _ _
                go_returns
                exact ⟨by rw [HX.out]; rfl, by (repeat' (first | (with_reducible exact Below.refl _ _) | (with_reducible assumption) | (with_reducible refine Below.setCell ?_ ?_ _) | (with_reducible refine Below.alloc ?_ ?_ _) | (with_reducible refine Below.drew ?_) | (with_reducible refine Up.base _ ?_ ?_) | (with_reducible exact LeSize.out) | exact LeSize.out | exact Nat.le_add_right_of_le LeSize.out | exact Nat.le_add_right_of_le (Nat.le_add_right_of_le LeSize.out) | (with_reducible exact Nat.le_refl _) | (simp; done) | (simp; omega)))⟩
              · have HX : Hid (fdP (spG t.gr n ++ spK t.gr n k ++ spI row n k (j + 1)) p = none) := Lib.hid (HMISS.out j hx hN3.out)
                have hx2 : (row.getD j 0 == p) = false := by simpa using hx
                clear hx
                generalize row.getD j 0 = x at *
                go_wp2
                go_roundw
                case rel => first | exact ⟨j + 1, by omega, by go_num, HX, trivial⟩ | exact ⟨j + 1, by omega, by go_num, rfl, rfl, rfl, rfl, HX, trivial⟩
                case measure => simp [intOf]; omega
            · obtain rfl : j = row.length := by omega
              go_wp2
              go_roundw
              case rel => first | exact ⟨k + 1, by omega, by go_num, Lib.hid (HROW.out hN3.out), trivial⟩ | exact ⟨k + 1, by omega, by go_num, rfl, rfl, rfl, rfl, Lib.hid (HROW.out hN3.out), trivial⟩
              case measure => simp [intOf]; omega
        · obtain rfl : k = 2 := by omega
          go_wp2
          go_roundw
          case rel => first | exact ⟨n + 1, by omega, by go_num, Lib.hid (where_grp hN2.out), by (repeat' (first | (with_reducible exact Below.refl _ _) | (with_reducible assumption) | (with_reducible refine Below.setCell ?_ ?_ _) | (with_reducible refine Below.alloc ?_ ?_ _) | (with_reducible refine Below.drew ?_) | (with_reducible refine Up.base _ ?_ ?_) | (with_reducible exact LeSize.out) | exact LeSize.out | exact Nat.le_add_right_of_le LeSize.out | exact Nat.le_add_right_of_le (Nat.le_add_right_of_le LeSize.out) | (with_reducible exact Nat.le_refl _) | (simp; done) | (simp; omega)))⟩ | exact ⟨n + 1, by omega, by go_num, rfl, rfl, rfl, rfl, Lib.hid (where_grp hN2.out), by (repeat' (first | (with_reducible exact Below.refl _ _) | (with_reducible assumption) | (with_reducible refine Below.setCell ?_ ?_ _) | (with_reducible refine Below.alloc ?_ ?_ _) | (with_reducible refine Below.drew ?_) | (with_reducible refine Up.base _ ?_ ?_) | (with_reducible exact LeSize.out) | exact LeSize.out | exact Nat.le_add_right_of_le LeSize.out | exact Nat.le_add_right_of_le (Nat.le_add_right_of_le LeSize.out) | (with_reducible exact Nat.le_refl _) | (simp; done) | (simp; omega)))⟩
          case measure => simp [intOf]; omega
    · obtain rfl : n = t.gr.length := by omega
      have HX : Hid (R = none) := Lib.hid (by rw [← HRR.out]; exact hN.out)
      go_wp2
      rw [Exit.noGoto_ret]
      show bodyPost Try.prog Try.f31 _ _ _ _
      go_returns
      exact ⟨by rw [HX.out]; rfl, by (repeat' (first | (with_reducible exact Below.refl _ _) | (with_reducible assumption) | (with_reducible refine Below.setCell ?_ ?_ _) | (with_reducible refine Below.alloc ?_ ?_ _) | (with_reducible refine Below.drew ?_) | (with_reducible refine Up.base _ ?_ ?_) | (with_reducible exact LeSize.out) | exact LeSize.out | exact Nat.le_add_right_of_le LeSize.out | exact Nat.le_add_right_of_le (Nat.le_add_right_of_le LeSize.out) | (with_reducible exact Nat.le_refl _) | (simp; done) | (simp; omega)))⟩
end Go.Proofs.Ytbnbakienajhmaa
