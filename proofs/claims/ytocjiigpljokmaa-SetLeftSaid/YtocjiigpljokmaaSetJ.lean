/- The law SetBack. -/
import Derived.Test.YtocjiigpljokmaaSetH
namespace Go.Proofs.Ytocjiigpljokmaa
open Go.ChangeShapes Go.WideShapes Go.ChangeAt Go.RowKit
set_option linter.unusedVariables false

theorem list_sorted (s : Int) : (listM s).Pairwise (· < ·) := by
  unfold listM setL
  rw [List.pairwise_map]
  refine List.Pairwise.imp (R := fun a b => a < b) (fun h => by simp; omega) ?_
  exact List.Pairwise.filter _ List.pairwise_lt_range
theorem list_at {s : Int} {i : Nat} (hi : i < (listM s).length) : 0 ≤ (listM s).getD i 0 ∧ (listM s).getD i 0 ≤ 7 ∧ hasM s ((listM s).getD i 0) = true := by
  have hm : (listM s).getD i 0 ∈ listM s := by simp [List.getD, hi]
  have := mem_listM.1 hm
  have h2 := this
  unfold hasM at h2
  simp only [Bool.and_eq_true, decide_eq_true_eq] at h2
  exact ⟨h2.1.1, by omega, this⟩
theorem list_up {s : Int} {i : Nat} (hi : i + 1 < (listM s).length) : (listM s).getD i 0 < (listM s).getD (i + 1) 0 := by
  have := List.pairwise_iff_getElem.1 (list_sorted s) i (i + 1) (by omega) hi (by omega)
  simpa [List.getD, hi, show i < (listM s).length by omega] using this
theorem of_list (s : Int) : ofM (listM s) = bits .and .i64 s 255 := by
  rw [and255]
  refine packM_congr fun i hi => ?_
  rw [Bool.eq_iff_iff, List.contains_iff_mem, mem_listM, hasM_nat s hi]
theorem has_contains (s p : Int) : (listM s).contains p = hasM s p := by
  rw [Bool.eq_iff_iff, List.contains_iff_mem, mem_listM]
theorem contains_take {zs : List Int} {k : Nat} (hk : k < zs.length) (p : Int) : (zs.take (k + 1)).contains p = ((zs.take k).contains p || (zs.getD k 0 == p)) := by
  rw [List.take_succ_eq_append_getElem hk, Bool.eq_iff_iff]
  have : zs.getD k 0 = zs[k] := by simp [List.getD, hk]
  rw [this]
  simp only [List.contains_iff_mem, List.mem_append, List.mem_singleton, Bool.or_eq_true, beq_iff_eq]
  exact or_congr Iff.rfl ⟨Eq.symm, Eq.symm⟩
set_option maxHeartbeats 4000000 in
theorem setBack_walk (s p : Int) (w : World) (_ : InKind .i64 s) (_ : InKind .i64 p) :
    Calls Try.prog 4 #[.int .i64 s, .int .i64 p] w fun e w' => e = .returned (.bool true) ∧ Below w.heap.size w w' := by
  have hlen : (listM s).length ≤ 8 := setL_length s 8
  have HO := Lib.hid (of_list s)
  have HC := Lib.hid (has_contains s p)
  go_enter Try.func4, Try.ntmps4
  go_wp2_with (go_at_call 11; refine (RetInts.up (leach_any _ _)).mono ?_; rintro e w' ⟨a1, cap1, u, rfl, rfl, hi⟩)
  have hbu := u.bel
  generalize u.w = W1 at *
  have HI := Lib.hid hi
  clear hi
  go_loopw [6, 7] (fun b i wr => ∃ k : Nat, k ≤ (listM s).length ∧ i = .int .i64 k ∧ b = .bool (((listM s).take k).contains p) ∧ Below W1.heap.size W1 wr) (fun _ i _ => (listM s).length - (intOf i).toNat)
  case atStart => exact ⟨0, Nat.zero_le _, rfl, rfl, Below.refl _ _⟩
  case round =>
    obtain ⟨k, hk, rfl, rfl, hb⟩ := hrel
    have hB := hb.size
    have i0 : LeSize W1.heap.size wr := ⟨hb.size⟩
    by_cases hlt : k < (listM s).length
    · obtain ⟨b, off, rfl, hbs, hc⟩ := HI.out.cell (by omega)
      have hcc : ∀ j, j < (listM s).length → wr.cell? ⟨b, off + j, none⟩ = some (.int .i64 ((listM s).getD j 0)) := fun j hj => by rw [hb.cell (p := ⟨b, off + j, none⟩) hbs]; exact hc j hj
      have ib : LeSize (b + 1) wr := ⟨Nat.le_trans hbs hb.size⟩
      clear hc
      obtain ⟨x0, x7, xh⟩ := list_at hlt
      have hcell := hcc k hlt
      have HS := Lib.hid (contains_take hlt p)
      cases k with
      | zero =>
        clear hcc
        simp only [Nat.add_zero] at hcell
        generalize (listM s).getD 0 0 = x at *
        have b1 : decide (x < 0) = false := by simp; omega
        have b2 : decide (7 < x) = false := by simp; omega
        go_wp2
        (refine wp_region_up (by kernel_rfl) (by kernel_rfl) ?_; (repeat (go_big_quiet_step ((first | (go_at_call 12; exact Up.pure (shas_any _ _ _)) | fail)))); refine wpQuiet_nil ?_; rintro _ ⟨u, rfl⟩)
        cases hin : (((listM s).take 0).contains p)
        all_goals
          go_wp2
          go_roundw
          case rel => exact ⟨1, by omega, rfl, by rw [HS.out, hin]; rfl, by (repeat' (first | (with_reducible exact Below.refl _ _) | (with_reducible assumption) | (with_reducible refine Below.setCell ?_ ?_ _) | (with_reducible refine Below.alloc ?_ ?_ _) | (with_reducible refine Below.drew ?_) | (with_reducible refine Up.base _ ?_ ?_) | (with_reducible exact LeSize.out) | exact LeSize.out | exact Nat.le_add_right_of_le LeSize.out | exact Nat.le_add_right_of_le (Nat.le_add_right_of_le LeSize.out) | (with_reducible exact Nat.le_refl _) | (simp; done) | (simp; omega)))⟩
          case measure => simp [intOf]; omega
      | succ j =>
        have hp := hcc j (by omega)
        have hup := list_up hlt
        clear hcc
        generalize (listM s).getD (j + 1) 0 = x at *
        generalize (listM s).getD j 0 = y at *
        have b1 : decide (x < 0) = false := by simp; omega
        have b2 : decide (7 < x) = false := by simp; omega
        have b3 : decide (x ≤ y) = false := by simp; omega
        have b4 : decide ((0 : Int) < ↑(j + 1)) = true := decide_eq_true (by omega)
        have b5 : decide ((0 : Int) < (j : Int) + 1) = true := decide_eq_true (by omega)
        have hj8 : (j : Int) + 1 < 8 := by omega
        go_wp2
        (refine wp_region_up (by kernel_rfl) (by kernel_rfl) ?_; (repeat (go_big_quiet_step ((first | (go_at_call 12; exact Up.pure (shas_any _ _ _)) | fail)))); refine wpQuiet_nil ?_; rintro _ ⟨u, rfl⟩)
        cases hin : (((listM s).take (j + 1)).contains p)
        all_goals
          go_wp2
          go_roundw
          case rel => exact ⟨j + 1 + 1, by omega, by go_num, by rw [HS.out, hin]; rfl, by (repeat' (first | (with_reducible exact Below.refl _ _) | (with_reducible assumption) | (with_reducible refine Below.setCell ?_ ?_ _) | (with_reducible refine Below.alloc ?_ ?_ _) | (with_reducible refine Below.drew ?_) | (with_reducible refine Up.base _ ?_ ?_) | (with_reducible exact LeSize.out) | exact LeSize.out | exact Nat.le_add_right_of_le LeSize.out | exact Nat.le_add_right_of_le (Nat.le_add_right_of_le LeSize.out) | (with_reducible exact Nat.le_refl _) | (simp; done) | (simp; omega)))⟩
          case measure => simp [intOf]; omega
    · obtain rfl : k = (listM s).length := by omega
      have i0 : LeSize w.heap.size wr := ⟨Nat.le_trans hbu.size hb.size⟩
      have hbw : Below w.heap.size w wr := hbu.trans (hb.mono hbu.size)
      have hi : Ints wr a1 (listM s) := Row1.below HI.out hb (Nat.le_refl _)
      have HT : Hid (((listM s).take (listM s).length).contains p = hasM s p) := Lib.hid (by rw [List.take_length]; exact HC.out)
      rw [HT.out]
      have h1000 : (listM s).length ≤ 1000 := by omega
      have hE : (ofM (listM s) == bits .and .i64 s 255) = true := by rw [HO.out]; simp
      go_wp2_with (first
    | (go_at_call 9; refine (sof_any _ _ _ _ (by omega) (by assumption)).mono ?_; rintro e w' ⟨rfl, rfl⟩)
    | (go_at_call 12; refine (shas_any _ _ _).mono ?_; rintro e w' ⟨rfl, rfl⟩)
    | (go_at_call 13; refine (scount_any _ _).mono ?_; rintro e w' ⟨rfl, rfl⟩)
    | (go_at_call 11; refine (RetInts.up (leach_any _ _)).mono ?_; rintro e w' ⟨a1, cap1, u, rfl, rfl, hi⟩)
    | (go_at_call 14; refine (Up.run (same_any _ _ _ _ _ _ (by omega) (by first | assumption | exact Ints.up _ (by assumption)) (by first | assumption | exact Ints.up _ (by assumption)))).mono ?_; rintro e w' ⟨rfl, u, rfl⟩)
    | (go_at_call 8; refine (Up.run (awake_any _)).mono ?_; rintro e w' ⟨rfl, u, rfl⟩))
      go_ret
      exact ⟨rfl, by (repeat' (first | (with_reducible exact Below.refl _ _) | (with_reducible assumption) | (with_reducible refine Below.setCell ?_ ?_ _) | (with_reducible refine Below.alloc ?_ ?_ _) | (with_reducible refine Below.drew ?_) | (with_reducible refine Up.base _ ?_ ?_) | (with_reducible exact LeSize.out) | exact LeSize.out | exact Nat.le_add_right_of_le LeSize.out | exact Nat.le_add_right_of_le (Nat.le_add_right_of_le LeSize.out) | (with_reducible exact Nat.le_refl _) | (simp; done) | (simp; omega)))⟩

set_option maxRecDepth 100000 in
theorem SetBack_lifted (os : Os) (started : os.Started) (H : Type) (enc : TypeId × Value → H) :
    ReturnsInHanded {} Try.checked os 4 .any (Rows.setBackSpec.pre6 enc Try.prog Try.f4 Rows.setBackRow.domain false) (Rows.setBackSpec.post enc Try.prog Try.f4 false true false false) := by
  refine returnsInHanded_of_change (C := Try.checked) own started (by kernel_rfl) Try.func4
    (ChangeSpec.witness6 (enc := enc) (C := Try.checked) false ⟨#[], #[.int .i64 0, .int .i64 0], []⟩ 8 (by kernel_rfl) (by kernel_rfl) (by kernel_rfl) (by kernel_rfl)) ?_
  intro W base args ds gs before hval0 hW hcnd _
  have hval : ∀ (j : Nat) t v, Try.f4.params[j]? = some t → args[j]? = some v → Value.okWide Try.prog W .any base t v := hval0
  have hW' := hW
  obtain ⟨p, q, hA0, hV, rfl, hfz, hnd⟩ := hW
  have hA : DataW.TrodAll enc Try.prog W 0 (fun _ => true) true Try.f4.params.toList args.toList ds p := hA0
  rw [Try.params4] at hA hval
  obtain ⟨v0, vs0, d0, ds0, p0, q0, hargs, rfl, rfl, h0, r0⟩ := trodAll_cons hA
  obtain ⟨v1, vs1, d1, ds1, p1, q1, rfl, rfl, rfl, h1, r1⟩ := trodAll_cons r0
  obtain ⟨rfl, rfl, rfl⟩ := trodAll_nil r1
  obtain rfl : args = #[v0, v1] := by cases args; simp_all
  obtain ⟨rfl, rfl⟩ := trodVars_none hV
  have k0 := h0
  have lt0 : ∀ x ∈ p0, x.block < W.heap.size := by obtain ⟨m, hm⟩ := k0; exact DataW.trod_lt m _ _ _ hm
  have k1 := h1
  have lt1 : ∀ x ∈ p1, x.block < W.heap.size := by obtain ⟨m, hm⟩ := k1; exact DataW.trod_lt m _ _ _ hm
  obtain ⟨a0, rfl, w0⟩ := open_int1 Try.underlying3 (hval 0 3 v0 rfl rfl)
  obtain ⟨a1, rfl, w1⟩ := open_int1 Try.underlying3 (hval 1 3 v1 rfl rfl)
  clear hA0 hval0
  refine (setBack_walk a0 a1 W w0 w1).mono fun e W' ⟨he, bel⟩ => ?_
  subst he
  exact ⟨_, rfl, _, _, _, [], _, [], hW', trodAll_mk1 (shut_bool Try.underlying4 _), (trodAll_cons_mk (Below.trod laidOut (by kernel_rfl) (of_decide_eq_true (by kernel_rfl)) k0 bel lt0) (trodAll_cons_mk (Below.trod laidOut (by kernel_rfl) (of_decide_eq_true (by kernel_rfl)) k1 bel lt1) trodAll_mk0)), rfl, bel.frame _, fun h => by cases h⟩

theorem SetBack_over : Rows.setBackRow.holds Try.pinned (OpenSpec.ofChange Rows.setBackSpec) :=
  OpenClaim.holds_of_wide 4 Try.f4 rfl rfl rfl rfl rfl rfl rfl ⟨rfl, rfl, rfl, rfl, rfl⟩ rfl rfl rfl rfl rfl (by kernel_rfl) Try.func4 (by kernel_rfl)
    (of_decide_eq_true (by kernel_rfl)) (by unfold Func.isWrapper; first | (rw [if_pos (by decide +kernel)]; kernel_rfl) | (rw [if_neg (by decide +kernel)]; exact ⟨rfl, rfl⟩))
    (fun os started H enc _ => SetBack_lifted os started H enc)

/-- The given statement. -/
theorem SetBack_holds : Rows.SetBackSaid := SetBack_over
#print axioms SetBack_holds
end Go.Proofs.Ytocjiigpljokmaa
