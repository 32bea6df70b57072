/- The law DiagTurns: the walk, and the given statement. -/
import Derived.Test.YtiieckcghjhdeaaDiaA
namespace Go.Proofs.Ytiieckcghjhdeaa
open Go.ChangeShapes Go.WideShapes Go.ChangeAt Go.RowKit
set_option linter.unusedVariables false

/-- The watch of DiagTurns in memory. -/
def TurnSt (w wr : World) (on off : Int) : Prop :=
  Below w.heap.size w wr ∧ LeSize (w.heap.size + 1) wr ∧ wr.frozen? ⟨w.heap.size, 0, none⟩ = false ∧ wr.frozen? ⟨w.heap.size, 1, none⟩ = false ∧ (wr.cell? ⟨w.heap.size, 0, none⟩ = some (.int .i64 on) ∧ wr.cell? ⟨w.heap.size, 1, none⟩ = some (.int .i64 off))
/-- Before the ticks of place k: the count that now goes on is 0. -/
def TurnRel (k : Nat) (on off : Int) : Prop := ((k % 2 = 0 → on = 0) ∧ (k % 2 = 1 → off = 0))
/-- Behind p ticks of place k. -/
def TickRel (k : Nat) (p : Int) (on off : Int) : Prop := (k % 2 = 0 → on = p ∧ (1 ≤ p → off = 0)) ∧ (k % 2 = 1 → off = p ∧ (1 ≤ p → on = 0))
theorem moreM_at {n : Int} (h0 : 0 ≤ n) (h : n ≤ 9999) : moreM n = n + 1 := by unfold moreM; omega

set_option maxHeartbeats 2000000 in
theorem diagTurns_walk (a : Option Addr) (cap : Nat) (zs : List Int) (most : Int) (w : World) (hl : zs.length ≤ cap ∧ cap ≤ 9223372036854775807) (hh : Hdr w a cap) (hi : Ints w a zs)
    (hz : ∀ i, i < zs.length → InKind .i64 (zs.getD i 0)) (_ : InKind .i64 most) :
    Calls Try.prog 5 #[.slice a zs.length cap, .int .i64 most] w fun e w' => e = .returned (.bool true) ∧ Below w.heap.size w w' := by
  have HI := Lib.hid hi
  clear hi hz hh
  by_cases h60 : (60 : Int) < zs.length
  · go_enter Try.func5, Try.ntmps5
    go_wp2_with (go_at_call 11; refine (Up.run (awake_any _)).mono ?_; rintro e w' ⟨rfl, u, rfl⟩)
    go_ret
    exact ⟨rfl, by (repeat' (first | (with_reducible exact Below.refl _ _) | (with_reducible assumption) | (with_reducible refine Below.setCell ?_ ?_ _) | (with_reducible refine Below.alloc ?_ ?_ _) | (with_reducible refine Below.drew ?_) | (with_reducible refine Up.base _ ?_ ?_) | (with_reducible exact LeSize.out) | exact LeSize.out | exact Nat.le_add_right_of_le LeSize.out | exact Nat.le_add_right_of_le (Nat.le_add_right_of_le LeSize.out) | (with_reducible exact Nat.le_refl _) | (simp; done) | (simp; omega)))⟩
  go_enter Try.func5, Try.ntmps5
  have hA0 : 0 ≤ most % 20 := Int.emod_nonneg _ (by decide)
  have hA1 : most % 20 < 20 := Int.emod_lt_of_pos _ (by decide)
  go_wp2_with (go_at_call 12; refine (place_any _ _ _ (by omega) (by omega)).mono ?_; rintro e w' ⟨rfl, rfl⟩)
  generalize most % 20 = M at *
  go_loopw [7] (fun i wr => ∃ (k : Nat) (on off : Int), k ≤ zs.length ∧ i = .int .i64 k ∧ TurnRel k on off ∧ TurnSt w wr on off) (fun i _ => zs.length - (intOf i).toNat)
  case atStart =>
    refine ⟨0, 0, 0, Nat.zero_le _, rfl, ⟨fun _ => rfl, fun _ => rfl⟩, ?_⟩
    unfold TurnSt
    refine ⟨by (repeat' (first | (with_reducible exact Below.refl _ _) | (with_reducible assumption) | (with_reducible refine Below.setCell ?_ ?_ _) | (with_reducible refine Below.alloc ?_ ?_ _) | (with_reducible refine Below.drew ?_) | (with_reducible refine Up.base _ ?_ ?_) | (with_reducible exact LeSize.out) | exact LeSize.out | exact Nat.le_add_right_of_le LeSize.out | exact Nat.le_add_right_of_le (Nat.le_add_right_of_le LeSize.out) | (with_reducible exact Nat.le_refl _) | (simp; done) | (simp; omega))), inferInstance, ?_⟩
    simp [go_sem]
  case round =>
    obtain ⟨k, on, off, hk, rfl, hr, hst⟩ := hrel
    obtain ⟨hb, i1, f1, f2, ⟨d0, d1⟩⟩ := hst
    have i0 : LeSize w.heap.size wr := ⟨hb.size⟩
    by_cases hlt : k < zs.length
    · obtain ⟨b, of, rfl, hbs, hc⟩ := HI.out.cell (by omega)
      have hcell : wr.cell? ⟨b, of + k, none⟩ = some (.int .i64 (zs.getD k 0)) := by rw [hb.cell (p := ⟨b, of + k, none⟩) (by simpa using hbs)]; exact hc k hlt
      clear hc
      have hT0 : 0 ≤ zs[k] % (2 + M - 1) := Int.emod_nonneg _ (by omega)
      have hT1 : zs[k] % (2 + M - 1) < 2 + M - 1 := Int.emod_lt_of_pos _ (by omega)
      have HR := Lib.hid hr
      clear hr
      go_wp2_with (go_at_call 12; refine (place_any _ _ _ (by omega) (by omega)).mono ?_; rintro e w' ⟨rfl, rfl⟩)
      generalize zs[k] % (2 + M - 1) = T at *
      go_loopw [8] (fun q wi => ∃ (p on' off' : Int), 0 ≤ p ∧ p ≤ T + 1 ∧ q = .int .i64 (T + 1 - p) ∧ TickRel k p on' off' ∧ TurnSt w wi on' off') (fun q _ => (intOf q).toNat)
      case atStart =>
        refine ⟨0, on, off, by omega, by omega, by congr 1; omega, ⟨fun h => ⟨HR.out.1 h, by omega⟩, fun h => ⟨HR.out.2 h, by omega⟩⟩, hb, i1, f1, f2, d0, d1⟩
      case round =>
        clear d0 d1 f1 f2 i0 i1 hcell
        obtain ⟨p, on', off', hp0, hp1, rfl, ⟨ht0, ht1⟩, hst⟩ := hrel
        obtain ⟨hb', i1, f1, f2, ⟨d0, d1⟩⟩ := hst
        have i0 := LeSize.mk hb'.size
        by_cases hq : 0 < T + 1 - p
        · rcases Nat.mod_two_eq_zero_or_one k with hpar | hpar
          · obtain ⟨h1, ht2⟩ := ht0 hpar
            obtain rfl : p = on' := h1.symm
            clear ht0 ht1
            have he : (((k : Int) % 2) == 0) = true := by simp; omega
            have m1 : wOn p true = p + 1 := by unfold wOn; rw [if_pos rfl, moreM_at (by omega) (by omega)]
            have m2 : wOff off' true = 0 := by rfl
            have ms : stuckM (2 + M) (2 + M) (p + 1) (0) = false := by unfold stuckM; simp; omega
            go_wp2_with (first
    | (go_at_call 7; refine (Up.run (step_any _ _ _ _)).mono ?_; rintro e w' ⟨rfl, u, rfl⟩)
    | (go_at_call 9; refine (Up.run (stuck_any _ _ _ _ _)).mono ?_; rintro e w' ⟨rfl, u, rfl⟩))
            go_roundw
            case rel =>
              refine ⟨p + 1, p + 1, 0, by omega, by omega, by congr 1; omega, ?_, ?_⟩
              · exact ⟨fun _ => by first | exact ⟨rfl, fun _ => rfl⟩ | omega, fun _ => by first | exact ⟨rfl, fun _ => rfl⟩ | omega⟩
              · unfold TurnSt
                refine ⟨by (repeat' (first | (with_reducible exact Below.refl _ _) | (with_reducible assumption) | (with_reducible refine Below.setCell ?_ ?_ _) | (with_reducible refine Below.alloc ?_ ?_ _) | (with_reducible refine Below.drew ?_) | (with_reducible refine Up.base _ ?_ ?_) | (with_reducible exact LeSize.out) | exact LeSize.out | exact Nat.le_add_right_of_le LeSize.out | exact Nat.le_add_right_of_le (Nat.le_add_right_of_le LeSize.out) | (with_reducible exact Nat.le_refl _) | (simp; done) | (simp; omega))), inferInstance, ?_⟩
                simp [go_sem, d0, d1, f1, f2]
            case measure => simp [intOf]; omega
          · obtain ⟨h1, ht2⟩ := ht1 hpar
            obtain rfl : p = off' := h1.symm
            clear ht0 ht1
            have he : (((k : Int) % 2) == 0) = false := by simp; omega
            have m1 : wOn on' false = 0 := by rfl
            have m2 : wOff p false = p + 1 := by unfold wOff; rw [if_neg (by simp), moreM_at (by omega) (by omega)]
            have ms : stuckM (2 + M) (2 + M) (0) (p + 1) = false := by unfold stuckM; simp; omega
            go_wp2_with (first
    | (go_at_call 7; refine (Up.run (step_any _ _ _ _)).mono ?_; rintro e w' ⟨rfl, u, rfl⟩)
    | (go_at_call 9; refine (Up.run (stuck_any _ _ _ _ _)).mono ?_; rintro e w' ⟨rfl, u, rfl⟩))
            go_roundw
            case rel =>
              refine ⟨p + 1, 0, p + 1, by omega, by omega, by congr 1; omega, ?_, ?_⟩
              · exact ⟨fun _ => by first | exact ⟨rfl, fun _ => rfl⟩ | omega, fun _ => by first | exact ⟨rfl, fun _ => rfl⟩ | omega⟩
              · unfold TurnSt
                refine ⟨by (repeat' (first | (with_reducible exact Below.refl _ _) | (with_reducible assumption) | (with_reducible refine Below.setCell ?_ ?_ _) | (with_reducible refine Below.alloc ?_ ?_ _) | (with_reducible refine Below.drew ?_) | (with_reducible refine Up.base _ ?_ ?_) | (with_reducible exact LeSize.out) | exact LeSize.out | exact Nat.le_add_right_of_le LeSize.out | exact Nat.le_add_right_of_le (Nat.le_add_right_of_le LeSize.out) | (with_reducible exact Nat.le_refl _) | (simp; done) | (simp; omega))), inferInstance, ?_⟩
                simp [go_sem, d0, d1, f1, f2]
            case measure => simp [intOf]; omega
        · go_wp2
          go_roundw
          case rel =>
            refine ⟨k + 1, on', off', by omega, by go_num, ⟨fun h => ?_, fun h => ?_⟩, hb', i1, f1, f2, d0, d1⟩
            · exact (ht1 (by omega)).2 (by omega)
            · exact (ht0 (by omega)).2 (by omega)
          case measure => simp [intOf]; omega
    · go_wp2_with (go_at_call 11; refine (Up.run (awake_any _)).mono ?_; rintro e w' ⟨rfl, u, rfl⟩)
      go_ret
      exact ⟨rfl, by (repeat' (first | (with_reducible exact Below.refl _ _) | (with_reducible assumption) | (with_reducible refine Below.setCell ?_ ?_ _) | (with_reducible refine Below.alloc ?_ ?_ _) | (with_reducible refine Below.drew ?_) | (with_reducible refine Up.base _ ?_ ?_) | (with_reducible exact LeSize.out) | exact LeSize.out | exact Nat.le_add_right_of_le LeSize.out | exact Nat.le_add_right_of_le (Nat.le_add_right_of_le LeSize.out) | (with_reducible exact Nat.le_refl _) | (simp; done) | (simp; omega)))⟩

set_option maxRecDepth 100000 in
theorem DiagTurns_lifted (os : Os) (started : os.Started) (H : Type) (enc : TypeId × Value → H) :
    ReturnsInHanded {} Try.checked os 5 .any (Rows.diagTurnsSpec.pre6 enc Try.prog Try.f5 Rows.diagTurnsRow.domain false) (Rows.diagTurnsSpec.post enc Try.prog Try.f5 false true false false) := by
  refine returnsInHanded_of_change (C := Try.checked) own started (by kernel_rfl) Try.func5
    (ChangeSpec.witness6 (enc := enc) (C := Try.checked) false ⟨#[], #[.slice none 0 0, .int .i64 0], []⟩ 8 (by kernel_rfl) (by kernel_rfl) (by kernel_rfl) (by kernel_rfl)) ?_
  intro W base args ds gs before hval0 hW hcnd _
  have hval : ∀ (j : Nat) t v, Try.f5.params[j]? = some t → args[j]? = some v → Value.okWide Try.prog W .any base t v := hval0
  have hW' := hW
  obtain ⟨p, q, hA0, hV, rfl, hfz, hnd⟩ := hW
  have hA : DataW.TrodAll enc Try.prog W 0 (fun _ => true) true Try.f5.params.toList args.toList ds p := hA0
  rw [Try.params5] at hA hval
  obtain ⟨v0, vs0, d0, ds0, p0, q0, hargs, rfl, rfl, h0, r0⟩ := trodAll_cons hA
  obtain ⟨v1, vs1, d1, ds1, p1, q1, rfl, rfl, rfl, h1, r1⟩ := trodAll_cons r0
  obtain ⟨rfl, rfl, rfl⟩ := trodAll_nil r1
  obtain rfl : args = #[v0, v1] := by cases args; simp_all
  obtain ⟨rfl, rfl⟩ := trodVars_none hV
  have k0 := h0
  have lt0 : ∀ x ∈ p0, x.block < W.heap.size := by obtain ⟨m, hm⟩ := k0; exact DataW.trod_lt m _ _ _ hm
  have k1 := h1
  have lt1 : ∀ x ∈ p1, x.block < W.heap.size := by obtain ⟨m, hm⟩ := k1; exact DataW.trod_lt m _ _ _ hm
  obtain ⟨a0, cap0, z0, rfl, hl0, hm0, hh0, hr0, iz0⟩ := open_ints1 Try.underlying31 Try.underlying3 (by kernel_rfl) (hval 0 31 v0 rfl rfl) k0
  obtain ⟨a1, rfl, w1⟩ := open_int1 Try.underlying3 (hval 1 3 v1 rfl rfl)
  clear hA0 hval0
  refine (diagTurns_walk a0 cap0 z0 a1 W ⟨hl0, hm0⟩ hh0 hr0 iz0 w1).mono fun e W' ⟨he, bel⟩ => ?_
  subst he
  exact ⟨_, rfl, _, _, _, [], _, [], hW', trodAll_mk1 (shut_bool Try.underlying4 _), (trodAll_cons_mk (Below.trod laidOut (by kernel_rfl) (of_decide_eq_true (by kernel_rfl)) k0 bel lt0) (trodAll_cons_mk (Below.trod laidOut (by kernel_rfl) (of_decide_eq_true (by kernel_rfl)) k1 bel lt1) trodAll_mk0)), rfl, bel.frame _, fun h => by cases h⟩

theorem DiagTurns_over : Rows.diagTurnsRow.holds Try.pinned (OpenSpec.ofChange Rows.diagTurnsSpec) :=
  OpenClaim.holds_of_wide 5 Try.f5 rfl rfl rfl rfl rfl rfl rfl ⟨rfl, rfl, rfl, rfl, rfl⟩ rfl rfl rfl rfl rfl (by kernel_rfl) Try.func5 (by kernel_rfl)
    (of_decide_eq_true (by kernel_rfl)) (by unfold Func.isWrapper; first | (rw [if_pos (by decide +kernel)]; kernel_rfl) | (rw [if_neg (by decide +kernel)]; exact ⟨rfl, rfl⟩))
    (fun os started H enc _ => DiagTurns_lifted os started H enc)

/-- The given statement. -/
theorem DiagTurns_holds : Rows.DiagTurnsSaid := DiagTurns_over
#print axioms DiagTurns_holds
end Go.Proofs.Ytiieckcghjhdeaa
