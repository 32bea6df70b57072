/- The law SatSum on package sat: the walk, and the given statement. -/
import Derived.Test.YtjjlcjafadigkaaSatB
import Derived.Deep.RegionWith
namespace Go.Proofs.Ytjjlcjafadigkaa
open Go.ChangeShapes Go.WideShapes Go.ChangeAt Go.RowKit
set_option linter.unusedVariables false

set_option maxHeartbeats 400000 in
theorem rsum_any (a : Option Addr) (cap : Nat) (zs : List Int) (w : World) (hm : zs.length ≤ 9223372036854775807) (hi : Ints w a zs) :
    Calls Try.prog 10 #[.slice a zs.length cap] w fun e w' => e = .returned (.int .i64 (sumM zs)) ∧ w = w' := by
  have HI := Lib.hid hi
  clear hi
  go_enter Try.func10, Try.ntmps10
  go_wp2
  go_loop [3, 4] (fun n i => ∃ k : Nat, k ≤ zs.length ∧ i = .int .i64 k ∧ n = .int .i64 (sumM (zs.take k))) (fun _ i => zs.length - (intOf i).toNat)
  case atStart => exact ⟨0, Nat.zero_le _, rfl, rfl⟩
  case round =>
    obtain ⟨k, hk, rfl, rfl⟩ := hrel
    by_cases hlt : k < zs.length
    · obtain ⟨b, off, rfl, _, hc⟩ := HI.out.cell (by omega)
      have hcell := hc k hlt
      clear hc
      have hs : Hid (sumM (zs.take (k + 1)) = addM (sumM (zs.take k)) (zs.getD k 0)) := by
        rw [← sumM_snoc, List.take_succ_eq_append_getElem (by omega)]
        simp [List.getD, show k < zs.length by omega, Hid]
      go_wp2_with (go_at_call 16; refine (radd_any _ _ _).mono ?_; rintro e w' ⟨rfl, rfl⟩)
      go_round
      case rel => exact ⟨k + 1, by omega, by go_num, by rw [hs.out]; simp [hlt]⟩
      case measure => simp [intOf]; omega
    · go_wp2
      go_ret
      exact ⟨ret_int (by rw [List.take_of_length_le (by omega)]), rfl⟩

/-- The two parts of a slice. -/
theorem Ints.take {w : World} {a : Option Addr} {zs : List Int} (h : Ints w a zs) (k : Nat) : Ints w a (zs.take k) := by
  rcases h with h | ⟨b, off, ha, hlt, hc⟩
  · exact .inl (by rw [List.length_take]; omega)
  · refine .inr ⟨b, off, ha, hlt, fun i hi => ?_⟩
    simp at hi
    rw [hc i (by omega)]
    have hk : i < k := by omega
    simp [List.getD, hk]
theorem Ints.drop {w : World} {b off : Nat} {zs : List Int} (h : Ints w (some ⟨b, off, none⟩) zs) (k : Nat) : Ints w (some ⟨b, off + k, none⟩) (zs.drop k) := by
  rcases h with h | ⟨b, off, ha, hlt, hc⟩
  · exact .inl (by simp; omega)
  · cases ha
    refine .inr ⟨_, _, rfl, hlt, fun i hi => ?_⟩
    simp at hi
    rw [Nat.add_assoc, hc (k + i) (by omega)]
    simp [List.getD]
theorem Ints.nil (w : World) (a : Option Addr) : Ints w a [] := .inl rfl
theorem rsum_len (a : Option Addr) (len cap : Nat) (zs : List Int) (w : World) (hl : zs.length = len) (hm : len ≤ 9223372036854775807) (hi : Ints w a zs) :
    Calls Try.prog 10 #[.slice a len cap] w fun e w' => e = .returned (.int .i64 (sumM zs)) ∧ w = w' := by
  subst hl; exact rsum_any a cap zs w hm hi
set_option maxHeartbeats 1000000 in
theorem satSum_mid (b off : Nat) (cap : Nat) (zs : List Int) (k : Nat) (w : World) (hl : zs.length ≤ cap ∧ cap ≤ 9223372036854775807) (hi : Ints w (some ⟨b, off, none⟩) zs) (hk : k < zs.length) :
    Calls Try.prog 3 #[.slice (some ⟨b, off, none⟩) zs.length cap, .int .i64 k] w fun e w' => e = .returned (.bool true) ∧ Below w.heap.size w w' := by
  have hm : zs.length ≤ 9223372036854775807 := by omega
  have e1 : (addM (sumM (zs.take k)) (sumM (zs.drop k)) == sumM zs) = true := by rw [← sumM_append, List.take_append_drop]; simp
  have e2 : (sumM [] == 0) = true := by decide
  go_enter Try.func3, Try.ntmps3
  go_wp2_with (first
    | (go_at_call 8; refine (awake_any _).mono ?_; rintro e w' ⟨rfl, hb⟩)
    | (go_at_call 9; refine (sum_any _ _ _ _ (by assumption) (by first | assumption | exact Ints.drew (by assumption))).mono ?_; rintro e w' ⟨rfl, rfl⟩))
  · go_ret; exact ⟨rfl, hb⟩
  · (refine wp_region_up (by kernel_rfl) (by kernel_rfl) ?_; (repeat (go_big_quiet_step ((first | (go_at_call 8; exact Up.calls (awake_any _)) | (go_at_call 10; exact Up.pure (rsum_any _ _ _ _ (by assumption) (Row1.up _ (by assumption)))) | (go_at_call 9; exact Up.pure (sum_len _ _ _ (zs.take k) _ (by rw [List.length_take]; omega) (by omega) (Ints.take (Row1.up _ (by assumption)) k))) | (go_at_call 9; exact Up.pure (sum_len _ _ _ (zs.drop k) _ (by rw [List.length_drop]) (by omega) (Ints.drop (Row1.up _ (by assumption)) k))) | (go_at_call 9; exact Up.pure (sum_len _ _ _ [] _ (by simp) (by simp) (Ints.nil _ _))) | (go_at_call 11; exact Up.pure (add_any _ _ _)) | fail)))); refine wpQuiet_nil ?_; rintro _ ⟨u, rfl⟩)
    go_wp2
    go_ret
    exact ⟨rfl, u.bel⟩

set_option maxHeartbeats 1000000 in
theorem satSum_end (b off : Nat) (cap : Nat) (zs : List Int) (c : Int) (w : World) (hl : zs.length ≤ cap ∧ cap ≤ 9223372036854775807) (hi : Ints w (some ⟨b, off, none⟩) zs) (hk : ¬ (0 ≤ c ∧ c < zs.length)) :
    Calls Try.prog 3 #[.slice (some ⟨b, off, none⟩) zs.length cap, .int .i64 c] w fun e w' => e = .returned (.bool true) ∧ Below w.heap.size w w' := by
  have hm : zs.length ≤ 9223372036854775807 := by omega
  have e1 : (addM (sumM zs) (sumM []) == sumM zs) = true := by rw [← sumM_append, List.append_nil]; simp
  have e2 : (sumM [] == 0) = true := by decide
  by_cases hc0 : 0 ≤ c
  · have hc1 : ¬ c < zs.length := by omega
    clear hk
    by_cases hcap : cap = zs.length
    all_goals
      (try subst hcap)
      go_enter Try.func3, Try.ntmps3
      go_wp2_with (first
    | (go_at_call 8; refine (awake_any _).mono ?_; rintro e w' ⟨rfl, hb⟩)
    | (go_at_call 9; refine (sum_any _ _ _ _ (by assumption) (by first | assumption | exact Ints.drew (by assumption))).mono ?_; rintro e w' ⟨rfl, rfl⟩))
      · go_ret; exact ⟨rfl, hb⟩
      · (refine wp_region_up (by kernel_rfl) (by kernel_rfl) ?_; (repeat (go_big_quiet_step ((first | (go_at_call 8; exact Up.calls (awake_any _)) | (go_at_call 10; exact Up.pure (rsum_any _ _ _ _ (by assumption) (Row1.up _ (by assumption)))) | (go_at_call 9; exact Up.pure (sum_len _ _ _ zs _ rfl (by omega) (Row1.up _ (by assumption)))) | (go_at_call 9; exact Up.pure (sum_len _ _ _ [] _ (by simp) (by first | omega | simp) (Ints.nil _ _))) | (go_at_call 9; exact Up.pure (sum_len _ _ _ [] _ (by simp) (by simp) (Ints.nil _ _))) | (go_at_call 11; exact Up.pure (add_any _ _ _)) | fail)))); refine wpQuiet_nil ?_; rintro _ ⟨u, rfl⟩)
        go_wp2
        go_ret
        exact ⟨rfl, u.bel⟩
  · clear hk
    by_cases hcap : cap = zs.length
    all_goals
      (try subst hcap)
      go_enter Try.func3, Try.ntmps3
      go_wp2_with (first
    | (go_at_call 8; refine (awake_any _).mono ?_; rintro e w' ⟨rfl, hb⟩)
    | (go_at_call 9; refine (sum_any _ _ _ _ (by assumption) (by first | assumption | exact Ints.drew (by assumption))).mono ?_; rintro e w' ⟨rfl, rfl⟩))
      · go_ret; exact ⟨rfl, hb⟩
      · (refine wp_region_up (by kernel_rfl) (by kernel_rfl) ?_; (repeat (go_big_quiet_step ((first | (go_at_call 8; exact Up.calls (awake_any _)) | (go_at_call 10; exact Up.pure (rsum_any _ _ _ _ (by assumption) (Row1.up _ (by assumption)))) | (go_at_call 9; exact Up.pure (sum_len _ _ _ zs _ rfl (by omega) (Row1.up _ (by assumption)))) | (go_at_call 9; exact Up.pure (sum_len _ _ _ [] _ (by simp) (by first | omega | simp) (Ints.nil _ _))) | (go_at_call 9; exact Up.pure (sum_len _ _ _ [] _ (by simp) (by simp) (Ints.nil _ _))) | (go_at_call 11; exact Up.pure (add_any _ _ _)) | fail)))); refine wpQuiet_nil ?_; rintro _ ⟨u, rfl⟩)
        go_wp2
        go_ret
        exact ⟨rfl, u.bel⟩
set_option maxHeartbeats 1000000 in
theorem satSum_nil (c : Int) (w : World) :
    Calls Try.prog 3 #[.slice none 0 0, .int .i64 c] w fun e w' => e = .returned (.bool true) ∧ Below w.heap.size w w' := by
  have e1 : (addM (sumM []) (sumM []) == sumM []) = true := by decide
  have e2 : (sumM [] == 0) = true := by decide
  by_cases hc0 : 0 ≤ c
  · have hc1 : ¬ c < 0 := by omega
    go_enter Try.func3, Try.ntmps3
    go_wp2_with (first
    | (go_at_call 8; refine (awake_any _).mono ?_; rintro e w' ⟨rfl, hb⟩)
    | (go_at_call 9; refine (sum_len _ _ _ [] _ (by simp) (by simp) (Ints.nil _ _)).mono ?_; rintro e w' ⟨rfl, rfl⟩))
    · (refine wp_region_up (by kernel_rfl) (by kernel_rfl) ?_; (repeat (go_big_quiet_step ((first | (go_at_call 8; exact Up.calls (awake_any _)) | (go_at_call 10; exact Up.pure (rsum_len _ _ _ [] _ (by simp) (by simp) (Ints.nil _ _))) | (go_at_call 9; exact Up.pure (sum_len _ _ _ [] _ (by simp) (by simp) (Ints.nil _ _))) | (go_at_call 11; exact Up.pure (add_any _ _ _)) | fail)))); refine wpQuiet_nil ?_; rintro _ ⟨u, rfl⟩)
      go_wp2
      go_ret
      exact ⟨rfl, u.bel⟩
  · go_enter Try.func3, Try.ntmps3
    go_wp2_with (first
    | (go_at_call 8; refine (awake_any _).mono ?_; rintro e w' ⟨rfl, hb⟩)
    | (go_at_call 9; refine (sum_len _ _ _ [] _ (by simp) (by simp) (Ints.nil _ _)).mono ?_; rintro e w' ⟨rfl, rfl⟩))
    · (refine wp_region_up (by kernel_rfl) (by kernel_rfl) ?_; (repeat (go_big_quiet_step ((first | (go_at_call 8; exact Up.calls (awake_any _)) | (go_at_call 10; exact Up.pure (rsum_len _ _ _ [] _ (by simp) (by simp) (Ints.nil _ _))) | (go_at_call 9; exact Up.pure (sum_len _ _ _ [] _ (by simp) (by simp) (Ints.nil _ _))) | (go_at_call 11; exact Up.pure (add_any _ _ _)) | fail)))); refine wpQuiet_nil ?_; rintro _ ⟨u, rfl⟩)
      go_wp2
      go_ret
      exact ⟨rfl, u.bel⟩

theorem satSum_walk (a : Option Addr) (cap : Nat) (zs : List Int) (c : Int) (w : World) (hl : zs.length ≤ cap ∧ cap ≤ 9223372036854775807) (hh : Hdr w a cap) (hi : Ints w a zs) (_ : ∀ i, i < zs.length → InKind .i64 (zs.getD i 0)) (_ : InKind .i64 c) :
    Calls Try.prog 3 #[.slice a zs.length cap, .int .i64 c] w fun e w' => e = .returned (.bool true) ∧ Below w.heap.size w w' := by
  rcases hh with ⟨rfl, rfl⟩ | ⟨b, off, rfl, _⟩
  · have : zs = [] := List.eq_nil_of_length_eq_zero (by omega)
    subst this
    exact satSum_nil c w
  · by_cases hc : 0 ≤ c ∧ c < zs.length
    · obtain ⟨k, rfl⟩ := Int.eq_ofNat_of_zero_le hc.1
      exact satSum_mid b off cap zs k w hl hi (by omega)
    · exact satSum_end b off cap zs c w hl hi hc

set_option maxRecDepth 100000 in
theorem SatSum_lifted (os : Os) (started : os.Started) (H : Type) (enc : TypeId × Value → H) :
    ReturnsInHanded {} Try.checked os 3 .any (Rows.satSumSpec.pre6 enc Try.prog Try.f3 Rows.satSumRow.domain false) (Rows.satSumSpec.post enc Try.prog Try.f3 false true false false) := by
  refine returnsInHanded_of_change (C := Try.checked) own started (by kernel_rfl) Try.func3
    (ChangeSpec.witness6 (enc := enc) (C := Try.checked) false ⟨#[], #[.slice none 0 0, .int .i64 0], []⟩ 8 (by kernel_rfl) (by kernel_rfl) (by kernel_rfl) (by kernel_rfl)) ?_
  intro W base args ds gs before hval0 hW hcnd _
  have hval : ∀ (j : Nat) t v, Try.f3.params[j]? = some t → args[j]? = some v → Value.okWide Try.prog W .any base t v := hval0
  have hW' := hW
  obtain ⟨p, q, hA0, hV, rfl, hfz, hnd⟩ := hW
  have hA : DataW.TrodAll enc Try.prog W 0 (fun _ => true) true Try.f3.params.toList args.toList ds p := hA0
  rw [Try.params3] at hA hval
  obtain ⟨v0, vs0, d0, ds0, p0, q0, hargs, rfl, rfl, h0, r0⟩ := trodAll_cons hA
  obtain ⟨v1, vs1, d1, ds1, p1, q1, rfl, rfl, rfl, h1, r1⟩ := trodAll_cons r0
  obtain ⟨rfl, rfl, rfl⟩ := trodAll_nil r1
  obtain rfl : args = #[v0, v1] := by cases args; simp_all
  obtain ⟨rfl, rfl⟩ := trodVars_none hV
  have k0 := h0
  have lt0 : ∀ x ∈ p0, x.block < W.heap.size := by obtain ⟨m, hm⟩ := k0; exact DataW.trod_lt m _ _ _ hm
  have k1 := h1
  have lt1 : ∀ x ∈ p1, x.block < W.heap.size := by obtain ⟨m, hm⟩ := k1; exact DataW.trod_lt m _ _ _ hm
  obtain ⟨a0, cap0, z0, rfl, hl0, hm0, hh0, hr0, iz0⟩ := open_ints1 Try.underlying22 Try.underlying3 (by kernel_rfl) (hval 0 22 v0 rfl rfl) k0
  obtain ⟨a1, rfl, w1⟩ := open_int1 Try.underlying3 (hval 1 3 v1 rfl rfl)
  clear hA0 hval0
  refine (satSum_walk a0 cap0 z0 a1 W ⟨hl0, hm0⟩ hh0 hr0 iz0 w1).mono fun e W' ⟨he, bel⟩ => ?_
  subst he
  exact ⟨_, rfl, _, _, _, [], _, [], hW', trodAll_mk1 (shut_bool Try.underlying4 _), (trodAll_cons_mk (Below.trod laidOut (by kernel_rfl) (of_decide_eq_true (by kernel_rfl)) k0 bel lt0) (trodAll_cons_mk (Below.trod laidOut (by kernel_rfl) (of_decide_eq_true (by kernel_rfl)) k1 bel lt1) trodAll_mk0)), rfl, bel.frame _, fun h => by cases h⟩

theorem SatSum_over : Rows.satSumRow.holds Try.pinned (OpenSpec.ofChange Rows.satSumSpec) :=
  OpenClaim.holds_of_wide 3 Try.f3 rfl rfl rfl rfl rfl rfl rfl ⟨rfl, rfl, rfl, rfl, rfl⟩ rfl rfl rfl rfl rfl (by kernel_rfl) Try.func3 (by kernel_rfl)
    (of_decide_eq_true (by kernel_rfl)) (by unfold Func.isWrapper; first | (rw [if_pos (by decide +kernel)]; kernel_rfl) | (rw [if_neg (by decide +kernel)]; exact ⟨rfl, rfl⟩))
    (fun os started H enc _ => SatSum_lifted os started H enc)

/-- The given statement. -/
theorem SatSum_holds : Rows.SatSumSaid := SatSum_over
#print axioms SatSum_holds
end Go.Proofs.Ytjjlcjafadigkaa
