/- The law GapLasts: the walk, and the given statement. -/
import Derived.Test.YtgfijjhcdbmdaaaGapC
namespace Go.Proofs.Ytgfijjhcdbmdaaa
open Go.ChangeShapes Go.WideShapes Go.ChangeAt Go.RowKit
set_option linter.unusedVariables false

/-- The phase in memory. -/
def LastSt (w wr : World) (pon : Bool) (pmin pgap pmax ptop pstep pyel pred pwalk pblinks prec : Int) (plock prest : Bool) : Prop :=
  Below w.heap.size w wr ∧ LeSize (w.heap.size + 1) wr ∧ (wr.cell? ⟨w.heap.size, 0, none⟩ = some (.bool pon) ∧ wr.cell? ⟨w.heap.size, 1, none⟩ = some (.int .i64 pmin) ∧ wr.cell? ⟨w.heap.size, 2, none⟩ = some (.int .i64 pgap) ∧ wr.cell? ⟨w.heap.size, 3, none⟩ = some (.int .i64 pmax) ∧ wr.cell? ⟨w.heap.size, 4, none⟩ = some (.int .i64 ptop) ∧ wr.cell? ⟨w.heap.size, 5, none⟩ = some (.int .i64 pstep) ∧ wr.cell? ⟨w.heap.size, 6, none⟩ = some (.int .i64 pyel) ∧ wr.cell? ⟨w.heap.size, 7, none⟩ = some (.int .i64 pred) ∧ wr.cell? ⟨w.heap.size, 8, none⟩ = some (.int .i64 pwalk) ∧ wr.cell? ⟨w.heap.size, 9, none⟩ = some (.int .i64 pblinks) ∧ wr.cell? ⟨w.heap.size, 10, none⟩ = some (.int .i64 prec) ∧ wr.cell? ⟨w.heap.size, 11, none⟩ = some (.bool plock) ∧ wr.cell? ⟨w.heap.size, 12, none⟩ = some (.bool prest))
def LastRel (g : Int) (k : Nat) (left last : Int) : Prop := left = max 0 (g - ((k : Int) - 1 - last)) ∧ -1000 ≤ last ∧ last < k
theorem lastRel_here {g : Int} {k : Nat} {b : Bool} {left last : Int} (hg : 0 ≤ g ∧ g < 30) (hk : k ≤ 200) (h : LastRel g k left last) :
    leftM g left true = max 0 (g - ((k : Int) - k)) ∧ LastRel g (k + 1) (leftM g left true) k := by
  obtain ⟨h1, h2, h3⟩ := h
  refine ⟨by unfold leftM; simp; omega, ?_, ?_, ?_⟩ <;> (try unfold leftM) <;> simp <;> omega
theorem lastRel_off {g : Int} {k : Nat} {left last : Int} (hg : 0 ≤ g ∧ g < 30) (hk : k ≤ 200) (h : LastRel g k left last) :
    leftM g left false = max 0 (g - ((k : Int) - last)) ∧ LastRel g (k + 1) (leftM g left false) last := by
  obtain ⟨h1, h2, h3⟩ := h
  have hc : cutT left = left := by unfold cutT; omega
  have : leftM g left false = max 0 (g - ((k : Int) - last)) := by
    unfold leftM lessM; rw [hc]; simp; split <;> omega
  exact ⟨this, by rw [this]; push_cast; omega, by omega, by push_cast; omega⟩
set_option maxHeartbeats 4000000 in
theorem gapLasts_walk (pon : Bool) (pmin pgap pmax ptop pstep pyel pred pwalk pblinks prec : Int) (plock prest : Bool) (a : Option Addr) (cap : Nat) (zs : List Bool) (w : World) (_ : InKind .i64 pmin) (_ : InKind .i64 pgap) (_ : InKind .i64 pmax) (_ : InKind .i64 ptop) (_ : InKind .i64 pstep) (_ : InKind .i64 pyel) (_ : InKind .i64 pred) (_ : InKind .i64 pwalk) (_ : InKind .i64 pblinks) (_ : InKind .i64 prec) (hl : zs.length ≤ cap ∧ cap ≤ 9223372036854775807) (hh : Hdr w a cap) (hi : Bools w a zs) :
    Calls Try.prog 5 #[.agg #[.bool pon, .int .i64 pmin, .int .i64 pgap, .int .i64 pmax, .int .i64 ptop, .int .i64 pstep, .int .i64 pyel, .int .i64 pred, .int .i64 pwalk, .int .i64 pblinks, .int .i64 prec, .bool plock, .bool prest], .slice a zs.length cap] w fun e w' => e = .returned (.bool true) ∧ Below w.heap.size w w' := by
  have HI := Lib.hid hi
  clear hi hh
  have hA0 : 0 ≤ pgap % 30 := Int.emod_nonneg _ (by decide)
  have hA1 : pgap % 30 < 30 := Int.emod_lt_of_pos _ (by decide)
  by_cases h200 : (200 : Int) < zs.length
  · go_enter Try.func5, Try.ntmps5
    go_wp2_with (first
    | (go_at_call 14; refine (place_any _ _ _ (by omega) (by omega)).mono ?_; rintro e w' ⟨rfl, rfl⟩)
    | (go_at_call 12; refine (Up.run (awake_any _)).mono ?_; rintro e w' ⟨rfl, u, rfl⟩))
    go_ret
    exact ⟨rfl, by (repeat' (first | (with_reducible exact Below.refl _ _) | (with_reducible assumption) | (with_reducible refine Below.setCell ?_ ?_ _) | (with_reducible refine Below.alloc ?_ ?_ _) | (with_reducible refine Below.drew ?_) | (with_reducible refine Up.base _ ?_ ?_) | (with_reducible exact LeSize.out) | exact LeSize.out | exact Nat.le_add_right_of_le LeSize.out | exact Nat.le_add_right_of_le (Nat.le_add_right_of_le LeSize.out) | (with_reducible exact Nat.le_refl _) | (simp; done) | (simp; omega)))⟩
  go_enter Try.func5, Try.ntmps5
  go_wp2_with (go_at_call 14; refine (place_any _ _ _ (by omega) (by omega)).mono ?_; rintro e w' ⟨rfl, rfl⟩)
  generalize pgap % 30 = g at *
  go_loopw [5, 6, 7] (fun l t i wr => ∃ (k : Nat) (left last : Int), k ≤ zs.length ∧ i = .int .i64 k ∧ l = .int .i64 left ∧ t = .int .i64 last ∧ LastRel g k left last ∧ LastSt w wr pon pmin g pmax ptop pstep pyel pred pwalk pblinks prec plock prest) (fun _ _ i _ => zs.length - (intOf i).toNat)
  case atStart =>
    refine ⟨0, 0, -1000, Nat.zero_le _, rfl, rfl, rfl, ⟨by omega, by omega, by omega⟩, ?_⟩
    unfold LastSt
    refine ⟨by (repeat' (first | (with_reducible exact Below.refl _ _) | (with_reducible assumption) | (with_reducible refine Below.setCell ?_ ?_ _) | (with_reducible refine Below.alloc ?_ ?_ _) | (with_reducible refine Below.drew ?_) | (with_reducible refine Up.base _ ?_ ?_) | (with_reducible exact LeSize.out) | exact LeSize.out | exact Nat.le_add_right_of_le LeSize.out | exact Nat.le_add_right_of_le (Nat.le_add_right_of_le LeSize.out) | (with_reducible exact Nat.le_refl _) | (simp; done) | (simp; omega))), inferInstance, ?_⟩
    simp [go_sem]
  case round =>
    obtain ⟨k, left, last, hk, rfl, rfl, rfl, hrl, hst⟩ := hrel
    obtain ⟨hb, i1, ⟨c0, c1, c2, c3, c4, c5, c6, c7, c8, c9, c10, c11, c12⟩⟩ := hst
    have i0 : LeSize w.heap.size wr := ⟨hb.size⟩
    by_cases hlt : k < zs.length
    · obtain ⟨b, off, rfl, hbs, hc⟩ := HI.out.cell (by omega)
      have hcell : wr.cell? ⟨b, off + k, none⟩ = some (.bool (zs.getD k false)) := by rw [hb.cell (p := ⟨b, off + k, none⟩) (by simpa using hbs)]; exact hc k hlt
      have ib : LeSize (b + 1) wr := ⟨Nat.le_trans hbs hb.size⟩
      have ib1 : LeSize b w := ⟨Nat.le_of_lt hbs⟩
      have ib2 : LeSize (b + 1) w := ⟨hbs⟩
      clear hc
      cases hz : zs.getD k false
      · rw [hz] at hcell
        clear hz
        obtain ⟨e1, e2⟩ := lastRel_off ⟨hA0, hA1⟩ (by omega) hrl
        have h2 := hrl.2
        have H2 := Lib.hid e2
        clear hrl e2
        go_wp2
        (refine wp_region_up (by kernel_rfl) (by kernel_rfl) ?_; (repeat (go_big_quiet_step ((first | (go_at_call 7; exact Up.calls (left_any _ _ _ _ _ _ _ _ _ _ _ _ _ _ _ _)) | fail)))); refine wpQuiet_nil ?_; rintro _ ⟨u, rfl⟩)
        go_wp2
        go_roundw
        case rel =>
          refine ⟨k + 1, _, last, by omega, by go_num, rfl, rfl, H2.out, ?_⟩
          unfold LastSt
          refine ⟨by (repeat' (first | (with_reducible exact Below.refl _ _) | (with_reducible assumption) | (with_reducible refine Below.setCell ?_ ?_ _) | (with_reducible refine Below.alloc ?_ ?_ _) | (with_reducible refine Below.drew ?_) | (with_reducible refine Up.base _ ?_ ?_) | (with_reducible exact LeSize.out) | exact LeSize.out | exact Nat.le_add_right_of_le LeSize.out | exact Nat.le_add_right_of_le (Nat.le_add_right_of_le LeSize.out) | (with_reducible exact Nat.le_refl _) | (simp; done) | (simp; omega))), inferInstance, ?_⟩
          simp [go_sem, c0, c1, c2, c3, c4, c5, c6, c7, c8, c9, c10, c11, c12]
        case measure => simp [intOf]; omega
      · rw [hz] at hcell
        clear hz
        obtain ⟨e1, e2⟩ := lastRel_here (b := true) ⟨hA0, hA1⟩ (by omega) hrl
        have h2 := hrl.2
        have H2 := Lib.hid e2
        clear hrl e2
        go_wp2
        (refine wp_region_up (by kernel_rfl) (by kernel_rfl) ?_; (repeat (go_big_quiet_step ((first | (go_at_call 7; exact Up.calls (left_any _ _ _ _ _ _ _ _ _ _ _ _ _ _ _ _)) | fail)))); refine wpQuiet_nil ?_; rintro _ ⟨u, rfl⟩)
        go_wp2
        go_roundw
        case rel =>
          refine ⟨k + 1, _, k, by omega, by go_num, rfl, rfl, H2.out, ?_⟩
          unfold LastSt
          refine ⟨by (repeat' (first | (with_reducible exact Below.refl _ _) | (with_reducible assumption) | (with_reducible refine Below.setCell ?_ ?_ _) | (with_reducible refine Below.alloc ?_ ?_ _) | (with_reducible refine Below.drew ?_) | (with_reducible refine Up.base _ ?_ ?_) | (with_reducible exact LeSize.out) | exact LeSize.out | exact Nat.le_add_right_of_le LeSize.out | exact Nat.le_add_right_of_le (Nat.le_add_right_of_le LeSize.out) | (with_reducible exact Nat.le_refl _) | (simp; done) | (simp; omega))), inferInstance, ?_⟩
          simp [go_sem, c0, c1, c2, c3, c4, c5, c6, c7, c8, c9, c10, c11, c12]
        case measure => simp [intOf]; omega
    · go_wp2_with (go_at_call 12; refine (Up.run (awake_any _)).mono ?_; rintro e w' ⟨rfl, u, rfl⟩)
      go_ret
      exact ⟨rfl, by (repeat' (first | (with_reducible exact Below.refl _ _) | (with_reducible assumption) | (with_reducible refine Below.setCell ?_ ?_ _) | (with_reducible refine Below.alloc ?_ ?_ _) | (with_reducible refine Below.drew ?_) | (with_reducible refine Up.base _ ?_ ?_) | (with_reducible exact LeSize.out) | exact LeSize.out | exact Nat.le_add_right_of_le LeSize.out | exact Nat.le_add_right_of_le (Nat.le_add_right_of_le LeSize.out) | (with_reducible exact Nat.le_refl _) | (simp; done) | (simp; omega)))⟩

abbrev tsGapLasts0 : List TypeId := [4, 3, 3, 3, 3, 3, 3, 3, 3, 3, 3, 4, 4]
set_option maxRecDepth 100000 in
theorem GapLasts_lifted (os : Os) (started : os.Started) (H : Type) (enc : TypeId × Value → H) :
    ReturnsInHanded {} Try.checked os 5 .any (Rows.gapLastsSpec.pre6 enc Try.prog Try.f5 Rows.gapLastsRow.domain false) (Rows.gapLastsSpec.post enc Try.prog Try.f5 false true false false) := by
  refine returnsInHanded_of_change (C := Try.checked) own started (by kernel_rfl) Try.func5
    (ChangeSpec.witness6 (enc := enc) (C := Try.checked) false ⟨#[], #[.agg #[.bool false, .int .i64 0, .int .i64 0, .int .i64 0, .int .i64 0, .int .i64 0, .int .i64 0, .int .i64 0, .int .i64 0, .int .i64 0, .int .i64 0, .bool false, .bool false], .slice none 0 0], []⟩ 8 (by kernel_rfl) (by kernel_rfl) (by kernel_rfl) (by kernel_rfl)) ?_
  intro W base args ds gs before hval0 hW hcnd _
  have hval : ∀ (j : Nat) t v, Try.f5.params[j]? = some t → args[j]? = some v → Value.okWide Try.prog W .any base t v := hval0
  have hW' := hW
  obtain ⟨p, q, hA0, hV, rfl, hfz, hnd⟩ := hW
  have hA : DataW.TrodAll enc Try.prog W 0 (fun _ => true) true Try.f5.params.toList args.toList ds p := hA0
  rw [Try.params5] at hA hval
  obtain ⟨v0, vs0, d0, ds0, p0, q0, hargs, rfl, rfl, h0, r0⟩ := trodAll_cons hA
  obtain ⟨v1, vs1, d1, ds1, p1, q1, rfl, rfl, rfl, h1, r1⟩ := trodAll_cons r0
  obtain ⟨rfl, rfl, rfl⟩ := trodAll_nil r1
  obtain rfl : args = #[v0, v1] := by cases args; simp_all
  obtain ⟨rfl, rfl⟩ := trodVars_none hV
  have k0 := h0
  have lt0 : ∀ x ∈ p0, x.block < W.heap.size := by obtain ⟨m, hm⟩ := k0; exact DataW.trod_lt m _ _ _ hm
  have k1 := h1
  have lt1 : ∀ x ∈ p1, x.block < W.heap.size := by obtain ⟨m, hm⟩ := k1; exact DataW.trod_lt m _ _ _ hm
  obtain ⟨cs0, rfl, hs0, hf0⟩ := open_flat (ts := tsGapLasts0) (by rw [Try.underlying23]) (by kernel_rfl) (by kernel_rfl) (hval 0 23 v0 rfl rfl)
  obtain ⟨e0_0, e0_1, e0_2, e0_3, e0_4, e0_5, e0_6, e0_7, e0_8, e0_9, e0_10, e0_11, e0_12, rfl⟩ := arr13 cs0 hs0
  obtain ⟨a0_0, rfl⟩ := Fit.bool (t := 4) (v := e0_0) (hf0 0 (by simp)) Try.underlying4
  obtain ⟨a0_1, rfl, w0_1⟩ := Fit.int (t := 3) (v := e0_1) (hf0 1 (by simp)) Try.underlying3
  obtain ⟨a0_2, rfl, w0_2⟩ := Fit.int (t := 3) (v := e0_2) (hf0 2 (by simp)) Try.underlying3
  obtain ⟨a0_3, rfl, w0_3⟩ := Fit.int (t := 3) (v := e0_3) (hf0 3 (by simp)) Try.underlying3
  obtain ⟨a0_4, rfl, w0_4⟩ := Fit.int (t := 3) (v := e0_4) (hf0 4 (by simp)) Try.underlying3
  obtain ⟨a0_5, rfl, w0_5⟩ := Fit.int (t := 3) (v := e0_5) (hf0 5 (by simp)) Try.underlying3
  obtain ⟨a0_6, rfl, w0_6⟩ := Fit.int (t := 3) (v := e0_6) (hf0 6 (by simp)) Try.underlying3
  obtain ⟨a0_7, rfl, w0_7⟩ := Fit.int (t := 3) (v := e0_7) (hf0 7 (by simp)) Try.underlying3
  obtain ⟨a0_8, rfl, w0_8⟩ := Fit.int (t := 3) (v := e0_8) (hf0 8 (by simp)) Try.underlying3
  obtain ⟨a0_9, rfl, w0_9⟩ := Fit.int (t := 3) (v := e0_9) (hf0 9 (by simp)) Try.underlying3
  obtain ⟨a0_10, rfl, w0_10⟩ := Fit.int (t := 3) (v := e0_10) (hf0 10 (by simp)) Try.underlying3
  obtain ⟨a0_11, rfl⟩ := Fit.bool (t := 4) (v := e0_11) (hf0 11 (by simp)) Try.underlying4
  obtain ⟨a0_12, rfl⟩ := Fit.bool (t := 4) (v := e0_12) (hf0 12 (by simp)) Try.underlying4
  obtain ⟨a1, cap1, z1, rfl, hl1, hm1, hh1, hr1⟩ := open_bools1 Try.underlying32 Try.underlying4 (by kernel_rfl) (hval 1 32 v1 rfl rfl) k1
  clear hA0 hval0
  refine (gapLasts_walk a0_0 a0_1 a0_2 a0_3 a0_4 a0_5 a0_6 a0_7 a0_8 a0_9 a0_10 a0_11 a0_12 a1 cap1 z1 W w0_1 w0_2 w0_3 w0_4 w0_5 w0_6 w0_7 w0_8 w0_9 w0_10 ⟨hl1, hm1⟩ hh1 hr1).mono fun e W' ⟨he, bel⟩ => ?_
  subst he
  exact ⟨_, rfl, _, _, _, [], _, [], hW', trodAll_mk1 (shut_bool Try.underlying4 _), (trodAll_cons_mk (Below.trod laidOut (by kernel_rfl) (of_decide_eq_true (by kernel_rfl)) k0 bel lt0) (trodAll_cons_mk (Below.trod laidOut (by kernel_rfl) (of_decide_eq_true (by kernel_rfl)) k1 bel lt1) trodAll_mk0)), rfl, bel.frame _, fun h => by cases h⟩

theorem GapLasts_over : Rows.gapLastsRow.holds Try.pinned (OpenSpec.ofChange Rows.gapLastsSpec) :=
  OpenClaim.holds_of_wide 5 Try.f5 rfl rfl rfl rfl rfl rfl rfl ⟨rfl, rfl, rfl, rfl, rfl⟩ rfl rfl rfl rfl rfl (by kernel_rfl) Try.func5 (by kernel_rfl)
    (of_decide_eq_true (by kernel_rfl)) (by unfold Func.isWrapper; first | (rw [if_pos (by decide +kernel)]; kernel_rfl) | (rw [if_neg (by decide +kernel)]; exact ⟨rfl, rfl⟩))
    (fun os started H enc _ => GapLasts_lifted os started H enc)

/-- The given statement. -/
theorem GapLasts_holds : Rows.GapLastsSaid := GapLasts_over
#print axioms GapLasts_holds
end Go.Proofs.Ytgfijjhcdbmdaaa
