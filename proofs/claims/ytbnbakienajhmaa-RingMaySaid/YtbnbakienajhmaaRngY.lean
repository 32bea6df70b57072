/- The law RingMay. The law RingMay: the walk. -/
import Derived.Test.YtbnbakienajhmaaRngU
import Derived.Test.YtbnbakienajhmaaRngS
namespace Go.Proofs.Ytbnbakienajhmaa
section
open Go.ChangeShapes Go.WideShapes Go.ChangeAt Go.RowKit Go.Shelf
set_option linter.unusedVariables false
attribute [local go_sem] IsBlk.cell IsBlk.frozen

/-! ### How the arguments are opened -/
def ruTs : List TypeId := [3, 3, 3, 3, 3, 3, 3, 4, 4, 3, 3, 3]
def runsTs : List TypeId := (List.replicate 8 ruTs).flatten
def zRuns : Value := .agg (List.replicate 8 [Value.int .i64 0, .int .i64 0, .int .i64 0, .int .i64 0, .int .i64 0, .int .i64 0, .int .i64 0, .bool false, .bool false, .int .i64 0, .int .i64 0, .int .i64 0]).flatten.toArray
theorem runsTs_get : ∀ k : Fin 8, ∀ j : Fin 12, runsTs.getD (k.1 * 12 + j.1) 0 = ruTs.getD j.1 0 := by decide +kernel
def iOf : Value → Int | .int _ n => n | _ => 0
def bOf : Value → Bool | .bool b => b | _ => false
def ruOf (R : Array Value) (k : Nat) : Rn :=
  let g := fun j => (R[k * 12 + j]?).getD undef
  ⟨iOf (g 0), iOf (g 1), iOf (g 2), iOf (g 3), iOf (g 4), iOf (g 5), iOf (g 6), bOf (g 7), bOf (g 8), iOf (g 9), iOf (g 10), iOf (g 11)⟩
set_option maxRecDepth 100000 in
theorem open_runs {H : Type} {enc : TypeId × Value → H} {w : World} {spare : Nat → Bool} {held : Bool} {r : Go.Reach} {base' base : Nat} {v : Value} {d : DataW H} {ps : List MemPlace}
    (hval : Value.okWide Try.prog w r base' 46 v) (hd : DataW.Trod enc Try.prog w base spare held 46 v d ps) :
    ∃ R : Array Value, ∃ rn : Nat → Rn, v = .agg R ∧ IsRuns R rn := by
  obtain ⟨cs, rfl, hs, hf⟩ := open_flat (ts := runsTs) (by rw [Try.underlying46]) (by kernel_rfl) (by kernel_rfl) hval
  have hs96 : cs.size = 96 := hs
  refine ⟨cs, ruOf cs, rfl, hs96, fun k hk j hj => ?_⟩
  have hlt : k * 12 + j < cs.size := by omega
  have h1 := hf (k * 12 + j) hlt
  rw [runsTs_get ⟨k, hk⟩ ⟨j, hj⟩] at h1
  have e : (cs[k * 12 + j]?) = some cs[k * 12 + j] := Array.getElem?_eq_getElem hlt
  rw [e]
  have ei : ∀ n, cs[k * 12 + j] = .int .i64 n → iOf ((cs[k * 12 + j]?).getD undef) = n := fun n hn => by rw [e, hn]; rfl
  have eb : ∀ n, cs[k * 12 + j] = .bool n → bOf ((cs[k * 12 + j]?).getD undef) = n := fun n hn => by rw [e, hn]; rfl
  rcases (show j = 0 ∨ j = 1 ∨ j = 2 ∨ j = 3 ∨ j = 4 ∨ j = 5 ∨ j = 6 ∨ j = 7 ∨ j = 8 ∨ j = 9 ∨ j = 10 ∨ j = 11 by omega) with rfl | rfl | rfl | rfl | rfl | rfl | rfl | rfl | rfl | rfl | rfl | rfl
  all_goals first
    | (obtain ⟨n, hn, _⟩ := Fit.int (t := 3) h1 Try.underlying3
       have := ei n hn
       rw [hn, ← this]; rfl)
    | (obtain ⟨n, hn⟩ := Fit.bool (t := 4) h1 Try.underlying4
       have := eb n hn
       rw [hn, ← this]; rfl)
theorem rds_mem (rn : Nat → Rn) (q : Nat) (h : redM (rn q) = true) : ∀ n, n ≤ 8 → q < n → hasM (rdsN rn n) q = true
  | 0, _, hq => by omega
  | n + 1, hn, hq => by
    rw [rdsN_s rn n rfl]
    by_cases he : q = n
    · subst he
      rw [h, if_pos rfl, hasM_with]
      have : decide ((0 : Int) ≤ q ∧ (q : Int) < 8) = true := decide_eq_true (by omega)
      simp
      exact .inr (by omega)
    · have ih := rds_mem rn q h n (by omega) (by omega)
      split
      · rw [hasM_with, ih]; rfl
      · exact ih
/-- A phase that may begin. -/
theorem may_facts {t : Tab} {rn : Nat → Rn} {p : Nat} (h : mayM t rn p = true) : ((rn p).c == 1) = false ∧ ((rn p).c == 2) = false ∧ ((rn p).c == 3) = false ∧ decide ((rn p).t < t.rev) = false ∧ ∀ q : Nat, q < 8 → hasM (t.cf p) q = true → redM (rn q) = true := by
  unfold mayM at h
  simp only [Bool.and_eq_true, Bool.not_eq_true', List.all_eq_true] at h
  obtain ⟨⟨h1, h2⟩, h3⟩ := h
  unfold redM at h1
  simp only [Bool.and_eq_true, Bool.not_eq_true'] at h1
  refine ⟨h1.1.1, h1.1.2, h1.2, h2, fun q hq hh => ?_⟩
  exact h3 ⟨q, hq⟩ ((setF_mem (t.cf p) ⟨q, hq⟩ 8 (Nat.le_refl _)).2 ⟨hq, hh⟩)
theorem step_may (zs : List Int) (T : Array Value) (R : Array Value) (rn : Nat → Rn) (n : Nat) (a0 a1 want : Int) (x : Bool) (W : World) (hn : n < (tabM zs).gr.length) (hT : ∀ w', Below W.heap.size W w' → IsTab w' T (tabM zs)) (hR : IsRuns R rn) :
    ∃ (g' c0 c1 : Int) (cr : Bool) (st en : Int), (∀ w', Below W.heap.size W w' → Calls Try.prog 12 #[.agg T, .agg #[.int .i64 n, .int .i64 a0, .int .i64 a1, .bool x], .agg R, .int .i64 want] w' fun e w'' => e = .returned (.tuple #[.agg #[.int .i64 g', .int .i64 c0, .int .i64 c1, .bool cr], .int .i64 st, .int .i64 en]) ∧ Below w'.heap.size w' w'') ∧ MayOk (tabM zs) rn want n g' cr st en := by
  have hgl : (tabM zs).gr.length ≤ 8 := by have := rowsM_bd zs; have := groupsN_bd zs; show (rowsM zs).2.length ≤ 8; omega
  cases x
  · exact ⟨n, _, _, _, _, _, fun w' hb => ring_step_main T (tabM zs) R rn n a0 a1 want w' (hT w' hb) hR, step_ok zs rn n want a0 a1 hn⟩
  · have hk : InKind .i64 (n : Int) := by unfold InKind; omega
    have hs := fun w' hb => ring_step_cross T (tabM zs) R rn n a0 a1 want w' hk (hT w' hb) hR
    unfold crossV at hs
    cases hr : redsB rn 8
    · simp only [hr, Bool.false_eq_true, if_false] at hs
      exact ⟨n, a0, a1, true, 0, 0, hs, cross_ok _ _ _ _ _ _ fun _ => rfl⟩
    · simp only [hr, if_true] at hs
      exact ⟨_, -1, -1, false, 0, 0, hs, cross_ok _ _ _ _ _ _ fun h => by cases h⟩
end
section
open Go.ChangeShapes Go.WideShapes Go.ChangeAt Go.RowKit Go.Shelf
set_option linter.unusedVariables false
attribute [local go_sem] IsBlk.cell IsBlk.frozen

set_option maxHeartbeats 16000000 in
set_option maxRecDepth 100000 in
theorem ringMay_walk (a : Option Addr) (cap : Nat) (zs : List Int) (g a0 a1 : Int) (x : Bool) (R : Array Value) (rn : Nat → Rn) (want : Int) (w : World) (hl : zs.length ≤ cap ∧ cap ≤ 9223372036854775807) (_ : Hdr w a cap) (hz : Ints w a zs) (_ : ∀ i, i < zs.length → InKind .i64 (zs.getD i 0)) (_ : InKind .i64 g) (_ : InKind .i64 a0) (_ : InKind .i64 a1) (hR : IsRuns R rn) (_ : InKind .i64 want) :
    Calls Try.prog 4 #[.slice a zs.length cap, .agg #[.int .i64 g, .int .i64 a0, .int .i64 a1, .bool x], .agg R, .int .i64 want] w fun e w' => e = .returned (.bool true) ∧ Below w.heap.size w w' := by
  have HZ : Hid (∀ w', Below w.heap.size w w' → Ints w' a zs) := Lib.hid fun w' hb => Row1.below hz hb (Nat.le_refl _)
  have HZL : Hid (zs.length ≤ 9223372036854775807) := Lib.hid (by omega)
  have z := zeroTab
  have HR := Lib.hid hR
  haveI : Sz96 R := ⟨hR.1⟩
  have hn1 : 1 ≤ (tabM zs).gr.length := by have := rowsM_bd zs; have := groupsN_bd zs; show 1 ≤ (rowsM zs).2.length; omega
  clear hz hl hR
  go_enter Try.func4, Try.ntmps4
  go_upto_region 2 with (first | (go_at_call 7; refine (ltable_up _ _ _ _ HZL.out (HZ.out _ (by (repeat' (first | (with_reducible exact Below.refl _ _) | (with_reducible assumption) | (with_reducible refine Below.setCell ?_ ?_ _) | (with_reducible refine Below.alloc ?_ ?_ _) | (with_reducible refine Below.drew ?_) | (with_reducible refine Up.base _ ?_ ?_) | (with_reducible exact LeSize.out) | exact LeSize.out | exact Nat.le_add_right_of_le LeSize.out | exact Nat.le_add_right_of_le (Nat.le_add_right_of_le LeSize.out) | (with_reducible exact Nat.le_refl _) | (simp; done) | (simp; omega)))))).mono ?_; rintro e w' ⟨T, uT, rfl, rfl, hT⟩) | (refine l_newTab rfl rfl rfl rfl inferInstance hT rfl ?_; go_simp))
  haveI : Sz131 T := ⟨hT.size⟩
  have HT : Hid (∀ w', Below uT.w.heap.size uT.w w' → IsTab w' T (tabM zs)) := Lib.hid fun w' hb => hT.below hb (Nat.le_refl _)
  have hG0 : 0 ≤ ringG (tabM zs) g := Int.emod_nonneg _ (by omega)
  have hG1 : ringG (tabM zs) g < (tabM zs).gr.length := Int.emod_lt_of_pos _ (by omega)
  obtain ⟨n, hgn⟩ := Int.eq_ofNat_of_zero_le hG0
  have HRI : Hid (∀ w', Below uT.w.heap.size uT.w w' → Calls Try.prog 11 #[.agg T, .agg #[.int .i64 g, .int .i64 a0, .int .i64 a1, .bool x]] w' fun e w'' => e = .returned (.agg #[.int .i64 n, .int .i64 (ringP (tabM zs) g 0 a0), .int .i64 (ringP (tabM zs) g 1 a1), .bool x]) ∧ Below w'.heap.size w' w'') := Lib.hid fun w' hb => by rw [← hgn]; exact lrings_any T (tabM zs) g a0 a1 x w' (HT.out w' hb) hn1
  obtain ⟨g', c0, c1, cr, st, en, hst, hok⟩ := step_may zs T R rn n (ringP (tabM zs) g 0 a0) (ringP (tabM zs) g 1 a1) want x uT.w (by omega) HT.out HR.out
  have HST := Lib.hid hst
  generalize ringP (tabM zs) g 0 a0 = b0 at *
  generalize ringP (tabM zs) g 1 a1 = b1 at *
  clear hst hG0 hG1 hgn hn1 hT
  have hwT := uT.bel.size
  simp only [World.size_alloc] at hwT
  haveI : LeSize w.heap.size uT.w := ⟨by omega⟩
  obtain ⟨hcg, hap, hends, hlen, hmay, hbes⟩ := hok
  have HLI : Hid (∀ w', Calls Try.prog 13 #[.int .i64 st] w' fun e w'' => ∃ la lcap, ∃ u : Up w', e = .returned (.slice la (listM st).length lcap) ∧ w'' = u.w ∧ Ints u.w la (listM st)) := Lib.hid fun w' => RetInts.up (rlist_any st w')
  have HMAY := Lib.hid hmay
  have HBE := Lib.hid hbes
  have HMEM : Hid (∀ i, i < (listM st).length → (listM st).getD i 0 ∈ listM st) := Lib.hid fun i hi => by rw [List.getD_eq_getElem?_getD, List.getElem?_eq_getElem hi]; exact List.getElem_mem _
  have HPB : Hid (∀ p, p ∈ listM st → 0 ≤ p ∧ p < 8) := Lib.hid fun p hp => hasM_ok (mem_listM.1 hp)
  clear hmay hbes
  generalize listM st = L at *
  go_upto_region 6 with (first | (refine l_ltab rfl rfl rfl ?_; go_simp) | (refine l_lruns rfl rfl rfl ?_; go_simp) | (go_at_call 11; refine (Up.run (HRI.out _ (by (repeat' (first | (with_reducible exact Below.refl _ _) | (with_reducible assumption) | (with_reducible refine Below.setCell ?_ ?_ _) | (with_reducible refine Below.alloc ?_ ?_ _) | (with_reducible refine Below.drew ?_) | (with_reducible refine Up.base _ ?_ ?_) | (with_reducible exact LeSize.out) | exact LeSize.out | exact Nat.le_add_right_of_le LeSize.out | exact Nat.le_add_right_of_le (Nat.le_add_right_of_le LeSize.out) | (with_reducible exact Nat.le_refl _) | (simp; done) | (simp; omega)))))).mono ?_; rintro e w' ⟨rfl, uri, rfl⟩) | (go_at_call 12; refine (Up.run (HST.out _ (by (repeat' (first | (with_reducible exact Below.refl _ _) | (with_reducible assumption) | (with_reducible refine Below.setCell ?_ ?_ _) | (with_reducible refine Below.alloc ?_ ?_ _) | (with_reducible refine Below.drew ?_) | (with_reducible refine Up.base _ ?_ ?_) | (with_reducible exact LeSize.out) | exact LeSize.out | exact Nat.le_add_right_of_le LeSize.out | exact Nat.le_add_right_of_le (Nat.le_add_right_of_le LeSize.out) | (with_reducible exact Nat.le_refl _) | (simp; done) | (simp; omega)))))).mono ?_; rintro e w' ⟨rfl, ust, rfl⟩) | (go_at_call 13; refine (HLI.out _).mono ?_; rintro e w' ⟨la, lcap, uli, rfl, rfl, hli⟩))
  have hbX : Below w.heap.size w uli.w := by (repeat' (first | (with_reducible exact Below.refl _ _) | (with_reducible assumption) | (with_reducible refine Below.setCell ?_ ?_ _) | (with_reducible refine Below.alloc ?_ ?_ _) | (with_reducible refine Below.drew ?_) | (with_reducible refine Up.base _ ?_ ?_) | (with_reducible exact LeSize.out) | exact LeSize.out | exact Nat.le_add_right_of_le LeSize.out | exact Nat.le_add_right_of_le (Nat.le_add_right_of_le LeSize.out) | (with_reducible exact Nat.le_refl _) | (simp; done) | (simp; omega)))
  have hbT : Below uT.w.heap.size uT.w uli.w := by (repeat' (first | (with_reducible exact Below.refl _ _) | (with_reducible assumption) | (with_reducible refine Below.setCell ?_ ?_ _) | (with_reducible refine Below.alloc ?_ ?_ _) | (with_reducible refine Below.drew ?_) | (with_reducible refine Up.base _ ?_ ?_) | (with_reducible exact LeSize.out) | exact LeSize.out | exact Nat.le_add_right_of_le LeSize.out | exact Nat.le_add_right_of_le (Nat.le_add_right_of_le LeSize.out) | (with_reducible exact Nat.le_refl _) | (simp; done) | (simp; omega)))
  have iT : IsBlk uli.w uT.w.heap.size T 32 := inferInstance
  have iR : IsBlk uli.w (w.heap.size + 1) R 46 := inferInstance
  have iX : IsBlk uli.w uri.w.heap.size #[.int .i64 n, .int .i64 b0, .int .i64 b1, .bool x] 36 := inferInstance
  have iN : IsBlk uli.w ust.w.heap.size #[.int .i64 g', .int .i64 c0, .int .i64 c1, .bool cr] 36 := inferInstance
  generalize uli.w = X at *
  have HLX := Lib.hid hli
  have hXs := hbX.size
  have hXT := hbT.size
  haveI : LeSize w.heap.size X := ⟨hXs⟩
  haveI : LeSize uT.w.heap.size X := ⟨hXT⟩
  clear hli HLI HST HRI HZ HZL
  go_loopw [15] (fun i wr => ∃ k : Nat, k ≤ L.length ∧ i = .int .i64 k ∧ ∃ u : Up X, wr = u.w) (fun i _ => L.length - (intOf i).toNat)
  case atStart => exact ⟨0, Nat.zero_le _, rfl, ⟨X, Below.refl _ _⟩, rfl⟩
  case round =>
    obtain ⟨k, hk, rfl, uk, rfl⟩ := hrel
    by_cases hlt : k < L.length
    · have hmem := HMEM.out k hlt
      obtain ⟨hp0, hp8⟩ := HPB.out _ hmem
      obtain ⟨hw1, hm1⟩ := HMAY.out _ hmem
      obtain ⟨bl, off, rfl, hbl, hcl⟩ := HLX.out.cell (by omega)
      haveI : LeSize (bl + 1) X := ⟨hbl⟩
      have hcK := hcl k hlt
      have hc0 := hcl 0 (by omega)
      rw [Nat.add_zero] at hc0
      have HB0 := HBE.out k
      clear hcl
      generalize L.getD k 0 = pz at *
      obtain ⟨p, rfl⟩ := Int.eq_ofNat_of_zero_le hp0
      rw [Int.toNat_natCast] at hm1
      have hp : p < 8 := by omega
      obtain ⟨f1, f2, f3, f4, hconf⟩ := may_facts hm1
      have r0 : R[p * 12]? = some (.int .i64 (rn p).c) := HR.out.2 p hp 0 (by omega)
      have r1 : R[p * 12 + 1]? = some (.int .i64 (rn p).t) := HR.out.2 p hp 1 (by omega)
      have hrv : T[119]? = some (.int .i64 (tabM zs).rev) := by obtain ⟨g, d, r, b, rfl, _⟩ := HT.out uT.w (Below.refl _ _); rw [arrF_get _ _ _ (by omega)]; rfl
      have HCF : Hid (∀ q : Nat, q < 8 → clashM (tabM zs) p q = true → redM (rn q) = true) := Lib.hid fun q hq hcl => by
        unfold clashM at hcl
        rw [tab_sym zs q p hq hp, Bool.or_self] at hcl
        exact hconf q hq hcl
      have HHW : Hid (∀ w', Calls Try.prog 14 #[.int .i64 want, .int .i64 p] w' fun e w'' => e = .returned (.bool true) ∧ w' = w'') := Lib.hid fun w' => by rw [← hw1]; exact rhas_any want p w'
      have HBW : Hid (0 < k → ∀ w', Below uT.w.heap.size uT.w w' → Calls Try.prog 17 #[.agg T, .int .i64 p, .int .i64 (L.getD 0 0)] w' fun e w'' => e = .returned (.bool true) ∧ Below w'.heap.size w' w'') := Lib.hid fun h w' hb => by rw [← HB0 h hlt]; exact beside_any T (tabM zs) p (L.getD 0 0) w' (HT.out w' hb)
      have hpI : (p : Int) < 8 := by omega
      have hkI : (k : Int) < L.length := by omega
      have hl0I : (0 : Int) < L.length := by omega
      clear hconf hm1 hw1 hmem HB0 HMAY HMEM HPB HBE
      generalize (rn p).c = cc at *
      generalize (rn p).t = ct at *
      generalize (tabM zs).rev = rv at *
      generalize L.getD 0 0 = p0 at *
      go_wp2
      (refine wp_region_up (by kernel_rfl) (by kernel_rfl) ?_; (repeat (first | go_big_quiet_step ((first | (go_at_call 14; exact Up.pure (HHW.out _)) | fail)))); refine wpQuiet_nil ?_; rintro _ ⟨u, rfl⟩)
      go_wp2
      haveI : LeSize w.heap.size u.w := ⟨by have := uk.bel.size; have := u.bel.size; omega⟩
      obtain ⟨u1, hu1⟩ : ∃ u1 : Up X, u.w = u1.w := ⟨⟨u.w, uk.bel.trans (u.bel.mono uk.bel.size)⟩, rfl⟩
      rw [hu1]
      go_loopw [17] (fun i wr => ∃ q : Nat, q ≤ 8 ∧ i = .int .i64 q ∧ ∃ u2 : Up X, wr = u2.w) (fun i _ => 8 - (intOf i).toNat)
      case atStart => exact ⟨0, by omega, rfl, u1, rfl⟩
      case round =>
        obtain ⟨q, hq, rfl, u2, rfl⟩ := hrel
        by_cases hq8 : q < 8
        · have hqI : (q : Int) < 8 := by omega
          have HCL : Hid (∀ w', Below uT.w.heap.size uT.w w' → Calls Try.prog 15 #[.agg T, .int .i64 p, .int .i64 q] w' fun e w'' => e = .returned (.bool (clashM (tabM zs) p q)) ∧ Below w'.heap.size w' w'') := Lib.hid fun w' hb => clash_any T (tabM zs) p q w' (HT.out w' hb) hp hq8
          have HRD : Hid (∀ w', Calls Try.prog 16 #[.agg R] w' fun e w'' => e = .returned (.int .i64 (rdsN rn 8)) ∧ Below w'.heap.size w' w'') := Lib.hid fun w' => rref_reds R rn w' HR.out
          have HCQ := Lib.hid (HCF.out q hq8)
          have HH2 : Hid (redM (rn q) = true → ∀ w', Calls Try.prog 14 #[.int .i64 (rdsN rn 8), .int .i64 q] w' fun e w'' => e = .returned (.bool true) ∧ w' = w'') := Lib.hid fun h w' => by rw [← rds_mem rn q h 8 (Nat.le_refl _) hq8]; exact rhas_any _ _ w'
          generalize rdsN rn 8 = rd at *
          cases hc : clashM (tabM zs) p q
          · rw [hc] at HCL
            clear HCQ HH2
            go_wp2_with (first | (refine l_ltab rfl rfl rfl ?_; go_simp) | (go_at_call 15; refine (Up.run (HCL.out _ (by (repeat' (first | (with_reducible exact Below.refl _ _) | (with_reducible assumption) | (with_reducible refine Below.setCell ?_ ?_ _) | (with_reducible refine Below.alloc ?_ ?_ _) | (with_reducible refine Below.drew ?_) | (with_reducible refine Up.base _ ?_ ?_) | (with_reducible exact LeSize.out) | exact LeSize.out | exact Nat.le_add_right_of_le LeSize.out | exact Nat.le_add_right_of_le (Nat.le_add_right_of_le LeSize.out) | (with_reducible exact Nat.le_refl _) | (simp; done) | (simp; omega)))))).mono ?_; rintro e w' ⟨rfl, uc, rfl⟩))
            go_roundw
            case rel => exact ⟨q + 1, by omega, by go_num, ⟨uc.w, u2.bel.trans (uc.bel.mono u2.bel.size)⟩, rfl⟩
            case measure => simp [intOf]; omega
          · rw [hc] at HCL
            have HH3 := Lib.hid (HH2.out (HCQ.out hc))
            clear HCQ HH2
            go_wp2_with (first | (refine l_ltab rfl rfl rfl ?_; go_simp) | (refine g_lruns rfl rfl rfl ?_; go_simp) | (go_at_call 15; refine (Up.run (HCL.out _ (by (repeat' (first | (with_reducible exact Below.refl _ _) | (with_reducible assumption) | (with_reducible refine Below.setCell ?_ ?_ _) | (with_reducible refine Below.alloc ?_ ?_ _) | (with_reducible refine Below.drew ?_) | (with_reducible refine Up.base _ ?_ ?_) | (with_reducible exact LeSize.out) | exact LeSize.out | exact Nat.le_add_right_of_le LeSize.out | exact Nat.le_add_right_of_le (Nat.le_add_right_of_le LeSize.out) | (with_reducible exact Nat.le_refl _) | (simp; done) | (simp; omega)))))).mono ?_; rintro e w' ⟨rfl, uc, rfl⟩) | (go_at_call 16; refine (Up.run (HRD.out _)).mono ?_; rintro e w' ⟨rfl, urd, rfl⟩) | (go_at_call 14; refine (HH3.out _).mono ?_; rintro e w' ⟨rfl, rfl⟩))
            go_roundw
            case rel => exact ⟨q + 1, by omega, by go_num, ⟨urd.w, u2.bel.trans ((uc.bel.trans (urd.bel.mono uc.bel.size)).mono u2.bel.size)⟩, rfl⟩
            case measure => simp [intOf]; omega
        · obtain rfl : q = 8 := by omega
          cases hk0 : decide (0 < (k : Int))
          · have hk1 : ¬ (0 : Int) < k := of_decide_eq_false hk0
            have hk2 : k = 0 := by omega
            have hk3 : decide (0 < k) = false := decide_eq_false (by omega)
            go_wp2
            (refine wp_region_up (by kernel_rfl) (by kernel_rfl) ?_; (repeat (first | (go_big_quiet_want; refine q_ltab rfl rfl ?_; simp only [Act.put, List.setIfInBounds_toArray, List.set_cons_succ, List.set_cons_zero]; go_big_quiet_on) | go_big_quiet_step ((first | fail)))); refine wpQuiet_nil ?_; rintro _ ⟨u, rfl⟩)
            go_wp2
            go_roundw
            case rel => exact ⟨k + 1, by omega, by go_num, ⟨u.w, u2.bel.trans (u.bel.mono u2.bel.size)⟩, rfl⟩
            case measure => simp [intOf]; omega
          · have hk1 : (0 : Int) < k := of_decide_eq_true hk0
            have HBS := Lib.hid (HBW.out (by omega))
            have hk3 : decide (0 < k) = true := decide_eq_true (by omega)
            go_wp2
            (refine wp_region_up (by kernel_rfl) (by kernel_rfl) ?_; (repeat (first | (go_big_quiet_want; refine q_ltab rfl rfl ?_; simp only [Act.put, List.setIfInBounds_toArray, List.set_cons_succ, List.set_cons_zero]; go_big_quiet_on) | go_big_quiet_step ((first | (go_at_call 17; (with_reducible refine Up.calls (HBS.out _ ?_)); (repeat' (first | (with_reducible exact Below.refl _ _) | (with_reducible assumption) | (with_reducible refine Below.setCell ?_ ?_ _) | (with_reducible refine Below.alloc ?_ ?_ _) | (with_reducible refine Below.drew ?_) | (with_reducible refine Up.base _ ?_ ?_) | (with_reducible exact LeSize.out) | exact LeSize.out | exact Nat.le_add_right_of_le LeSize.out | exact Nat.le_add_right_of_le (Nat.le_add_right_of_le LeSize.out) | (with_reducible exact Nat.le_refl _) | (simp; done) | (simp; omega)))) | fail)))); refine wpQuiet_nil ?_; rintro _ ⟨u, rfl⟩)
            go_wp2
            go_roundw
            case rel => exact ⟨k + 1, by omega, by go_num, ⟨u.w, u2.bel.trans (u.bel.mono u2.bel.size)⟩, rfl⟩
            case measure => simp [intOf]; omega
    · obtain rfl : k = L.length := by omega
      have HGR : Hid (∀ w', Calls Try.prog 18 #[.agg R] w' fun e w'' => e = .returned (.int .i64 (grnN rn 8)) ∧ Below w'.heap.size w' w'') := Lib.hid fun w' => rref_green R rn w' HR.out
      have he1 : (bits .andNot .i64 en (grnN rn 8) == 0) = true := beq_iff_eq.2 hends
      have hl2 : decide ((L.length : Int) ≤ 2) = true := decide_eq_true (by omega)
      have hl3 : decide (L.length ≤ 2) = true := decide_eq_true (by omega)
      have hl4 : (L.length : Int) ≤ 2 := by omega
      clear hends HMAY HMEM HPB HBE HLX
      generalize grnN rn 8 = G at *
      cases hs : (st == 0)
      · obtain ⟨h1, rfl⟩ := hap (beq_eq_false_iff_ne.1 hs)
        have h2 : (bits .and .i64 en st == 0) = true := beq_iff_eq.2 h1
        clear h1 hap hcg
        go_wp2_with (first | (refine g_lruns rfl rfl rfl ?_; go_simp) | (go_at_call 18; refine (Up.run (HGR.out _)).mono ?_; rintro e w' ⟨rfl, ugr, rfl⟩) | (go_at_call 10; refine (Up.run (awake19_any _)).mono ?_; rintro e w' ⟨rfl, u, rfl⟩))
        go_ret
        exact ⟨rfl, by (repeat' (first | (with_reducible exact Below.refl _ _) | (with_reducible assumption) | (with_reducible refine Below.setCell ?_ ?_ _) | (with_reducible refine Below.alloc ?_ ?_ _) | (with_reducible refine Below.drew ?_) | (with_reducible refine Up.base _ ?_ ?_) | (with_reducible exact LeSize.out) | exact LeSize.out | exact Nat.le_add_right_of_le LeSize.out | exact Nat.le_add_right_of_le (Nat.le_add_right_of_le LeSize.out) | (with_reducible exact Nat.le_refl _) | (simp; done) | (simp; omega)))⟩
      · cases cr
        · clear hap hcg
          go_wp2_with (first | (refine g_lruns rfl rfl rfl ?_; go_simp) | (go_at_call 18; refine (Up.run (HGR.out _)).mono ?_; rintro e w' ⟨rfl, ugr, rfl⟩) | (go_at_call 10; refine (Up.run (awake19_any _)).mono ?_; rintro e w' ⟨rfl, u, rfl⟩))
          go_ret
          exact ⟨rfl, by (repeat' (first | (with_reducible exact Below.refl _ _) | (with_reducible assumption) | (with_reducible refine Below.setCell ?_ ?_ _) | (with_reducible refine Below.alloc ?_ ?_ _) | (with_reducible refine Below.drew ?_) | (with_reducible refine Up.base _ ?_ ?_) | (with_reducible exact LeSize.out) | exact LeSize.out | exact Nat.le_add_right_of_le LeSize.out | exact Nat.le_add_right_of_le (Nat.le_add_right_of_le LeSize.out) | (with_reducible exact Nat.le_refl _) | (simp; done) | (simp; omega)))⟩
        · obtain rfl := hcg rfl
          clear hap hcg
          go_wp2_with (first | (refine g_lruns rfl rfl rfl ?_; go_simp) | (go_at_call 18; refine (Up.run (HGR.out _)).mono ?_; rintro e w' ⟨rfl, ugr, rfl⟩) | (go_at_call 10; refine (Up.run (awake19_any _)).mono ?_; rintro e w' ⟨rfl, u, rfl⟩))
          go_ret
          exact ⟨rfl, by (repeat' (first | (with_reducible exact Below.refl _ _) | (with_reducible assumption) | (with_reducible refine Below.setCell ?_ ?_ _) | (with_reducible refine Below.alloc ?_ ?_ _) | (with_reducible refine Below.drew ?_) | (with_reducible refine Up.base _ ?_ ?_) | (with_reducible exact LeSize.out) | exact LeSize.out | exact Nat.le_add_right_of_le LeSize.out | exact Nat.le_add_right_of_le (Nat.le_add_right_of_le LeSize.out) | (with_reducible exact Nat.le_refl _) | (simp; done) | (simp; omega)))⟩
theorem arr4 (cs : Array Value) (h : cs.size = 4) : ∃ c0 c1 c2 c3, cs = #[c0, c1, c2, c3] := by
  obtain ⟨l⟩ := cs
  match l, h with
  | [c0, c1, c2, c3], _ => exact ⟨c0, c1, c2, c3, rfl⟩
abbrev tsRingMay1 : List TypeId := [3, 3, 3, 4]
set_option maxRecDepth 100000 in
theorem RingMay_lifted (os : Os) (started : os.Started) (H : Type) (enc : TypeId × Value → H) :
    ReturnsInHanded {} Try.checked os 4 .any (Rows.ringMaySpec.pre6 enc Try.prog Try.f4 Rows.ringMayRow.domain false) (Rows.ringMaySpec.post enc Try.prog Try.f4 false true false false) := by
  refine returnsInHanded_of_change (C := Try.checked) own started (by kernel_rfl) Try.func4
    (ChangeSpec.witness6 (enc := enc) (C := Try.checked) false ⟨#[], #[.slice none 0 0, .agg #[.int .i64 0, .int .i64 0, .int .i64 0, .bool false], zRuns, .int .i64 0], []⟩ 8 (by kernel_rfl) (by kernel_rfl) (by kernel_rfl) (by kernel_rfl)) ?_
  intro W base args ds gs before hval0 hW hcnd _
  have hval : ∀ (j : Nat) t v, Try.f4.params[j]? = some t → args[j]? = some v → Value.okWide Try.prog W .any base t v := hval0
  have hW' := hW
  obtain ⟨p, q, hA0, hV, rfl, hfz, hnd⟩ := hW
  have hA : DataW.TrodAll enc Try.prog W 0 (fun _ => true) true Try.f4.params.toList args.toList ds p := hA0
  rw [Try.params4] at hA hval
  obtain ⟨v0, vs0, d0, ds0, p0, q0, hargs, rfl, rfl, h0, r0⟩ := trodAll_cons hA
  obtain ⟨v1, vs1, d1, ds1, p1, q1, rfl, rfl, rfl, h1, r1⟩ := trodAll_cons r0
  obtain ⟨v2, vs2, d2, ds2, p2, q2, rfl, rfl, rfl, h2, r2⟩ := trodAll_cons r1
  obtain ⟨v3, vs3, d3, ds3, p3, q3, rfl, rfl, rfl, h3, r3⟩ := trodAll_cons r2
  obtain ⟨rfl, rfl, rfl⟩ := trodAll_nil r3
  obtain rfl : args = #[v0, v1, v2, v3] := by cases args; simp_all
  obtain ⟨rfl, rfl⟩ := trodVars_none hV
  have k0 := h0
  have lt0 : ∀ x ∈ p0, x.block < W.heap.size := by obtain ⟨m, hm⟩ := k0; exact DataW.trod_lt m _ _ _ hm
  have k1 := h1
  have lt1 : ∀ x ∈ p1, x.block < W.heap.size := by obtain ⟨m, hm⟩ := k1; exact DataW.trod_lt m _ _ _ hm
  have k2 := h2
  have lt2 : ∀ x ∈ p2, x.block < W.heap.size := by obtain ⟨m, hm⟩ := k2; exact DataW.trod_lt m _ _ _ hm
  have k3 := h3
  have lt3 : ∀ x ∈ p3, x.block < W.heap.size := by obtain ⟨m, hm⟩ := k3; exact DataW.trod_lt m _ _ _ hm
  obtain ⟨a0, cap0, z0, rfl, hl0, hm0, hh0, hr0, iz0⟩ := open_ints1 Try.underlying22 Try.underlying3 (by kernel_rfl) (hval 0 22 v0 rfl rfl) k0
  obtain ⟨cs1, rfl, hs1, hf1⟩ := open_flat (ts := tsRingMay1) (by rw [Try.underlying36]) (by kernel_rfl) (by kernel_rfl) (hval 1 36 v1 rfl rfl)
  obtain ⟨e1_0, e1_1, e1_2, e1_3, rfl⟩ := arr4 cs1 hs1
  obtain ⟨a1_0, rfl, w1_0⟩ := Fit.int (t := 3) (v := e1_0) (hf1 0 (by simp)) Try.underlying3
  obtain ⟨a1_1, rfl, w1_1⟩ := Fit.int (t := 3) (v := e1_1) (hf1 1 (by simp)) Try.underlying3
  obtain ⟨a1_2, rfl, w1_2⟩ := Fit.int (t := 3) (v := e1_2) (hf1 2 (by simp)) Try.underlying3
  obtain ⟨a1_3, rfl⟩ := Fit.bool (t := 4) (v := e1_3) (hf1 3 (by simp)) Try.underlying4
  obtain ⟨x2_0, x2_1, rfl, y2_0⟩ := open_runs (hval 2 46 v2 rfl rfl) k2
  obtain ⟨a3, rfl, w3⟩ := open_int1 Try.underlying3 (hval 3 3 v3 rfl rfl)
  clear hA0 hval0
  refine (ringMay_walk a0 cap0 z0 a1_0 a1_1 a1_2 a1_3 x2_0 x2_1 a3 W ⟨hl0, hm0⟩ hh0 hr0 iz0 w1_0 w1_1 w1_2 y2_0 w3).mono fun e W' ⟨he, bel⟩ => ?_
  subst he
  exact ⟨_, rfl, _, _, _, [], _, [], hW', trodAll_mk1 (shut_bool Try.underlying4 _), (trodAll_cons_mk (Below.trod laidOut (by kernel_rfl) (of_decide_eq_true (by kernel_rfl)) k0 bel lt0) (trodAll_cons_mk (Below.trod laidOut (by kernel_rfl) (of_decide_eq_true (by kernel_rfl)) k1 bel lt1) (trodAll_cons_mk (Below.trod laidOut (by kernel_rfl) (of_decide_eq_true (by kernel_rfl)) k2 bel lt2) (trodAll_cons_mk (Below.trod laidOut (by kernel_rfl) (of_decide_eq_true (by kernel_rfl)) k3 bel lt3) trodAll_mk0)))), rfl, bel.frame _, fun h => by cases h⟩

theorem RingMay_over : Rows.ringMayRow.holds Try.pinned (OpenSpec.ofChange Rows.ringMaySpec) :=
  OpenClaim.holds_of_wide 4 Try.f4 rfl rfl rfl rfl rfl rfl rfl ⟨rfl, rfl, rfl, rfl, rfl⟩ rfl rfl rfl rfl rfl (by kernel_rfl) Try.func4 (by kernel_rfl)
    (of_decide_eq_true (by kernel_rfl)) (by unfold Func.isWrapper; first | (rw [if_pos (by decide +kernel)]; kernel_rfl) | (rw [if_neg (by decide +kernel)]; exact ⟨rfl, rfl⟩))
    (fun os started H enc _ => RingMay_lifted os started H enc)

/-- The given statement. -/
theorem RingMay_holds : Rows.RingMaySaid := RingMay_over
#print axioms RingMay_holds
end
end Go.Proofs.Ytbnbakienajhmaa
