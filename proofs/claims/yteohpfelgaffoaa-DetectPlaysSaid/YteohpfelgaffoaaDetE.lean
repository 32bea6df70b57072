/- The samples of one detector do not affect other channels, and additional samples affect none. -/
import Derived.Test.YteohpfelgaffoaaDetD
namespace Go.Proofs.Yteohpfelgaffoaa
open Go.ChangeShapes Go.WideShapes Go.ChangeAt Go.RowKit
set_option linter.unusedVariables false

theorem tab_de_len (zs : List Int) : (tabM zs).de.length ≤ 8 := by
  show (deM zs _ _ _).length ≤ 8
  have := fr_bd zs 175 (n := 9) (by omega)
  unfold deM; simp; omega
theorem tenT_tk (x : Int) (h : 0 ≤ x ∧ x < 6) : IsTk (tenT x) := by
  rcases (show x = 0 ∨ x = 1 ∨ x = 2 ∨ x = 3 ∨ x = 4 ∨ x = 5 by omega) with rfl | rfl | rfl | rfl | rfl | rfl
  · exact .inl (by decide +kernel)
  · exact .inr (.inl (by decide +kernel))
  · exact .inr (.inr (.inl (by decide +kernel)))
  · exact .inr (.inr (.inr (.inl (by decide +kernel))))
  · exact .inr (.inr (.inr (.inr (.inl (by decide +kernel)))))
  · exact .inr (.inr (.inr (.inr (.inr (by decide +kernel)))))
theorem tab_de_tk (zs : List Int) : ∀ d ∈ (tabM zs).de, IsTk d.dl ∧ IsTk d.ex := by
  intro d hd
  have hd' : d ∈ deM zs (rowsM zs).1 (fr zs 175 9).toNat (fr zs 175 9).toNat := hd
  unfold deM at hd'
  rw [List.mem_map] at hd'
  obtain ⟨j, _, rfl⟩ := hd'
  have h3 := fr_bd zs (180 + 8 * ((fr zs 175 9).toNat - j) + 3) (n := 4) (by omega)
  have h4 := fr_bd zs (180 + 8 * ((fr zs 175 9).toNat - j) + 4) (n := 6) (by omega)
  exact ⟨tenT_tk _ (by omega), tenT_tk _ h4⟩
/-- The contract of Step, the lengths said. -/
theorem dstep_upM (T : Array Value) (t : Tab) (a : Option Addr) (cap : Nat) (cs : List Ch) (sa : Option Addr) (scap : Nat) (zs : List Nat) (k m n : Nat) (w : World) (hT : IsTab w T t) (hcs : Chs w a cs) (hzs : Floats w sa zs) (htk : ∀ d ∈ t.de, IsTk d.dl ∧ IsTk d.ex) (hk : cs.length = k) (hm : zs.length = m) (hn : t.de.length = n) :
    Calls Try.prog 9 #[.agg T, .slice a k cap, .slice sa m scap] w fun e w' => ∃ a' cap', ∃ u : Up w, e = .returned (.slice a' n cap') ∧ w' = u.w ∧ Chs u.w a' (stepN t.de cs zs n) := by
  subst hk hm hn
  exact dstep_up T t a cap cs sa scap zs w hT hcs hzs htk
theorem stepN_get (de : List Det) (cs : List Ch) (zs : List Nat) {n d : Nat} (h : d < n) : (stepN de cs zs n).getD d ch0 = stepCh (de.getD d ⟨0, 0, 0, 0, 0, 0, 0⟩) (cs.getD d ch0) (zs.getD d nanF) := by
  simp [stepN, List.getD, h]
theorem stepN_out (de : List Det) (cs : List Ch) (zs : List Nat) {n d : Nat} (h : ¬ d < n) : (stepN de cs zs n).getD d ch0 = ch0 := by
  simp [stepN, List.getD, h]
theorem run_neq_ch (c : Ch) (w : World) : Sem.run Try.prog (binOp .neq 48 (.agg #[.bool c.on, .int .i64 c.bad, .int .i64 c.won, .int .i64 c.wof, .int .i64 c.hd, .int .i64 c.tl, .bool c.out]) (.agg #[.bool c.on, .int .i64 c.bad, .int .i64 c.won, .int .i64 c.wof, .int .i64 c.hd, .int .i64 c.tl, .bool c.out])) w = .ok (.bool false) w := by
  have h1 : (c.on == c.on) = true := by cases c.on <;> rfl
  have h2 : (c.out == c.out) = true := by cases c.out <;> rfl
  simp [go_sem]
/-- Sixteen samples, of which the first d are told. -/
def smF (S : Nat → Nat) (d : Nat) : Array Value := arrF 16 fun q => .float .f64 (if q < d then S q else 0)
theorem smF_zero (S : Nat → Nat) : smF S 0 = #[.float .f64 0, .float .f64 0, .float .f64 0, .float .f64 0, .float .f64 0, .float .f64 0, .float .f64 0, .float .f64 0, .float .f64 0, .float .f64 0, .float .f64 0, .float .f64 0, .float .f64 0, .float .f64 0, .float .f64 0, .float .f64 0] := rfl
theorem smF_get (S : Nat → Nat) (d : Nat) {q : Nat} (h : q < 16) : (smF S d)[q]? = some (.float .f64 (if q < d then S q else 0)) := arrF_get _ _ _ h
theorem smF_set (S : Nat → Nat) {d : Nat} (h : d < 16) : (smF S d).setIfInBounds d (.float .f64 (S d)) = smF S (d + 1) := by
  refine arrF_set h fun j hj => ?_
  by_cases e : j = d
  · subst e; simp
  · rw [if_neg e]
    have : (j < d) = (j < d + 1) := propext ⟨by omega, by omega⟩
    simp only [this]
theorem smF_set2 (S : Nat → Nat) {d : Nat} (h : d < 16) (x : Value) : ((smF S d).setIfInBounds d x).setIfInBounds d (.float .f64 (S d)) = smF S (d + 1) := by
  rw [← smF_set S h]
  apply Array.ext_getElem?
  intro i
  simp only [Array.getElem?_setIfInBounds, Array.size_setIfInBounds]
  split <;> simp_all
def smL (S : Nat → Nat) : List Nat := (List.range 16).map S
theorem smL_len (S : Nat → Nat) : (smL S).length = 16 := by simp [smL]
theorem smL_get (S : Nat → Nat) {q : Nat} (h : q < 16) (n : Nat) : (smL S).getD q n = S q := by simp [smL, List.getD, h]
theorem smF_floats {w : World} {b : Nat} {S : Nat → Nat} {t : TypeId} (h : IsBlk w b (smF S 16) t) : Floats w (some ⟨b, 0, none⟩) (smL S) := by
  right
  refine ⟨b, 0, rfl, (Array.getElem?_eq_some_iff.1 h.out).1, fun i hi => ?_⟩
  rw [smL_len] at hi
  rw [laid_cell h.out (0 + i) (v := .float .f64 (S i)) (by rw [Nat.zero_add, smF_get _ _ hi, if_pos hi])]
  show some (Value.float .f64 (S i)) = some (Value.float .f64 ((smL S).getD i 0))
  rw [smL_get _ hi]
/-- What is kept between ticks. -/
structure ApSt (W0 wr : World) (aa ab : Option Addr) (ca cb : List Ch) (k : Nat) : Prop where
  pa : Chs wr aa ca
  pb : Chs wr ab cb
  ln : ca.length = cb.length
  eq : ∀ d, d ≠ k → ca.getD d ch0 = cb.getD d ch0
  bel : Below W0.heap.size W0 wr
structure SmSt (wr wx : World) (bs br : Nat) (S R : Nat → Nat) (d : Nat) : Prop where
  s : IsBlk wx bs (smF S d) 39
  r : IsBlk wx br (smF R d) 39
  bel : Below wr.heap.size wr wx
def neF (f : Nat → Nat) (k n y : Nat) : Nat → Nat := fun q => if q = k ∨ n ≤ q then y else f q
set_option maxHeartbeats 16000000 in
set_option maxRecDepth 100000 in
theorem detectApart_walk (a0 : Option Addr) (cap0 : Nat) (z0 : List Int) (a1 : Option Addr) (cap1 : Nat) (z1 : List Nat) (a2 : Int) (a3 : Nat) (w : World) (hc0 : z0.length ≤ cap0 ∧ cap0 ≤ 9223372036854775807) (_ : Hdr w a0 cap0) (hz0 : Ints w a0 z0) (_ : ∀ i, i < z0.length → InKind .i64 (z0.getD i 0))
    (hc1 : z1.length ≤ cap1 ∧ cap1 ≤ 9223372036854775807) (_ : Hdr w a1 cap1) (hz1 : Floats w a1 z1) (_ : ∀ i, i < z1.length → z1.getD i 0 < 18446744073709551616) (_ : InKind .i64 a2) (_ : a3 < 18446744073709551616) :
    Calls Try.prog 3 #[.slice a0 z0.length cap0, .slice a1 z1.length cap1, .int .i64 a2, .float .f64 a3] w fun e w' => e = .returned (.bool true) ∧ Below w.heap.size w w' := by
  have HZ : Hid (∀ w', Below w.heap.size w w' → Ints w' a0 z0) := Lib.hid fun w' hb => Row1.below hz0 hb (Nat.le_refl _)
  have HZL : Hid (z0.length ≤ 9223372036854775807) := Lib.hid (by omega)
  have HY := Lib.hid hz1
  have z := zeroTab
  have hdl := tab_de_len z0
  have HTK := Lib.hid (tab_de_tk z0)
  generalize ht : tabM z0 = t at *
  have HT0 := Lib.hid ht
  clear hz0 hz1 ht
  go_enter Try.func3, Try.ntmps3
  go_upto_region 2 with (first | (go_at_call 6; refine (ltable_up _ _ _ _ HZL.out (HZ.out _ (by (repeat' (first | (with_reducible exact Below.refl _ _) | (with_reducible assumption) | (with_reducible refine Below.setCell ?_ ?_ _) | (with_reducible refine Below.alloc ?_ ?_ _) | (with_reducible refine Below.drew ?_) | (with_reducible refine Up.base _ ?_ ?_) | (with_reducible exact LeSize.out) | exact LeSize.out | exact Nat.le_add_right_of_le LeSize.out | exact Nat.le_add_right_of_le (Nat.le_add_right_of_le LeSize.out) | (with_reducible exact Nat.le_refl _) | (simp; done) | (simp; omega)))))).mono ?_; rintro e w' ⟨T, uT, rfl, rfl, hT⟩; rw [HT0.out] at hT) | (refine l_newTab rfl rfl rfl rfl inferInstance hT rfl ?_; go_simp))
  haveI : Sz131 T := ⟨hT.size⟩
  have HT : Hid (∀ w', Below uT.w.heap.size uT.w w' → IsTab w' T t) := Lib.hid fun w' hb => hT.below hb (Nat.le_refl _)
  obtain ⟨da, dcap, t113⟩ : ∃ da dcap, T[113]? = some (.slice da t.de.length dcap) := by
    obtain ⟨gv, dv, r, bv, hTe, hI⟩ := hT
    obtain ⟨da, dcap, rfl, _⟩ := hI.de
    exact ⟨da, dcap, by rw [hTe, arrF_get _ _ _ (by omega)]; rfl⟩
  clear hT HT0
  obtain ⟨n, hn⟩ : ∃ n, t.de.length = n := ⟨_, rfl⟩
  rw [hn] at hdl t113
  have HN := Lib.hid hn
  clear hn
  have i9 : IsBlk (uT.w.alloc (.cells T 34)) uT.w.heap.size T 34 := inferInstance
  have hbw : Below w.heap.size w (uT.w.alloc (.cells T 34)) := by (repeat' (first | (with_reducible exact Below.refl _ _) | (with_reducible assumption) | (with_reducible refine Below.setCell ?_ ?_ _) | (with_reducible refine Below.alloc ?_ ?_ _) | (with_reducible refine Below.drew ?_) | (with_reducible refine Up.base _ ?_ ?_) | (with_reducible exact LeSize.out) | exact LeSize.out | exact Nat.le_add_right_of_le LeSize.out | exact Nat.le_add_right_of_le (Nat.le_add_right_of_le LeSize.out) | (with_reducible exact Nat.le_refl _) | (simp; done) | (simp; omega)))
  have hbT : Below uT.w.heap.size uT.w (uT.w.alloc (.cells T 34)) := by (repeat' (first | (with_reducible exact Below.refl _ _) | (with_reducible assumption) | (with_reducible refine Below.setCell ?_ ?_ _) | (with_reducible refine Below.alloc ?_ ?_ _) | (with_reducible refine Below.drew ?_) | (with_reducible refine Up.base _ ?_ ?_) | (with_reducible exact LeSize.out) | exact LeSize.out | exact Nat.le_add_right_of_le LeSize.out | exact Nat.le_add_right_of_le (Nat.le_add_right_of_le LeSize.out) | (with_reducible exact Nat.le_refl _) | (simp; done) | (simp; omega)))
  have hcT : (uT.w.alloc (.cells T 34)).cell? ⟨uT.w.heap.size, 113, none⟩ = some (.slice da n dcap) := laid_cell i9.out _ t113
  have huw := uT.bel.size
  generalize hW0 : (uT.w.alloc (.cells T 34)) = W0 at *
  have hWs : W0.heap.size = uT.w.heap.size + 1 := by rw [← hW0]; simp
  have HWS := Lib.hid hWs
  clear hWs hW0
  haveI : LeSize w.heap.size W0 := ⟨hbw.size⟩
  by_cases hlen : z1.length ≤ 40
  · by_cases hn0 : n = 0
    · subst hn0
      go_wp2_with (first | (go_at_call 7; refine (Up.run (awake14_any _)).mono ?_; rintro e w' ⟨rfl, ua, rfl⟩))
      go_ret
      exact ⟨rfl, by (repeat' (first | (with_reducible exact Below.refl _ _) | (with_reducible assumption) | (with_reducible refine Below.setCell ?_ ?_ _) | (with_reducible refine Below.alloc ?_ ?_ _) | (with_reducible refine Below.drew ?_) | (with_reducible refine Up.base _ ?_ ?_) | (with_reducible exact LeSize.out) | exact LeSize.out | exact Nat.le_add_right_of_le LeSize.out | exact Nat.le_add_right_of_le (Nat.le_add_right_of_le LeSize.out) | (with_reducible exact Nat.le_refl _) | (simp; done) | (simp; omega)))⟩
    · have hnz : ((n : Int) == 0) = false := by simp; omega
      have hk0 := Int.emod_nonneg a2 (show (n : Int) ≠ 0 by omega)
      have hk1 := Int.emod_lt_of_pos a2 (show (0 : Int) < n by omega)
      obtain ⟨k, hk⟩ : ∃ k : Nat, a2 % n = k := ⟨(a2 % n).toNat, by omega⟩
      have hkn : k < n := by omega
      clear hk0 hk1
      go_wp2_with (first | (go_at_call 8; refine (place_any _ _ _ (by omega) (by omega)).mono ?_; rintro e w' ⟨rfl, rfl⟩))
      go_loopw [11, 12, 13] (fun xa xb i wr => ∃ j : Nat, j ≤ z1.length ∧ i = .int .i64 j ∧ ∃ aa ka ca ab kb cb, xa = .slice aa (ca : List Ch).length ka ∧ xb = .slice ab (cb : List Ch).length kb ∧ Hid (ApSt W0 wr aa ab ca cb k)) (fun _ _ i _ => z1.length - (intOf i).toNat)
      case atStart => exact ⟨0, Nat.zero_le _, rfl, none, 0, [], none, 0, [], rfl, rfl, Lib.hid ⟨.inl rfl, .inl rfl, rfl, fun _ _ => rfl, Below.refl _ _⟩⟩
      case round =>
        obtain ⟨j, hj, rfl, aa, ka, ca, ab, kb, cb, rfl, rfl, HA⟩ := hrel
        have hA0 := HA.out.bel
        have hA1 := hA0.size
        have hAw : Below w.heap.size w wr := hbw.trans (hA0.mono hbw.size)
        haveI : LeSize w.heap.size wr := ⟨hAw.size⟩
        by_cases hlt : j < z1.length
        · have hws := hAw.size
          have hWS := HWS.out
          have hbt : uT.w.heap.size < wr.heap.size := by omega
          go_upto_region 10 with fail
          have his : IsBlk ((wr.alloc (.cells #[.float .f64 0, .float .f64 0, .float .f64 0, .float .f64 0, .float .f64 0, .float .f64 0, .float .f64 0, .float .f64 0, .float .f64 0, .float .f64 0, .float .f64 0, .float .f64 0, .float .f64 0, .float .f64 0, .float .f64 0, .float .f64 0] 39)).alloc (.cells #[.float .f64 0, .float .f64 0, .float .f64 0, .float .f64 0, .float .f64 0, .float .f64 0, .float .f64 0, .float .f64 0, .float .f64 0, .float .f64 0, .float .f64 0, .float .f64 0, .float .f64 0, .float .f64 0, .float .f64 0, .float .f64 0] 39)) wr.heap.size #[.float .f64 0, .float .f64 0, .float .f64 0, .float .f64 0, .float .f64 0, .float .f64 0, .float .f64 0, .float .f64 0, .float .f64 0, .float .f64 0, .float .f64 0, .float .f64 0, .float .f64 0, .float .f64 0, .float .f64 0, .float .f64 0] 39 := inferInstance
          have hir : IsBlk ((wr.alloc (.cells #[.float .f64 0, .float .f64 0, .float .f64 0, .float .f64 0, .float .f64 0, .float .f64 0, .float .f64 0, .float .f64 0, .float .f64 0, .float .f64 0, .float .f64 0, .float .f64 0, .float .f64 0, .float .f64 0, .float .f64 0, .float .f64 0] 39)).alloc (.cells #[.float .f64 0, .float .f64 0, .float .f64 0, .float .f64 0, .float .f64 0, .float .f64 0, .float .f64 0, .float .f64 0, .float .f64 0, .float .f64 0, .float .f64 0, .float .f64 0, .float .f64 0, .float .f64 0, .float .f64 0, .float .f64 0] 39)) (wr.heap.size + 1) #[.float .f64 0, .float .f64 0, .float .f64 0, .float .f64 0, .float .f64 0, .float .f64 0, .float .f64 0, .float .f64 0, .float .f64 0, .float .f64 0, .float .f64 0, .float .f64 0, .float .f64 0, .float .f64 0, .float .f64 0, .float .f64 0] 39 := inferInstance
          have hb1 : Below wr.heap.size wr ((wr.alloc (.cells #[.float .f64 0, .float .f64 0, .float .f64 0, .float .f64 0, .float .f64 0, .float .f64 0, .float .f64 0, .float .f64 0, .float .f64 0, .float .f64 0, .float .f64 0, .float .f64 0, .float .f64 0, .float .f64 0, .float .f64 0, .float .f64 0] 39)).alloc (.cells #[.float .f64 0, .float .f64 0, .float .f64 0, .float .f64 0, .float .f64 0, .float .f64 0, .float .f64 0, .float .f64 0, .float .f64 0, .float .f64 0, .float .f64 0, .float .f64 0, .float .f64 0, .float .f64 0, .float .f64 0, .float .f64 0] 39)) := by (repeat' (first | (with_reducible exact Below.refl _ _) | (with_reducible assumption) | (with_reducible refine Below.setCell ?_ ?_ _) | (with_reducible refine Below.alloc ?_ ?_ _) | (with_reducible refine Below.drew ?_) | (with_reducible refine Up.base _ ?_ ?_) | (with_reducible exact LeSize.out) | exact LeSize.out | exact Nat.le_add_right_of_le LeSize.out | exact Nat.le_add_right_of_le (Nat.le_add_right_of_le LeSize.out) | (with_reducible exact Nat.le_refl _) | (simp; done) | (simp; omega)))
          generalize ((wr.alloc (.cells #[.float .f64 0, .float .f64 0, .float .f64 0, .float .f64 0, .float .f64 0, .float .f64 0, .float .f64 0, .float .f64 0, .float .f64 0, .float .f64 0, .float .f64 0, .float .f64 0, .float .f64 0, .float .f64 0, .float .f64 0, .float .f64 0] 39)).alloc (.cells #[.float .f64 0, .float .f64 0, .float .f64 0, .float .f64 0, .float .f64 0, .float .f64 0, .float .f64 0, .float .f64 0, .float .f64 0, .float .f64 0, .float .f64 0, .float .f64 0, .float .f64 0, .float .f64 0, .float .f64 0, .float .f64 0] 39)) = W1 at *
          have hws0 := hAw.size
          have hA00 := hA0.size
          generalize wr = WA at *
          obtain ⟨S, hS⟩ : ∃ S : Nat → Nat, ∀ q, z1.getD ((j + q) % z1.length) 0 = S q := ⟨_, fun q => rfl⟩
          obtain ⟨R, hR⟩ : ∃ R : Nat → Nat, ∀ q, R q = if q = k ∨ n ≤ q then a3 else S q := ⟨_, fun q => rfl⟩
          have HSS := Lib.hid hS
          have HRR := Lib.hid hR
          have HS0 : Hid (SmSt WA W1 WA.heap.size (WA.heap.size + 1) S R 0) := Lib.hid ⟨by rw [smF_zero]; exact his, by rw [smF_zero]; exact hir, hb1⟩
          clear his hir hb1 hS hR
          obtain ⟨bs, hbs⟩ : ∃ b, WA.heap.size = b := ⟨_, rfl⟩
          rw [hbs] at HS0 hA1 hbt hws
          rw [hbs]
          have HBS := Lib.hid hbs
          clear hbs
          haveI : Apart bs (bs + 1) := ⟨by omega⟩
          haveI : Apart (bs + 1) bs := ⟨by omega⟩
          go_wp2
          go_loopw [16] (fun i wx => ∃ d : Nat, d ≤ 16 ∧ i = .int .i64 d ∧ Hid (SmSt WA wx bs (bs + 1) S R d)) (fun i _ => 16 - (intOf i).toNat)
          case atStart => exact ⟨0, by omega, rfl, HS0⟩
          case round =>
            clear HS0
            obtain ⟨d, hd, rfl, HS⟩ := hrel
            obtain ⟨his, hir, hb1⟩ := HS.out
            have hbsx := HBS.out
            by_cases hd16 : d < 16
            · have hm := Nat.mod_lt (j + d) (show 0 < z1.length by omega)
              have hmod : ((j : Int) + d).tmod (z1.length : Int) = (((j + d) % z1.length : Nat) : Int) := by rw [Int.tmod_eq_emod_of_nonneg (by omega)]; simp
              obtain ⟨yb, yoff, rfl, hyb, hyc⟩ := Row1.cell HY.out (by omega)
              have hz : wr.cell? ⟨yb, yoff + (j + d) % z1.length, none⟩ = some (.float .f64 (z1.getD ((j + d) % z1.length) 0)) := by
                rw [hb1.cell (p := ⟨yb, yoff + (j + d) % z1.length, none⟩) (by simp; omega), hAw.cell (p := ⟨yb, yoff + (j + d) % z1.length, none⟩) hyb]; exact hyc _ hm
              rw [HSS.out d] at hz
              have cs : wr.cell? ⟨bs, d, none⟩ = some (.float .f64 0) := laid_cell his.out _ (by rw [smF_get _ _ hd16]; simp)
              have fs : wr.frozen? ⟨bs, d, none⟩ = false := laid_open his.out _
              have cr : wr.cell? ⟨bs + 1, d, none⟩ = some (.float .f64 0) := laid_cell hir.out _ (by rw [smF_get _ _ hd16]; simp)
              have fr : wr.frozen? ⟨bs + 1, d, none⟩ = false := laid_open hir.out _
              have ct : wr.cell? ⟨uT.w.heap.size, 113, none⟩ = some (.slice da n dcap) := by
                rw [hb1.cell (p := ⟨uT.w.heap.size, 113, none⟩) (by simp; omega), hA0.cell (p := ⟨uT.w.heap.size, 113, none⟩) (by simp; omega)]; exact hcT
              haveI := HasCell.of cs
              haveI := HasCell.of cr
              have n1 : ¬ (bs = bs + 1) := by omega
              have n2 : ¬ (bs + 1 = bs) := by omega
              have n3 : ¬ (bs = uT.w.heap.size) := by omega
              have n4 : ¬ (bs + 1 = uT.w.heap.size) := by omega
              have n5 : ¬ (uT.w.heap.size = bs) := by omega
              have n6 : ¬ (uT.w.heap.size = bs + 1) := by omega
              have hS1 := Lib.hid (smF_set S hd16)
              have hR1 := Lib.hid (smF_set R hd16)
              have hR2 := Lib.hid (smF_set2 R hd16 (.float .f64 (S d)))
              have hmI : (((j + d) % z1.length : Nat) : Int) < z1.length := by omega
              generalize (j + d) % z1.length = m at *
              have HRD := Lib.hid (HRR.out d)
              have hdI : (d : Int) < 16 := by omega
              have hwa : WA.heap.size ≤ bs := Nat.le_of_eq hbsx
              clear hyc hbsx
              have HWS2 := Lib.hid hWS
              clear hWS
              by_cases hdk : d = k
              · have e1 : ((d : Int) == (k : Int)) = true := by simp [hdk]
                have HR3 := Lib.hid (show R d = a3 by rw [HRD.out, if_pos (.inl hdk)])
                rw [HR3.out] at hR2
                clear hdk
                go_wp2
                go_roundw
                case rel => exact ⟨d + 1, by omega, by go_num, Lib.hid ⟨by rw [← hS1.out]; exact inferInstance, by rw [← hR2.out]; exact inferInstance, by (repeat' (first | (with_reducible exact Below.refl _ _) | (with_reducible assumption) | (with_reducible refine Below.setCell ?_ ?_ _) | (with_reducible refine Below.alloc ?_ ?_ _) | (with_reducible refine Below.drew ?_) | (with_reducible refine Up.base _ ?_ ?_) | (with_reducible exact LeSize.out) | exact LeSize.out | exact Nat.le_add_right_of_le LeSize.out | exact Nat.le_add_right_of_le (Nat.le_add_right_of_le LeSize.out) | (with_reducible exact Nat.le_refl _) | (simp; done) | (simp; omega)))⟩⟩
                case measure => simp [intOf]; omega
              · have e1 : ((d : Int) == (k : Int)) = false := by simp; omega
                by_cases hdn : (n : Int) ≤ d
                · have HR3 := Lib.hid (show R d = a3 by rw [HRD.out, if_pos (.inr (by omega))])
                  rw [HR3.out] at hR2
                  clear hdk
                  go_wp2
                  go_roundw
                  case rel => exact ⟨d + 1, by omega, by go_num, Lib.hid ⟨by rw [← hS1.out]; exact inferInstance, by rw [← hR2.out]; exact inferInstance, by (repeat' (first | (with_reducible exact Below.refl _ _) | (with_reducible assumption) | (with_reducible refine Below.setCell ?_ ?_ _) | (with_reducible refine Below.alloc ?_ ?_ _) | (with_reducible refine Below.drew ?_) | (with_reducible refine Up.base _ ?_ ?_) | (with_reducible exact LeSize.out) | exact LeSize.out | exact Nat.le_add_right_of_le LeSize.out | exact Nat.le_add_right_of_le (Nat.le_add_right_of_le LeSize.out) | (with_reducible exact Nat.le_refl _) | (simp; done) | (simp; omega)))⟩⟩
                  case measure => simp [intOf]; omega
                · have HR3 := Lib.hid (show R d = S d by rw [HRD.out, if_neg (by omega)])
                  rw [HR3.out] at hR1
                  clear hdk
                  go_wp2
                  go_roundw
                  case rel => exact ⟨d + 1, by omega, by go_num, Lib.hid ⟨by rw [← hS1.out]; exact inferInstance, by rw [← hR1.out]; exact inferInstance, by (repeat' (first | (with_reducible exact Below.refl _ _) | (with_reducible assumption) | (with_reducible refine Below.setCell ?_ ?_ _) | (with_reducible refine Below.alloc ?_ ?_ _) | (with_reducible refine Below.drew ?_) | (with_reducible refine Up.base _ ?_ ?_) | (with_reducible exact LeSize.out) | exact LeSize.out | exact Nat.le_add_right_of_le LeSize.out | exact Nat.le_add_right_of_le (Nat.le_add_right_of_le LeSize.out) | (with_reducible exact Nat.le_refl _) | (simp; done) | (simp; omega)))⟩⟩
                  case measure => simp [intOf]; omega
            · obtain rfl : d = 16 := by omega
              have hb1s := hb1.size
              clear hbsx
              have HWS2 := Lib.hid hWS
              have hAW : Below w.heap.size w wr := hAw.trans (hb1.mono hws0)
              have hA01 : Below W0.heap.size W0 wr := hA0.trans (hb1.mono hA00)
              have hAT : Below uT.w.heap.size uT.w wr := hbT.trans (hA01.mono (by omega))
              haveI : LeSize w.heap.size wr := ⟨hAW.size⟩
              haveI iT : IsBlk wr uT.w.heap.size T 34 := ⟨by rw [hA01.block _ (by omega)]; exact i9.out⟩
              have HCA := Lib.hid (HA.out.pa.below hb1 (Nat.le_refl _))
              have HCB := Lib.hid (HA.out.pb.below hb1 (Nat.le_refl _))
              have HFS := Lib.hid (smF_floats his)
              have HFR := Lib.hid (smF_floats hir)
              clear hWS
              haveI : LeSize uT.w.heap.size wr := ⟨hAT.size⟩
              have HCA2 : Hid (∀ w', Below wr.heap.size wr w' → Chs w' aa ca) := Lib.hid fun w' hb => HCA.out.below hb (Nat.le_refl _)
              have HCB2 : Hid (∀ w', Below wr.heap.size wr w' → Chs w' ab cb) := Lib.hid fun w' hb => HCB.out.below hb (Nat.le_refl _)
              have HFS2 : Hid (∀ w', Below wr.heap.size wr w' → Floats w' (some ⟨bs, 0, none⟩) (smL S)) := Lib.hid fun w' hb => Row1.below HFS.out hb (Nat.le_refl _)
              have HFR2 : Hid (∀ w', Below wr.heap.size wr w' → Floats w' (some ⟨bs + 1, 0, none⟩) (smL R)) := Lib.hid fun w' hb => Row1.below HFR.out hb (Nat.le_refl _)
              clear HCA HCB HFS HFR his hir
              go_upto_region 17 with fail
              (refine wp_region_up_tail 3 (by kernel_rfl) (by kernel_rfl) ?_; simp only [List.take_succ_cons, List.take_zero, List.drop_succ_cons, List.drop_zero]; (repeat (first | (go_big_quiet_want; refine q_ltab rfl rfl ?_; simp only [Act.put, List.setIfInBounds_toArray, List.set_cons_succ, List.set_cons_zero]; go_big_quiet_on) | go_big_quiet_step ((first | fail)))); refine wpQuiet_nil ?_; rintro _ ⟨u, rfl⟩)
              go_upto_region 18 with (go_at_call 9; refine (dstep_upM T t aa ka ca (some ⟨bs, 0, none⟩) 16 (smL S) ca.length 16 n _ (HT.out _ (by (repeat' (first | (with_reducible exact Below.refl _ _) | (with_reducible assumption) | (with_reducible refine Below.setCell ?_ ?_ _) | (with_reducible refine Below.alloc ?_ ?_ _) | (with_reducible refine Below.drew ?_) | (with_reducible refine Up.base _ ?_ ?_) | (with_reducible exact LeSize.out) | exact LeSize.out | exact Nat.le_add_right_of_le LeSize.out | exact Nat.le_add_right_of_le (Nat.le_add_right_of_le LeSize.out) | (with_reducible exact Nat.le_refl _) | (simp; done) | (simp; omega))))) (HCA2.out _ (by (repeat' (first | (with_reducible exact Below.refl _ _) | (with_reducible assumption) | (with_reducible refine Below.setCell ?_ ?_ _) | (with_reducible refine Below.alloc ?_ ?_ _) | (with_reducible refine Below.drew ?_) | (with_reducible refine Up.base _ ?_ ?_) | (with_reducible exact LeSize.out) | exact LeSize.out | exact Nat.le_add_right_of_le LeSize.out | exact Nat.le_add_right_of_le (Nat.le_add_right_of_le LeSize.out) | (with_reducible exact Nat.le_refl _) | (simp; done) | (simp; omega))))) (HFS2.out _ (by (repeat' (first | (with_reducible exact Below.refl _ _) | (with_reducible assumption) | (with_reducible refine Below.setCell ?_ ?_ _) | (with_reducible refine Below.alloc ?_ ?_ _) | (with_reducible refine Below.drew ?_) | (with_reducible refine Up.base _ ?_ ?_) | (with_reducible exact LeSize.out) | exact LeSize.out | exact Nat.le_add_right_of_le LeSize.out | exact Nat.le_add_right_of_le (Nat.le_add_right_of_le LeSize.out) | (with_reducible exact Nat.le_refl _) | (simp; done) | (simp; omega))))) HTK.out rfl (smL_len _) HN.out).mono ?_; rintro e w' ⟨a5, k5, u5, rfl, rfl, hch5⟩)
              have HC5 := Lib.hid hch5
              clear hch5
              (refine wp_region_up_tail 3 (by kernel_rfl) (by kernel_rfl) ?_; simp only [List.take_succ_cons, List.take_zero, List.drop_succ_cons, List.drop_zero]; (repeat (first | (go_big_quiet_want; refine q_ltab rfl rfl ?_; simp only [Act.put, List.setIfInBounds_toArray, List.set_cons_succ, List.set_cons_zero]; go_big_quiet_on) | go_big_quiet_step ((first | fail)))); refine wpQuiet_nil ?_; rintro _ ⟨u, rfl⟩)
              go_upto_region 19 with (go_at_call 9; refine (dstep_upM T t ab kb cb (some ⟨bs + 1, 0, none⟩) 16 (smL R) cb.length 16 n _ (HT.out _ (by (repeat' (first | (with_reducible exact Below.refl _ _) | (with_reducible assumption) | (with_reducible refine Below.setCell ?_ ?_ _) | (with_reducible refine Below.alloc ?_ ?_ _) | (with_reducible refine Below.drew ?_) | (with_reducible refine Up.base _ ?_ ?_) | (with_reducible exact LeSize.out) | exact LeSize.out | exact Nat.le_add_right_of_le LeSize.out | exact Nat.le_add_right_of_le (Nat.le_add_right_of_le LeSize.out) | (with_reducible exact Nat.le_refl _) | (simp; done) | (simp; omega))))) (HCB2.out _ (by (repeat' (first | (with_reducible exact Below.refl _ _) | (with_reducible assumption) | (with_reducible refine Below.setCell ?_ ?_ _) | (with_reducible refine Below.alloc ?_ ?_ _) | (with_reducible refine Below.drew ?_) | (with_reducible refine Up.base _ ?_ ?_) | (with_reducible exact LeSize.out) | exact LeSize.out | exact Nat.le_add_right_of_le LeSize.out | exact Nat.le_add_right_of_le (Nat.le_add_right_of_le LeSize.out) | (with_reducible exact Nat.le_refl _) | (simp; done) | (simp; omega))))) (HFR2.out _ (by (repeat' (first | (with_reducible exact Below.refl _ _) | (with_reducible assumption) | (with_reducible refine Below.setCell ?_ ?_ _) | (with_reducible refine Below.alloc ?_ ?_ _) | (with_reducible refine Below.drew ?_) | (with_reducible refine Up.base _ ?_ ?_) | (with_reducible exact LeSize.out) | exact LeSize.out | exact Nat.le_add_right_of_le LeSize.out | exact Nat.le_add_right_of_le (Nat.le_add_right_of_le LeSize.out) | (with_reducible exact Nat.le_refl _) | (simp; done) | (simp; omega))))) HTK.out rfl (smL_len _) HN.out).mono ?_; rintro e w' ⟨a6, k6, u6, rfl, rfl, hch6⟩)
              have hb56 : Below u5.w.heap.size u5.w u6.w := by (repeat' (first | (with_reducible exact Below.refl _ _) | (with_reducible assumption) | (with_reducible refine Below.setCell ?_ ?_ _) | (with_reducible refine Below.alloc ?_ ?_ _) | (with_reducible refine Below.drew ?_) | (with_reducible refine Up.base _ ?_ ?_) | (with_reducible exact LeSize.out) | exact LeSize.out | exact Nat.le_add_right_of_le LeSize.out | exact Nat.le_add_right_of_le (Nat.le_add_right_of_le LeSize.out) | (with_reducible exact Nat.le_refl _) | (simp; done) | (simp; omega)))
              have hbw6 : Below wr.heap.size wr u6.w := by (repeat' (first | (with_reducible exact Below.refl _ _) | (with_reducible assumption) | (with_reducible refine Below.setCell ?_ ?_ _) | (with_reducible refine Below.alloc ?_ ?_ _) | (with_reducible refine Below.drew ?_) | (with_reducible refine Up.base _ ?_ ?_) | (with_reducible exact LeSize.out) | exact LeSize.out | exact Nat.le_add_right_of_le LeSize.out | exact Nat.le_add_right_of_le (Nat.le_add_right_of_le LeSize.out) | (with_reducible exact Nat.le_refl _) | (simp; done) | (simp; omega)))
              have HC6 := Lib.hid hch6
              have HC5b := Lib.hid (HC5.out.below hb56 (Nat.le_refl _))
              clear hch6 HC5
              generalize u6.w = WB at *
              have hb6s := hbw6.size
              have hA2 : Below W0.heap.size W0 WB := hA01.trans (hbw6.mono hA01.size)
              have hAW2 : Below w.heap.size w WB := hAW.trans (hbw6.mono hAW.size)
              have ct6 : WB.cell? ⟨uT.w.heap.size, 113, none⟩ = some (.slice da n dcap) := by rw [hA2.cell (p := ⟨uT.w.heap.size, 113, none⟩) (by have := HWS.out; simp; omega)]; exact hcT
              have HEQ : Hid (∀ d, d < n → d ≠ k → (stepN t.de ca (smL S) n).getD d ch0 = (stepN t.de cb (smL R) n).getD d ch0) := Lib.hid fun d h1 h2 => by
                rw [stepN_get _ _ _ h1, stepN_get _ _ _ h1, HA.out.eq d h2, smL_get _ (by omega), smL_get _ (by omega), HRR.out d, if_neg (by omega)]
              have HEQ2 : Hid (∀ d, d ≠ k → (stepN t.de ca (smL S) n).getD d ch0 = (stepN t.de cb (smL R) n).getD d ch0) := Lib.hid fun d h2 => by
                by_cases h1 : d < n
                · exact HEQ.out d h1 h2
                · rw [stepN_out _ _ _ h1, stepN_out _ _ _ h1]
              have HL1 := Lib.hid (stepN_len t.de ca (smL S) n)
              have HL2 := Lib.hid (stepN_len t.de cb (smL R) n)
              generalize stepN t.de ca (smL S) n = c5 at *
              generalize stepN t.de cb (smL R) n = c6 at *
              have hnq := run_neq_ch
              haveI : LeSize w.heap.size WB := ⟨hAW2.size⟩
              clear hb56 HEQ
              go_wp2
              go_loopw [17] (fun i wx => ∃ d : Nat, d ≤ n ∧ i = .int .i64 d ∧ Below WB.heap.size WB wx) (fun i _ => n - (intOf i).toNat)
              case atStart => exact ⟨0, Nat.zero_le _, rfl, Below.refl _ _⟩
              case round =>
                obtain ⟨d, hd, rfl, hbx⟩ := hrel
                haveI : LeSize WB.heap.size wr := ⟨hbx.size⟩
                by_cases hdn : d < n
                · by_cases hdk : d = k
                  · subst hdk
                    go_wp2
                    (refine wp_region_up (by kernel_rfl) (by kernel_rfl) ?_; (repeat (first | go_big_quiet_step ((first | fail)))); refine wpQuiet_nil ?_; rintro _ ⟨u, rfl⟩)
                    go_wp2
                    go_roundw
                    case rel => exact ⟨d + 1, by omega, by go_num, by (repeat' (first | (with_reducible exact Below.refl _ _) | (with_reducible assumption) | (with_reducible refine Below.setCell ?_ ?_ _) | (with_reducible refine Below.alloc ?_ ?_ _) | (with_reducible refine Below.drew ?_) | (with_reducible refine Up.base _ ?_ ?_) | (with_reducible exact LeSize.out) | exact LeSize.out | exact Nat.le_add_right_of_le LeSize.out | exact Nat.le_add_right_of_le (Nat.le_add_right_of_le LeSize.out) | (with_reducible exact Nat.le_refl _) | (simp; done) | (simp; omega)))⟩
                    case measure => simp [intOf]; omega
                  · obtain ⟨b5, o5, rfl, hb5, hc5⟩ := HC5b.out.cells (i := d) (by rw [HL1.out]; exact hdn)
                    obtain ⟨b6, o6, rfl, hb6, hc6⟩ := HC6.out.cells (i := d) (by rw [HL2.out]; exact hdn)
                    haveI : LeSize (b5 + 1) wr := ⟨Nat.le_trans hb5 hbx.size⟩
                    haveI : LeSize (b6 + 1) wr := ⟨Nat.le_trans hb6 hbx.size⟩
                    have g5 : ∀ q, q < 7 → wr.cell? ⟨b5, o5 + d * 7 + q, none⟩ = some (((chC (c5.getD d ch0))[q]?).getD undef) := fun q hq => by
                      rw [hbx.cell (p := ⟨b5, o5 + d * 7 + q, none⟩) hb5]; exact hc5 q hq
                    have g6 : ∀ q, q < 7 → wr.cell? ⟨b6, o6 + d * 7 + q, none⟩ = some (((chC (c6.getD d ch0))[q]?).getD undef) := fun q hq => by
                      rw [hbx.cell (p := ⟨b6, o6 + d * 7 + q, none⟩) hb6]; exact hc6 q hq
                    rw [HEQ2.out d hdk] at g5
                    have x0 := g5 0 (by omega)
                    have x1 := g5 1 (by omega)
                    have x2 := g5 2 (by omega)
                    have x3 := g5 3 (by omega)
                    have x4 := g5 4 (by omega)
                    have x5 := g5 5 (by omega)
                    have x6 := g5 6 (by omega)
                    have y0 := g6 0 (by omega)
                    have y1 := g6 1 (by omega)
                    have y2 := g6 2 (by omega)
                    have y3 := g6 3 (by omega)
                    have y4 := g6 4 (by omega)
                    have y5 := g6 5 (by omega)
                    have y6 := g6 6 (by omega)
                    generalize c6.getD d ch0 = c at *
                    simp only [chC, Nat.add_zero, List.getElem?_cons_zero, List.getElem?_cons_succ, Option.getD_some] at x0 x1 x2 x3 x4 x5 x6 y0 y1 y2 y3 y4 y5 y6
                    have e1 : ((d : Int) != (k : Int)) = true := by simp; omega
                    have e2 : ((d : Int) == (k : Int)) = false := by simp; omega
                    have hnc := hnq c
                    have hdI : (d : Int) < n := by omega
                    clear g5 g6 hc5 hc6 hdk hnq
                    go_wp2
                    (refine wp_region_up (by kernel_rfl) (by kernel_rfl) ?_; (repeat (first | go_big_quiet_step ((first | fail)))); refine wpQuiet_nil ?_; rintro _ ⟨u, rfl⟩)
                    go_wp2
                    go_roundw
                    case rel => exact ⟨d + 1, by omega, by go_num, by (repeat' (first | (with_reducible exact Below.refl _ _) | (with_reducible assumption) | (with_reducible refine Below.setCell ?_ ?_ _) | (with_reducible refine Below.alloc ?_ ?_ _) | (with_reducible refine Below.drew ?_) | (with_reducible refine Up.base _ ?_ ?_) | (with_reducible exact LeSize.out) | exact LeSize.out | exact Nat.le_add_right_of_le LeSize.out | exact Nat.le_add_right_of_le (Nat.le_add_right_of_le LeSize.out) | (with_reducible exact Nat.le_refl _) | (simp; done) | (simp; omega)))⟩
                    case measure => simp [intOf]; omega
                · obtain rfl : d = n := by omega
                  have HFIN : Hid (ApSt W0 wr a5 a6 c5 c6 k) := Lib.hid ⟨HC5b.out.below hbx (Nat.le_refl _), HC6.out.below hbx (Nat.le_refl _), by rw [HL1.out, HL2.out], HEQ2.out, hA2.trans (hbx.mono hA2.size)⟩
                  go_wp2
                  go_roundw
                  case rel => exact ⟨j + 1, by omega, by go_num, a5, k5, c5, a6, k6, c6, by rw [HL1.out], by rw [HL2.out], HFIN⟩
                  case measure => simp [intOf]; omega
        · obtain rfl : j = z1.length := by omega
          go_wp2_with (first | (go_at_call 7; refine (Up.run (awake14_any _)).mono ?_; rintro e w' ⟨rfl, ua, rfl⟩))
          go_ret
          exact ⟨rfl, by (repeat' (first | (with_reducible exact Below.refl _ _) | (with_reducible assumption) | (with_reducible refine Below.setCell ?_ ?_ _) | (with_reducible refine Below.alloc ?_ ?_ _) | (with_reducible refine Below.drew ?_) | (with_reducible refine Up.base _ ?_ ?_) | (with_reducible exact LeSize.out) | exact LeSize.out | exact Nat.le_add_right_of_le LeSize.out | exact Nat.le_add_right_of_le (Nat.le_add_right_of_le LeSize.out) | (with_reducible exact Nat.le_refl _) | (simp; done) | (simp; omega)))⟩
  · have hlen2 : 40 < z1.length := by omega
    clear hlen
    go_wp2_with (first | (go_at_call 7; refine (Up.run (awake14_any _)).mono ?_; rintro e w' ⟨rfl, ua, rfl⟩))
    go_ret
    exact ⟨rfl, by (repeat' (first | (with_reducible exact Below.refl _ _) | (with_reducible assumption) | (with_reducible refine Below.setCell ?_ ?_ _) | (with_reducible refine Below.alloc ?_ ?_ _) | (with_reducible refine Below.drew ?_) | (with_reducible refine Up.base _ ?_ ?_) | (with_reducible exact LeSize.out) | exact LeSize.out | exact Nat.le_add_right_of_le LeSize.out | exact Nat.le_add_right_of_le (Nat.le_add_right_of_le LeSize.out) | (with_reducible exact Nat.le_refl _) | (simp; done) | (simp; omega)))⟩
set_option maxRecDepth 100000 in
theorem DetectApart_lifted (os : Os) (started : os.Started) (H : Type) (enc : TypeId × Value → H) :
    ReturnsInHanded {} Try.checked os 3 .any (Rows.detectApartSpec.pre6 enc Try.prog Try.f3 Rows.detectApartRow.domain false) (Rows.detectApartSpec.post enc Try.prog Try.f3 false true false false) := by
  refine returnsInHanded_of_change (C := Try.checked) own started (by kernel_rfl) Try.func3
    (ChangeSpec.witness6 (enc := enc) (C := Try.checked) false ⟨#[], #[.slice none 0 0, .slice none 0 0, .int .i64 0, .float .f64 0], []⟩ 8 (by kernel_rfl) (by kernel_rfl) (by kernel_rfl) (by kernel_rfl)) ?_
  intro W base args ds gs before hval0 hW hcnd _
  have hval : ∀ (j : Nat) t v, Try.f3.params[j]? = some t → args[j]? = some v → Value.okWide Try.prog W .any base t v := hval0
  have hW' := hW
  obtain ⟨p, q, hA0, hV, rfl, hfz, hnd⟩ := hW
  have hA : DataW.TrodAll enc Try.prog W 0 (fun _ => true) true Try.f3.params.toList args.toList ds p := hA0
  rw [Try.params3] at hA hval
  obtain ⟨v0, vs0, d0, ds0, p0, q0, hargs, rfl, rfl, h0, r0⟩ := trodAll_cons hA
  obtain ⟨v1, vs1, d1, ds1, p1, q1, rfl, rfl, rfl, h1, r1⟩ := trodAll_cons r0
  obtain ⟨v2, vs2, d2, ds2, p2, q2, rfl, rfl, rfl, h2, r2⟩ := trodAll_cons r1
  obtain ⟨v3, vs3, d3, ds3, p3, q3, rfl, rfl, rfl, h3, r3⟩ := trodAll_cons r2
  obtain ⟨rfl, rfl, rfl⟩ := trodAll_nil r3
  obtain rfl : args = #[v0, v1, v2, v3] := by cases args; simp_all
  obtain ⟨rfl, rfl⟩ := trodVars_none hV
  have k0 := h0
  have lt0 : ∀ x ∈ p0, x.block < W.heap.size := by obtain ⟨m, hm⟩ := k0; exact DataW.trod_lt m _ _ _ hm
  have k1 := h1
  have lt1 : ∀ x ∈ p1, x.block < W.heap.size := by obtain ⟨m, hm⟩ := k1; exact DataW.trod_lt m _ _ _ hm
  have k2 := h2
  have lt2 : ∀ x ∈ p2, x.block < W.heap.size := by obtain ⟨m, hm⟩ := k2; exact DataW.trod_lt m _ _ _ hm
  have k3 := h3
  have lt3 : ∀ x ∈ p3, x.block < W.heap.size := by obtain ⟨m, hm⟩ := k3; exact DataW.trod_lt m _ _ _ hm
  obtain ⟨a0, cap0, z0, rfl, hl0, hm0, hh0, hr0, iz0⟩ := open_ints1 Try.underlying22 Try.underlying3 (by kernel_rfl) (hval 0 22 v0 rfl rfl) k0
  obtain ⟨a1, cap1, z1, rfl, hl1, hm1, hh1, hr1, iz1⟩ := open_floats1 Try.underlying23 Try.underlying24 (by kernel_rfl) (hval 1 23 v1 rfl rfl) k1
  obtain ⟨a2, rfl, w2⟩ := open_int1 Try.underlying3 (hval 2 3 v2 rfl rfl)
  obtain ⟨a3, rfl, w3⟩ := open_float1 Try.underlying24 (hval 3 24 v3 rfl rfl)
  clear hA0 hval0
  refine (detectApart_walk a0 cap0 z0 a1 cap1 z1 a2 a3 W ⟨hl0, hm0⟩ hh0 hr0 iz0 ⟨hl1, hm1⟩ hh1 hr1 iz1 w2 w3).mono fun e W' ⟨he, bel⟩ => ?_
  subst he
  exact ⟨_, rfl, _, _, _, [], _, [], hW', trodAll_mk1 (shut_bool Try.underlying4 _), (trodAll_cons_mk (Below.trod laidOut (by kernel_rfl) (of_decide_eq_true (by kernel_rfl)) k0 bel lt0) (trodAll_cons_mk (Below.trod laidOut (by kernel_rfl) (of_decide_eq_true (by kernel_rfl)) k1 bel lt1) (trodAll_cons_mk (Below.trod laidOut (by kernel_rfl) (of_decide_eq_true (by kernel_rfl)) k2 bel lt2) (trodAll_cons_mk (Below.trod laidOut (by kernel_rfl) (of_decide_eq_true (by kernel_rfl)) k3 bel lt3) trodAll_mk0)))), rfl, bel.frame _, fun h => by cases h⟩

theorem DetectApart_over : Rows.detectApartRow.holds Try.pinned (OpenSpec.ofChange Rows.detectApartSpec) :=
  OpenClaim.holds_of_wide 3 Try.f3 rfl rfl rfl rfl rfl rfl rfl ⟨rfl, rfl, rfl, rfl, rfl⟩ rfl rfl rfl rfl rfl (by kernel_rfl) Try.func3 (by kernel_rfl)
    (of_decide_eq_true (by kernel_rfl)) (by unfold Func.isWrapper; first | (rw [if_pos (by decide +kernel)]; kernel_rfl) | (rw [if_neg (by decide +kernel)]; exact ⟨rfl, rfl⟩))
    (fun os started H enc _ => DetectApart_lifted os started H enc)

/-- The given statement. -/
theorem DetectApart_holds : Rows.DetectApartSaid := DetectApart_over
#print axioms DetectApart_holds
end Go.Proofs.Yteohpfelgaffoaa
