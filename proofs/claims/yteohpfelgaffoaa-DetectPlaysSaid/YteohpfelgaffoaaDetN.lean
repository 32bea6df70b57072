/- For generated tables and scripts, the channels and Here are those of the reference. -/
import Derived.Test.YteohpfelgaffoaaDetM
namespace Go.Proofs.Yteohpfelgaffoaa
open Go.ChangeShapes Go.WideShapes Go.ChangeAt Go.RowKit
set_option linter.unusedVariables false

/-- The contract of the answers' Detect, the lengths said. -/
theorem rdet_upM (T : Array Value) (t : Tab) (a : Option Addr) (cap : Nat) (cs : List Ch) (sa : Option Addr) (scap : Nat) (zs : List Nat) (k m n : Nat) (w : World) (hT : IsTab w T t) (hcs : Chs w a cs) (hzs : Floats w sa zs) (htk : ∀ d ∈ t.de, IsTk d.dl ∧ IsTk d.ex) (hk : cs.length = k) (hm : zs.length = m) (hn : t.de.length = n) (hcl : k ≤ 1000) (hzl : m ≤ 1000) :
    Calls Try.prog 15 #[.agg T, .slice a k cap, .slice sa m scap] w fun e w' => ∃ a' cap', ∃ u : Up w, e = .returned (.slice a' n cap') ∧ w' = u.w ∧ Chs u.w a' (stepN t.de cs zs n) := by
  subst hk hm hn
  refine (rdet_de T t.de a cap cs sa scap zs w hT.isDe hcs hzs htk hcl hzl).mono ?_
  rintro e w' ⟨v, rfl, hown, hb⟩
  obtain ⟨a', cap', rfl, _, _, _, hr⟩ := OwnK.opened chC_len hown
  rw [stepN_len]
  refine ⟨a', cap', ⟨w', hb⟩, rfl, rfl, ?_⟩
  exact hr
theorem here_upM (T : Array Value) (t : Tab) (a : Option Addr) (cap : Nat) (cs : List Ch) (k n : Nat) (s : Int) (w : World) (hT : IsTab w T t) (hcs : Chs w a cs) (hk : cs.length = k) (hs : hereN t.de cs (min k n) = s) (hn : t.de.length = n) (hcl : k ≤ 1000) :
    Calls Try.prog 13 #[.agg T, .slice a k cap] w fun e w' => e = .returned (.int .i64 s) ∧ Below w.heap.size w w' := by
  subst hk hn hs
  exact here_any T t a cap cs w hT hcs (by omega)
theorem rhere_upM (T : Array Value) (t : Tab) (a : Option Addr) (cap : Nat) (cs : List Ch) (k n : Nat) (s : Int) (w : World) (hT : IsTab w T t) (hcs : Chs w a cs) (hk : cs.length = k) (hs : hereN t.de cs (min k n) = s) (hn : t.de.length = n) (hcl : k ≤ 1000) :
    Calls Try.prog 17 #[.agg T, .slice a k cap] w fun e w' => e = .returned (.int .i64 s) ∧ Below w.heap.size w w' := by
  subst hk hn hs
  exact rhere_de T t.de a cap cs w hT.isDe hcs hcl
theorem lscript_up (a : Option Addr) (n cap : Nat) (zs : List Int) (w : World) (hn : zs.length = n) (hl : zs.length ≤ 9223372036854775807) (hz : Ints w a zs) :
    Calls Try.prog 14 #[.slice a n cap, .bool false] w fun e w' => ∃ o frs, ∃ u : Up w, e = .returned o ∧ w' = u.w ∧ OwnK 60 6 frC u.w w.heap.size o frs ∧ FrsOf u.w w.heap.size frs ∧ frs.length ≤ 1500 := by
  subst hn
  refine (lscript_any a cap zs w hl hz).mono ?_
  rintro e w' ⟨o, frs, rfl, h1, h2, h3, hb⟩
  exact ⟨o, frs, ⟨w', hb⟩, rfl, rfl, h1, h2, h3⟩
theorem floats_of_own {w : World} {base : Nat} {v : Value} {zs : List Nat} (h : OwnK 24 1 flC w base v zs) : ∃ a cap, v = .slice a zs.length cap ∧ Floats w a zs := by
  obtain ⟨a, cap, rfl, _, _, _, hr⟩ := OwnK.opened flC_len h
  refine ⟨a, cap, rfl, ?_⟩
  rcases hr with h0 | ⟨b, off, rfl, hb, hc⟩
  · exact .inl h0
  · refine .inr ⟨b, off, rfl, hb, fun i hi => ?_⟩
    have := hc i hi 0 (by omega)
    rw [Nat.mul_one, Nat.add_zero] at this
    rw [this]
    simp [flC, List.getD, hi]
/-- What a frame is read for. -/
theorem frs_read {w : World} {base : Nat} {o : Value} {frs : List Fr} (h : OwnK 60 6 frC w base o frs) (hf : FrsOf w base frs) : ∃ a cap, o = .slice a frs.length cap ∧ ∀ i, i < frs.length → ∃ b off sa zs sc, a = some ⟨b, off, none⟩ ∧ b < w.heap.size ∧ w.cell? ⟨b, off + i * 6, none⟩ = some (.slice sa (zs : List Nat).length sc) ∧ zs.length ≤ 16 ∧ Floats w sa zs := by
  obtain ⟨a, cap, rfl, _, _, _, hr⟩ := OwnK.opened frC_len h
  refine ⟨a, cap, rfl, fun i hi => ?_⟩
  rcases hr with h0 | ⟨b, off, rfl, hb, hc⟩
  · omega
  · obtain ⟨zs, hl, ho⟩ := hf frs[i] (List.getElem_mem hi)
    obtain ⟨sa, sc, e, hz⟩ := floats_of_own ho
    have := hc i hi 0 (by omega)
    rw [Nat.add_zero] at this
    refine ⟨b, off, sa, zs, sc, rfl, hb, ?_, hl, hz⟩
    rw [this]
    simp only [List.getElem?_eq_getElem hi, Option.bind_some, frC, List.getElem?_cons_zero, Option.getD_some]
    rw [e]
/-- What is kept between ticks. -/
structure PlSt (W0 wr : World) (aa ab : Option Addr) (cs : List Ch) : Prop where
  pa : Chs wr aa cs
  pb : Chs wr ab cs
  le : cs.length ≤ 8
  bel : Below W0.heap.size W0 wr
set_option maxHeartbeats 16000000 in
set_option maxRecDepth 100000 in
theorem detectPlays_walk (a0 : Option Addr) (cap0 : Nat) (z0 : List Int) (a1 : Option Addr) (cap1 : Nat) (z1 : List Int) (w : World) (hc0 : z0.length ≤ cap0 ∧ cap0 ≤ 9223372036854775807) (_ : Hdr w a0 cap0) (hz0 : Ints w a0 z0) (_ : ∀ i, i < z0.length → InKind .i64 (z0.getD i 0))
    (hc1 : z1.length ≤ cap1 ∧ cap1 ≤ 9223372036854775807) (_ : Hdr w a1 cap1) (hz1 : Ints w a1 z1) (_ : ∀ i, i < z1.length → InKind .i64 (z1.getD i 0)) :
    Calls Try.prog 5 #[.slice a0 z0.length cap0, .slice a1 z1.length cap1] w fun e w' => e = .returned (.bool true) ∧ Below w.heap.size w w' := by
  have HZ : Hid (∀ w', Below w.heap.size w w' → Ints w' a0 z0) := Lib.hid fun w' hb => Row1.below hz0 hb (Nat.le_refl _)
  have HZL : Hid (z0.length ≤ 9223372036854775807) := Lib.hid (by omega)
  have HY : Hid (∀ w', Below w.heap.size w w' → Ints w' a1 z1) := Lib.hid fun w' hb => Row1.below hz1 hb (Nat.le_refl _)
  have HYL : Hid (z1.length ≤ 9223372036854775807) := Lib.hid (by omega)
  have z := zeroTab
  have hdl := tab_de_len z0
  have HTK := Lib.hid (tab_de_tk z0)
  generalize ht : tabM z0 = t at *
  have HT0 := Lib.hid ht
  clear hz0 hz1 ht
  go_enter Try.func5, Try.ntmps5
  go_upto_region 2 with (first | (go_at_call 6; refine (ltable_up _ _ _ _ HZL.out (HZ.out _ (by (repeat' (first | (with_reducible exact Below.refl _ _) | (with_reducible assumption) | (with_reducible refine Below.setCell ?_ ?_ _) | (with_reducible refine Below.alloc ?_ ?_ _) | (with_reducible refine Below.drew ?_) | (with_reducible refine Up.base _ ?_ ?_) | (with_reducible exact LeSize.out) | exact LeSize.out | exact Nat.le_add_right_of_le LeSize.out | exact Nat.le_add_right_of_le (Nat.le_add_right_of_le LeSize.out) | (with_reducible exact Nat.le_refl _) | (simp; done) | (simp; omega)))))).mono ?_; rintro e w' ⟨T, uT, rfl, rfl, hT⟩; rw [HT0.out] at hT) | (refine l_newTab rfl rfl rfl rfl inferInstance hT rfl ?_; go_simp))
  haveI : Sz131 T := ⟨hT.size⟩
  have HT : Hid (∀ w', Below uT.w.heap.size uT.w w' → IsTab w' T t) := Lib.hid fun w' hb => hT.below hb (Nat.le_refl _)
  clear hT HT0
  obtain ⟨n, hn⟩ : ∃ n, t.de.length = n := ⟨_, rfl⟩
  rw [hn] at hdl
  have HN := Lib.hid hn
  clear hn
  have i9 : IsBlk (uT.w.alloc (.cells T 34)) uT.w.heap.size T 34 := inferInstance
  have hbw : Below w.heap.size w (uT.w.alloc (.cells T 34)) := by (repeat' (first | (with_reducible exact Below.refl _ _) | (with_reducible assumption) | (with_reducible refine Below.setCell ?_ ?_ _) | (with_reducible refine Below.alloc ?_ ?_ _) | (with_reducible refine Below.drew ?_) | (with_reducible refine Up.base _ ?_ ?_) | (with_reducible exact LeSize.out) | exact LeSize.out | exact Nat.le_add_right_of_le LeSize.out | exact Nat.le_add_right_of_le (Nat.le_add_right_of_le LeSize.out) | (with_reducible exact Nat.le_refl _) | (simp; done) | (simp; omega)))
  have hbT : Below uT.w.heap.size uT.w (uT.w.alloc (.cells T 34)) := by (repeat' (first | (with_reducible exact Below.refl _ _) | (with_reducible assumption) | (with_reducible refine Below.setCell ?_ ?_ _) | (with_reducible refine Below.alloc ?_ ?_ _) | (with_reducible refine Below.drew ?_) | (with_reducible refine Up.base _ ?_ ?_) | (with_reducible exact LeSize.out) | exact LeSize.out | exact Nat.le_add_right_of_le LeSize.out | exact Nat.le_add_right_of_le (Nat.le_add_right_of_le LeSize.out) | (with_reducible exact Nat.le_refl _) | (simp; done) | (simp; omega)))
  have huw := uT.bel.size
  generalize hW0 : (uT.w.alloc (.cells T 34)) = W0 at *
  have hWs : W0.heap.size = uT.w.heap.size + 1 := by rw [← hW0]; simp
  have HWS := Lib.hid hWs
  clear hWs hW0
  haveI : LeSize w.heap.size W0 := ⟨hbw.size⟩
  go_upto_region 3 with (first | (go_at_call 14; refine (lscript_up a1 z1.length cap1 z1 _ rfl HYL.out (HY.out _ (by (repeat' (first | (with_reducible exact Below.refl _ _) | (with_reducible assumption) | (with_reducible refine Below.setCell ?_ ?_ _) | (with_reducible refine Below.alloc ?_ ?_ _) | (with_reducible refine Below.drew ?_) | (with_reducible refine Up.base _ ?_ ?_) | (with_reducible exact LeSize.out) | exact LeSize.out | exact Nat.le_add_right_of_le LeSize.out | exact Nat.le_add_right_of_le (Nat.le_add_right_of_le LeSize.out) | (with_reducible exact Nat.le_refl _) | (simp; done) | (simp; omega)))))).mono ?_; rintro e w' ⟨o, frs, uS, rfl, rfl, hown, hfrs, hfl⟩; obtain ⟨fa, fcap, rfl, hfr⟩ := frs_read hown hfrs))
  clear hown hfrs
  have HFR := Lib.hid hfr
  clear hfr
  have hbS : Below W0.heap.size W0 uS.w := by (repeat' (first | (with_reducible exact Below.refl _ _) | (with_reducible assumption) | (with_reducible refine Below.setCell ?_ ?_ _) | (with_reducible refine Below.alloc ?_ ?_ _) | (with_reducible refine Below.drew ?_) | (with_reducible refine Up.base _ ?_ ?_) | (with_reducible exact LeSize.out) | exact LeSize.out | exact Nat.le_add_right_of_le LeSize.out | exact Nat.le_add_right_of_le (Nat.le_add_right_of_le LeSize.out) | (with_reducible exact Nat.le_refl _) | (simp; done) | (simp; omega)))
  have hSs := hbS.size
  have i9S : IsBlk uS.w uT.w.heap.size T 34 := ⟨by rw [hbS.block _ (by have := HWS.out; omega)]; exact i9.out⟩
  have hbwS : Below w.heap.size w uS.w := hbw.trans (hbS.mono hbw.size)
  have hbTS : Below uT.w.heap.size uT.w uS.w := hbT.trans (hbS.mono hbT.size)
  have hWSS : uT.w.heap.size < uS.w.heap.size := by have := HWS.out; omega
  generalize uS.w = WS at *
  clear i9 hbw hbT hbS HWS
  haveI : LeSize w.heap.size WS := ⟨hbwS.size⟩
  obtain ⟨F, hF⟩ : ∃ F, frs.length = F := ⟨_, rfl⟩
  rw [hF] at hfl HFR
  try rw [hF]
  clear hF
  go_wp2
  go_loopw [7, 8, 9] (fun xa xb i wr => ∃ j : Nat, j ≤ F ∧ i = .int .i64 j ∧ ∃ aa ka ab kb k cs, xa = .slice aa k ka ∧ xb = .slice ab k kb ∧ (cs : List Ch).length = k ∧ Hid (PlSt WS wr aa ab cs)) (fun _ _ i _ => F - (intOf i).toNat)
  case atStart => exact ⟨0, Nat.zero_le _, rfl, none, 0, none, 0, 0, [], rfl, rfl, rfl, Lib.hid ⟨.inl rfl, .inl rfl, by simp, Below.refl _ _⟩⟩
  case round =>
    obtain ⟨j, hj, rfl, aa, ka, ab, kb, k, cs, rfl, rfl, hk, HA⟩ := hrel
    have HK := Lib.hid hk
    clear hk
    have hk8 : k ≤ 8 := HK.out ▸ HA.out.le
    have hA0 := HA.out.bel
    have hA1 := hA0.size
    have hAw : Below w.heap.size w wr := hbwS.trans (hA0.mono hbwS.size)
    haveI : LeSize w.heap.size wr := ⟨hAw.size⟩
    by_cases hjF : j < F
    · have hjI : (j : Int) < F := by omega
      obtain ⟨fb, foff, sa, zs, sc, rfl, hfb, hfc, hzl, hzf⟩ := HFR.out j (by omega)
      have hAT : Below uT.w.heap.size uT.w wr := hbTS.trans (hA0.mono hbTS.size)
      haveI : LeSize uT.w.heap.size wr := ⟨hAT.size⟩
      haveI iT : IsBlk wr uT.w.heap.size T 34 := ⟨by rw [hA0.block _ hWSS]; exact i9S.out⟩
      haveI : LeSize (fb + 1) wr := ⟨Nat.le_trans hfb hA1⟩
      have hfw : wr.cell? ⟨fb, foff + j * 6, none⟩ = some (.slice sa zs.length sc) := by rw [hA0.cell (p := ⟨fb, foff + j * 6, none⟩) hfb]; exact hfc
      have HFW := Lib.hid hfw
      have HZF : Hid (∀ w', Below wr.heap.size wr w' → Floats w' sa zs) := Lib.hid fun w' hb => Row1.below hzf (hA0.trans (hb.mono hA1)) (Nat.le_refl _)
      have HCA : Hid (∀ w', Below wr.heap.size wr w' → Chs w' aa cs) := Lib.hid fun w' hb => HA.out.pa.below hb (Nat.le_refl _)
      have HCB : Hid (∀ w', Below wr.heap.size wr w' → Chs w' ab cs) := Lib.hid fun w' hb => HA.out.pb.below hb (Nat.le_refl _)
      have HTW : Hid (∀ w', Below wr.heap.size wr w' → IsTab w' T t) := Lib.hid fun w' hb => HT.out _ (hAT.trans (hb.mono hAT.size))
      obtain ⟨m, hm⟩ : ∃ m, zs.length = m := ⟨_, rfl⟩
      rw [hm] at hfw hzl
      have HM := Lib.hid hm
      clear hfc hzf hm HFW
      haveI := HasCell.of hfw
      go_upto_region 7 with fail
      (refine wp_region_up_tail 7 (by kernel_rfl) (by kernel_rfl) ?_; simp only [List.take_succ_cons, List.take_zero, List.drop_succ_cons, List.drop_zero]; (repeat (first | (go_big_quiet_want; refine q_ltab rfl rfl ?_; simp only [Act.put, List.setIfInBounds_toArray, List.set_cons_succ, List.set_cons_zero]; go_big_quiet_on) | go_big_quiet_step ((first | fail)))); refine wpQuiet_nil ?_; rintro _ ⟨u, rfl⟩)
      go_upto_region 8 with (go_at_call 9; refine (dstep_upM T t aa ka cs sa sc zs k m n _ (HTW.out _ (by (repeat' (first | (with_reducible exact Below.refl _ _) | (with_reducible assumption) | (with_reducible refine Below.setCell ?_ ?_ _) | (with_reducible refine Below.alloc ?_ ?_ _) | (with_reducible refine Below.drew ?_) | (with_reducible refine Up.base _ ?_ ?_) | (with_reducible exact LeSize.out) | exact LeSize.out | exact Nat.le_add_right_of_le LeSize.out | exact Nat.le_add_right_of_le (Nat.le_add_right_of_le LeSize.out) | (with_reducible exact Nat.le_refl _) | (simp; done) | (simp; omega))))) (HCA.out _ (by (repeat' (first | (with_reducible exact Below.refl _ _) | (with_reducible assumption) | (with_reducible refine Below.setCell ?_ ?_ _) | (with_reducible refine Below.alloc ?_ ?_ _) | (with_reducible refine Below.drew ?_) | (with_reducible refine Up.base _ ?_ ?_) | (with_reducible exact LeSize.out) | exact LeSize.out | exact Nat.le_add_right_of_le LeSize.out | exact Nat.le_add_right_of_le (Nat.le_add_right_of_le LeSize.out) | (with_reducible exact Nat.le_refl _) | (simp; done) | (simp; omega))))) (HZF.out _ (by (repeat' (first | (with_reducible exact Below.refl _ _) | (with_reducible assumption) | (with_reducible refine Below.setCell ?_ ?_ _) | (with_reducible refine Below.alloc ?_ ?_ _) | (with_reducible refine Below.drew ?_) | (with_reducible refine Up.base _ ?_ ?_) | (with_reducible exact LeSize.out) | exact LeSize.out | exact Nat.le_add_right_of_le LeSize.out | exact Nat.le_add_right_of_le (Nat.le_add_right_of_le LeSize.out) | (with_reducible exact Nat.le_refl _) | (simp; done) | (simp; omega))))) HTK.out HK.out HM.out HN.out).mono ?_; rintro e w' ⟨a5, k5, u5, rfl, rfl, hch5⟩)
      have HC5 := Lib.hid hch5
      clear hch5
      (refine wp_region_up_tail 7 (by kernel_rfl) (by kernel_rfl) ?_; simp only [List.take_succ_cons, List.take_zero, List.drop_succ_cons, List.drop_zero]; (repeat (first | (go_big_quiet_want; refine q_ltab rfl rfl ?_; simp only [Act.put, List.setIfInBounds_toArray, List.set_cons_succ, List.set_cons_zero]; go_big_quiet_on) | go_big_quiet_step ((first | fail)))); refine wpQuiet_nil ?_; rintro _ ⟨u, rfl⟩)
      go_upto_region 9 with (go_at_call 15; refine (rdet_upM T t ab kb cs sa sc zs k m n _ (HTW.out _ (by (repeat' (first | (with_reducible exact Below.refl _ _) | (with_reducible assumption) | (with_reducible refine Below.setCell ?_ ?_ _) | (with_reducible refine Below.alloc ?_ ?_ _) | (with_reducible refine Below.drew ?_) | (with_reducible refine Up.base _ ?_ ?_) | (with_reducible exact LeSize.out) | exact LeSize.out | exact Nat.le_add_right_of_le LeSize.out | exact Nat.le_add_right_of_le (Nat.le_add_right_of_le LeSize.out) | (with_reducible exact Nat.le_refl _) | (simp; done) | (simp; omega))))) (HCB.out _ (by (repeat' (first | (with_reducible exact Below.refl _ _) | (with_reducible assumption) | (with_reducible refine Below.setCell ?_ ?_ _) | (with_reducible refine Below.alloc ?_ ?_ _) | (with_reducible refine Below.drew ?_) | (with_reducible refine Up.base _ ?_ ?_) | (with_reducible exact LeSize.out) | exact LeSize.out | exact Nat.le_add_right_of_le LeSize.out | exact Nat.le_add_right_of_le (Nat.le_add_right_of_le LeSize.out) | (with_reducible exact Nat.le_refl _) | (simp; done) | (simp; omega))))) (HZF.out _ (by (repeat' (first | (with_reducible exact Below.refl _ _) | (with_reducible assumption) | (with_reducible refine Below.setCell ?_ ?_ _) | (with_reducible refine Below.alloc ?_ ?_ _) | (with_reducible refine Below.drew ?_) | (with_reducible refine Up.base _ ?_ ?_) | (with_reducible exact LeSize.out) | exact LeSize.out | exact Nat.le_add_right_of_le LeSize.out | exact Nat.le_add_right_of_le (Nat.le_add_right_of_le LeSize.out) | (with_reducible exact Nat.le_refl _) | (simp; done) | (simp; omega))))) HTK.out HK.out HM.out HN.out (by omega) (by omega)).mono ?_; rintro e w' ⟨a6, k6, u6, rfl, rfl, hch6⟩)
      have hb56 : Below u5.w.heap.size u5.w u6.w := by (repeat' (first | (with_reducible exact Below.refl _ _) | (with_reducible assumption) | (with_reducible refine Below.setCell ?_ ?_ _) | (with_reducible refine Below.alloc ?_ ?_ _) | (with_reducible refine Below.drew ?_) | (with_reducible refine Up.base _ ?_ ?_) | (with_reducible exact LeSize.out) | exact LeSize.out | exact Nat.le_add_right_of_le LeSize.out | exact Nat.le_add_right_of_le (Nat.le_add_right_of_le LeSize.out) | (with_reducible exact Nat.le_refl _) | (simp; done) | (simp; omega)))
      have hb6 : Below wr.heap.size wr u6.w := by (repeat' (first | (with_reducible exact Below.refl _ _) | (with_reducible assumption) | (with_reducible refine Below.setCell ?_ ?_ _) | (with_reducible refine Below.alloc ?_ ?_ _) | (with_reducible refine Below.drew ?_) | (with_reducible refine Up.base _ ?_ ?_) | (with_reducible exact LeSize.out) | exact LeSize.out | exact Nat.le_add_right_of_le LeSize.out | exact Nat.le_add_right_of_le (Nat.le_add_right_of_le LeSize.out) | (with_reducible exact Nat.le_refl _) | (simp; done) | (simp; omega)))
      have HL := Lib.hid (stepN_len t.de cs zs n)
      have HP5 : Hid (∀ w', Below u6.w.heap.size u6.w w' → Chs w' a5 (stepN t.de cs zs n)) := Lib.hid fun w' hb => HC5.out.below (hb56.trans (hb.mono hb56.size)) (Nat.le_refl _)
      have HP6 : Hid (∀ w', Below u6.w.heap.size u6.w w' → Chs w' a6 (stepN t.de cs zs n)) := Lib.hid fun w' hb => hch6.below hb (Nat.le_refl _)
      clear hch6 HC5 HCA HCB
      generalize stepN t.de cs zs n = c6 at *
      obtain ⟨s, hs⟩ : ∃ s, hereN t.de c6 (min n n) = s := ⟨_, rfl⟩
      have HS := Lib.hid hs
      clear hs
      have HSA : Hid (∀ w', Below u6.w.heap.size u6.w w' → Calls Try.prog 16 #[.slice a5 n k5, .slice a6 n k6] w' fun e w'' => e = .returned (.bool true) ∧ Below w'.heap.size w' w'') := Lib.hid fun w' hb => by
        have := samech_any a5 k5 a6 k6 c6 w' (HP5.out _ hb) (HP6.out _ hb) (by have := HL.out; omega)
        rwa [HL.out] at this
      have HHA : Hid (∀ w', Below u6.w.heap.size u6.w w' → Calls Try.prog 13 #[.agg T, .slice a5 n k5] w' fun e w'' => e = .returned (.int .i64 s) ∧ Below w'.heap.size w' w'') := Lib.hid fun w' hb =>
        here_upM T t a5 k5 c6 n n s w' (HTW.out _ (hb6.trans (hb.mono hb6.size))) (HP5.out _ hb) HL.out HS.out HN.out (by omega)
      have HHB : Hid (∀ w', Below u6.w.heap.size u6.w w' → Calls Try.prog 17 #[.agg T, .slice a6 n k6] w' fun e w'' => e = .returned (.int .i64 s) ∧ Below w'.heap.size w' w'') := Lib.hid fun w' hb =>
        rhere_upM T t a6 k6 c6 n n s w' (HTW.out _ (hb6.trans (hb.mono hb6.size))) (HP6.out _ hb) HL.out HS.out HN.out (by omega)
      (refine wp_region_up (by kernel_rfl) (by kernel_rfl) ?_; (repeat (first | (go_big_quiet_want; refine q_ltab rfl rfl ?_; simp only [Act.put, List.setIfInBounds_toArray, List.set_cons_succ, List.set_cons_zero]; go_big_quiet_on) | go_big_quiet_step ((first | (go_at_call 16; (with_reducible refine Up.calls (HSA.out _ ?_)); (repeat' (first | (with_reducible exact Below.refl _ _) | (with_reducible assumption) | (with_reducible refine Below.setCell ?_ ?_ _) | (with_reducible refine Below.alloc ?_ ?_ _) | (with_reducible refine Below.drew ?_) | (with_reducible refine Up.base _ ?_ ?_) | (with_reducible exact LeSize.out) | exact LeSize.out | exact Nat.le_add_right_of_le LeSize.out | exact Nat.le_add_right_of_le (Nat.le_add_right_of_le LeSize.out) | (with_reducible exact Nat.le_refl _) | (simp; done) | (simp; omega)))) | (go_at_call 13; (with_reducible refine Up.calls (HHA.out _ ?_)); (repeat' (first | (with_reducible exact Below.refl _ _) | (with_reducible assumption) | (with_reducible refine Below.setCell ?_ ?_ _) | (with_reducible refine Below.alloc ?_ ?_ _) | (with_reducible refine Below.drew ?_) | (with_reducible refine Up.base _ ?_ ?_) | (with_reducible exact LeSize.out) | exact LeSize.out | exact Nat.le_add_right_of_le LeSize.out | exact Nat.le_add_right_of_le (Nat.le_add_right_of_le LeSize.out) | (with_reducible exact Nat.le_refl _) | (simp; done) | (simp; omega)))) | (go_at_call 17; (with_reducible refine Up.calls (HHB.out _ ?_)); (repeat' (first | (with_reducible exact Below.refl _ _) | (with_reducible assumption) | (with_reducible refine Below.setCell ?_ ?_ _) | (with_reducible refine Below.alloc ?_ ?_ _) | (with_reducible refine Below.drew ?_) | (with_reducible refine Up.base _ ?_ ?_) | (with_reducible exact LeSize.out) | exact LeSize.out | exact Nat.le_add_right_of_le LeSize.out | exact Nat.le_add_right_of_le (Nat.le_add_right_of_le LeSize.out) | (with_reducible exact Nat.le_refl _) | (simp; done) | (simp; omega)))) | fail)))); refine wpQuiet_nil ?_; rintro _ ⟨u, rfl⟩)
      have HFIN : Hid (∀ w', Below u6.w.heap.size u6.w w' → PlSt WS w' a5 a6 c6) := Lib.hid fun w' hb => ⟨HP5.out _ hb, HP6.out _ hb, by have := HL.out; omega, hA0.trans ((hb6.trans (hb.mono hb6.size)).mono hA1)⟩
      go_wp2
      go_roundw
      case rel => exact ⟨j + 1, by omega, by go_num, a5, k5, a6, k6, n, c6, rfl, rfl, HL.out, Lib.hid (HFIN.out _ (by (repeat' (first | (with_reducible exact Below.refl _ _) | (with_reducible assumption) | (with_reducible refine Below.setCell ?_ ?_ _) | (with_reducible refine Below.alloc ?_ ?_ _) | (with_reducible refine Below.drew ?_) | (with_reducible refine Up.base _ ?_ ?_) | (with_reducible exact LeSize.out) | exact LeSize.out | exact Nat.le_add_right_of_le LeSize.out | exact Nat.le_add_right_of_le (Nat.le_add_right_of_le LeSize.out) | (with_reducible exact Nat.le_refl _) | (simp; done) | (simp; omega)))))⟩
      case measure => simp [intOf]; omega
    · obtain rfl : j = F := by omega
      go_wp2_with (first | (go_at_call 7; refine (Up.run (awake14_any _)).mono ?_; rintro e w' ⟨rfl, ua, rfl⟩))
      go_ret
      exact ⟨rfl, by (repeat' (first | (with_reducible exact Below.refl _ _) | (with_reducible assumption) | (with_reducible refine Below.setCell ?_ ?_ _) | (with_reducible refine Below.alloc ?_ ?_ _) | (with_reducible refine Below.drew ?_) | (with_reducible refine Up.base _ ?_ ?_) | (with_reducible exact LeSize.out) | exact LeSize.out | exact Nat.le_add_right_of_le LeSize.out | exact Nat.le_add_right_of_le (Nat.le_add_right_of_le LeSize.out) | (with_reducible exact Nat.le_refl _) | (simp; done) | (simp; omega)))⟩
set_option maxRecDepth 100000 in
theorem DetectPlays_lifted (os : Os) (started : os.Started) (H : Type) (enc : TypeId × Value → H) :
    ReturnsInHanded {} Try.checked os 5 .any (Rows.detectPlaysSpec.pre6 enc Try.prog Try.f5 Rows.detectPlaysRow.domain false) (Rows.detectPlaysSpec.post enc Try.prog Try.f5 false true false false) := by
  refine returnsInHanded_of_change (C := Try.checked) own started (by kernel_rfl) Try.func5
    (ChangeSpec.witness6 (enc := enc) (C := Try.checked) false ⟨#[], #[.slice none 0 0, .slice none 0 0], []⟩ 8 (by kernel_rfl) (by kernel_rfl) (by kernel_rfl) (by kernel_rfl)) ?_
  intro W base args ds gs before hval0 hW hcnd _
  have hval : ∀ (j : Nat) t v, Try.f5.params[j]? = some t → args[j]? = some v → Value.okWide Try.prog W .any base t v := hval0
  have hW' := hW
  obtain ⟨p, q, hA0, hV, rfl, hfz, hnd⟩ := hW
  have hA : DataW.TrodAll enc Try.prog W 0 (fun _ => true) true Try.f5.params.toList args.toList ds p := hA0
  rw [Try.params5] at hA hval
  obtain ⟨v0, vs0, d0, ds0, p0, q0, hargs, rfl, rfl, h0, r0⟩ := trodAll_cons hA
  obtain ⟨v1, vs1, d1, ds1, p1, q1, rfl, rfl, rfl, h1, r1⟩ := trodAll_cons r0
  obtain ⟨rfl, rfl, rfl⟩ := trodAll_nil r1
  obtain rfl : args = #[v0, v1] := by cases args; simp_all
  obtain ⟨rfl, rfl⟩ := trodVars_none hV
  have k0 := h0
  have lt0 : ∀ x ∈ p0, x.block < W.heap.size := by obtain ⟨m, hm⟩ := k0; exact DataW.trod_lt m _ _ _ hm
  have k1 := h1
  have lt1 : ∀ x ∈ p1, x.block < W.heap.size := by obtain ⟨m, hm⟩ := k1; exact DataW.trod_lt m _ _ _ hm
  obtain ⟨a0, cap0, z0, rfl, hl0, hm0, hh0, hr0, iz0⟩ := open_ints1 Try.underlying22 Try.underlying3 (by kernel_rfl) (hval 0 22 v0 rfl rfl) k0
  obtain ⟨a1, cap1, z1, rfl, hl1, hm1, hh1, hr1, iz1⟩ := open_ints1 Try.underlying22 Try.underlying3 (by kernel_rfl) (hval 1 22 v1 rfl rfl) k1
  clear hA0 hval0
  refine (detectPlays_walk a0 cap0 z0 a1 cap1 z1 W ⟨hl0, hm0⟩ hh0 hr0 iz0 ⟨hl1, hm1⟩ hh1 hr1 iz1).mono fun e W' ⟨he, bel⟩ => ?_
  subst he
  exact ⟨_, rfl, _, _, _, [], _, [], hW', trodAll_mk1 (shut_bool Try.underlying4 _), (trodAll_cons_mk (Below.trod laidOut (by kernel_rfl) (of_decide_eq_true (by kernel_rfl)) k0 bel lt0) (trodAll_cons_mk (Below.trod laidOut (by kernel_rfl) (of_decide_eq_true (by kernel_rfl)) k1 bel lt1) trodAll_mk0)), rfl, bel.frame _, fun h => by cases h⟩

theorem DetectPlays_over : Rows.detectPlaysRow.holds Try.pinned (OpenSpec.ofChange Rows.detectPlaysSpec) :=
  OpenClaim.holds_of_wide 5 Try.f5 rfl rfl rfl rfl rfl rfl rfl ⟨rfl, rfl, rfl, rfl, rfl⟩ rfl rfl rfl rfl rfl (by kernel_rfl) Try.func5 (by kernel_rfl)
    (of_decide_eq_true (by kernel_rfl)) (by unfold Func.isWrapper; first | (rw [if_pos (by decide +kernel)]; kernel_rfl) | (rw [if_neg (by decide +kernel)]; exact ⟨rfl, rfl⟩))
    (fun os started H enc _ => DetectPlays_lifted os started H enc)

/-- The given statement. -/
theorem DetectPlays_holds : Rows.DetectPlaysSaid := DetectPlays_over
#print axioms DetectPlays_holds
end Go.Proofs.Yteohpfelgaffoaa
