/- The contract of detect's Step. The contract of detect's Here. -/
import Derived.Test.YteohpfelgaffoaaDetA
import Derived.Deep.CutRange
namespace Go.Proofs.Yteohpfelgaffoaa
section
open Go.RowKit
set_option linter.unusedVariables false
attribute [local go_sem] IsBlk.cell IsBlk.frozen

theorem det_cells {w : World} {a : Option Addr} {de : List Det} (h : RowK w a 7 de.length (cellK detC de)) {i : Nat} (hi : i < de.length) :
    ∃ b off, a = some ⟨b, off, none⟩ ∧ b < w.heap.size ∧ ∀ j, j < 7 → w.cell? ⟨b, off + i * 7 + j, none⟩ = some (((detC (de.getD i ⟨0, 0, 0, 0, 0, 0, 0⟩))[j]?).getD undef) := by
  obtain ⟨b, off, e, hb, hc⟩ := h.resolve_left (by omega)
  refine ⟨b, off, e, hb, fun j hj => ?_⟩
  rw [hc i hi j hj]
  unfold cellK
  rw [List.getElem?_eq_getElem hi, List.getD_eq_getElem?_getD, List.getElem?_eq_getElem hi]; rfl
/-- What Step and Here read of a table: its detectors. -/
def IsDe (w : World) (T : Array Value) (de : List Det) : Prop := ∃ da dcap, T[113]? = some (.slice da de.length dcap) ∧ RowK w da 7 de.length (cellK detC de) ∧ de.length ≤ 64
theorem IsTab.isDe {w : World} {T : Array Value} {t : Tab} (h : IsTab w T t) : IsDe w T t.de := by
  obtain ⟨gv, dv, rv, bv, hTe, hI⟩ := h
  obtain ⟨da, dcap, rfl, hrow⟩ := hI.de
  exact ⟨da, dcap, by rw [hTe, arrF_get _ _ _ (by omega)]; rfl, hrow, hI.ld⟩
theorem IsDe.below {B : Nat} {w w' : World} {T : Array Value} {de : List Det} (h : IsDe w T de) (hb : Below B w w') (hB : w.heap.size ≤ B) : IsDe w' T de := by
  obtain ⟨da, dcap, h1, h2, h3⟩ := h
  exact ⟨da, dcap, h1, h2.below hb hB, h3⟩
set_option maxHeartbeats 8000000 in
set_option maxRecDepth 100000 in
theorem dstep_de (T : Array Value) (de : List Det) (a : Option Addr) (cap : Nat) (cs : List Ch) (sa : Option Addr) (scap : Nat) (zs : List Nat) (w : World) (hT : IsDe w T de) (hcs : Chs w a cs) (hzs : Floats w sa zs) (htk : ∀ d ∈ de, IsTk d.dl ∧ IsTk d.ex) :
    Calls Try.prog 9 #[.agg T, .slice a cs.length cap, .slice sa zs.length scap] w fun e w' => ∃ v, e = .returned v ∧ OwnK 48 7 chC w' w.heap.size v (stepN de cs zs de.length) ∧ Below w.heap.size w w' := by
  obtain ⟨da, dcap, t113, hrow, ld⟩ := hT
  have HR := Lib.hid hrow
  have HTK := Lib.hid htk
  have HAC0 := Lib.hid fun (i : Nat) (hi : i < 1000000) (w' : World) (hb : Below w.heap.size w w') => atC_any a cap cs i w' (hcs.below hb (Nat.le_refl _)) hi
  have HAF0 := Lib.hid fun (i : Nat) (hi : i < 1000000) (w' : World) (hb : Below w.heap.size w w') => atF_any sa scap zs i nanF w' (Row1.below hzs hb (Nat.le_refl _)) hi
  clear hrow htk hcs hzs
  go_enter Try.func9, Try.ntmps9
  go_wp2
  go_loopw [7, 16] (fun l i wr => ∃ n : Nat, n ≤ de.length ∧ i = .int .i64 n ∧ OwnK 48 7 chC wr (w.heap.size + 1) l (stepN de cs zs n) ∧ Below (w.heap.size + 1) (w.alloc (.cells T 34)) wr) (fun _ i _ => de.length - (intOf i).toNat)
  case atStart => exact ⟨0, Nat.zero_le _, rfl, OwnK.nil _ _, Below.refl _ _⟩
  case round =>
    obtain ⟨n, hn, rfl, hown, hbo⟩ := hrel
    have hB := hbo.size
    rw [World.size_alloc] at hB
    have hbw : Below w.heap.size w wr := ((Below.refl w.heap.size w).alloc (Nat.le_refl _) (.cells T 34)).trans (hbo.mono (by omega))
    haveI : LeSize w.heap.size wr := ⟨hbw.size⟩
    haveI : LeSize (w.heap.size + 1) wr := ⟨hB⟩
    by_cases hlt : n < de.length
    · obtain ⟨db, doff, rfl, hdb, hdc⟩ := det_cells HR.out hlt
      haveI : LeSize (db + 1) wr := ⟨by omega⟩
      have hd : ∀ j, j < 7 → wr.cell? ⟨db, doff + n * 7 + j, none⟩ = some (((detC (de.getD n ⟨0, 0, 0, 0, 0, 0, 0⟩))[j]?).getD undef) := fun j hj => by
        rw [hbw.cell (p := ⟨db, doff + n * 7 + j, none⟩) hdb]; exact hdc j hj
      have hmem : de.getD n ⟨0, 0, 0, 0, 0, 0, 0⟩ ∈ de := by simp [List.getD, hlt]
      have HTD := Lib.hid (HTK.out _ hmem).1
      have HTE := Lib.hid (HTK.out _ hmem).2
      have hsl := stepN_len de cs zs n
      have HSN := Lib.hid (stepN_succ de cs zs n)
      have HAC := Lib.hid (HAC0.out n (by omega))
      have HAF := Lib.hid (HAF0.out n (by omega))
      generalize de.getD n ⟨0, 0, 0, 0, 0, 0, 0⟩ = d at *
      generalize cs.getD n ch0 = c at *
      generalize zs.getD n nanF = x at *
      have c0 := hd 0 (by omega)
      have c1 := hd 1 (by omega)
      have c2 := hd 2 (by omega)
      have c3 := hd 3 (by omega)
      have c4 := hd 4 (by omega)
      have c5 := hd 5 (by omega)
      have c6 := hd 6 (by omega)
      simp only [detC, Nat.add_zero, List.getElem?_cons_zero, List.getElem?_cons_succ, Option.getD_some] at c0 c1 c2 c3 c4 c5 c6
      clear hd hdc hmem
      go_upto_region 6 with (go_at_call 25; refine (Up.run (HAC.out _ (by (repeat' (first | (with_reducible exact Below.refl _ _) | (with_reducible assumption) | (with_reducible refine Below.setCell ?_ ?_ _) | (with_reducible refine Below.alloc ?_ ?_ _) | (with_reducible refine Below.drew ?_) | (with_reducible refine Up.base _ ?_ ?_) | (with_reducible exact LeSize.out) | exact LeSize.out | exact Nat.le_add_right_of_le LeSize.out | exact Nat.le_add_right_of_le (Nat.le_add_right_of_le LeSize.out) | (with_reducible exact Nat.le_refl _) | (simp; done) | (simp; omega)))))).mono ?_; rintro e w' ⟨rfl, uc, rfl⟩; simp only [chC])
      have hcs1 := uc.bel.size
      simp only [World.size_alloc] at hcs1
      (refine wp_region_up_alloc 10 9 (by kernel_rfl) (by kernel_rfl) rfl rfl (fun A w => by simp only [go_sem]; rfl) ?_; intro X; simp only [List.take_succ_cons, List.take_zero, List.drop_succ_cons, List.drop_zero, List.eraseIdx_cons_succ, List.eraseIdx_cons_zero]; (repeat (first | go_big_quiet_step ((first | (go_at_call 10; exact Up.pure (nan_any _)) | (go_at_call 27; (with_reducible refine Up.pure (HAF.out _ ?_)); (repeat' (first | (with_reducible exact Below.refl _ _) | (with_reducible assumption) | (with_reducible refine Below.setCell ?_ ?_ _) | (with_reducible refine Below.alloc ?_ ?_ _) | (with_reducible refine Below.drew ?_) | (with_reducible refine Up.base _ ?_ ?_) | (with_reducible exact LeSize.out) | exact LeSize.out | exact Nat.le_add_right_of_le LeSize.out | exact Nat.le_add_right_of_le (Nat.le_add_right_of_le LeSize.out) | (with_reducible exact Nat.le_refl _) | (simp; done) | (simp; omega)))) | (go_at_call 26; exact Up.calls (lv_step_any _ _ _ _ _ _ _ _ _ _ _)) | fail)))); refine wpQuiet_nil ?_; clear X; rintro q u hq hO; (try simp at hq); have lO := laid_le hO; have hO0 := laid_cell hO 0 rfl; have hOf0 := laid_open hO 0; have hOj0 := HasCell.of hO0; have hO1 := laid_cell hO 1 rfl; have hOf1 := laid_open hO 1; have hOj1 := HasCell.of hO1; have hO2 := laid_cell hO 2 rfl; have hOf2 := laid_open hO 2; have hOj2 := HasCell.of hO2; have hO3 := laid_cell hO 3 rfl; have hOf3 := laid_open hO 3; have hOj3 := HasCell.of hO3; have hO4 := laid_cell hO 4 rfl; have hOf4 := laid_open hO 4; have hOj4 := HasCell.of hO4; have hO5 := laid_cell hO 5 rfl; have hOf5 := laid_open hO 5; have hOj5 := HasCell.of hO5; have hO6 := laid_cell hO 6 rfl; have hOf6 := laid_open hO 6; have hOj6 := HasCell.of hO6; clear hO; go_simp)
      haveI : Apart wr.heap.size q := ⟨by omega⟩
      haveI : Apart uc.w.heap.size q := ⟨by omega⟩
      haveI : Apart w.heap.size q := ⟨by omega⟩
      go_upto_region 7 with fail
      have HLV : Hid (stepCh d c x = (let L := lv_levM d.on d.off c.on c.bad x; let s := lv_seenM L.1 L.2; ⟨L.1, L.2, wt_wOn c.won s, wt_wOff c.wof s, tm_tH s c.hd, tm_tTail (tkF d.dl) (tkF d.ex) c.hd c.tl c.out s, tm_tOut (tkF d.dl) c.hd c.tl c.out s⟩)) := Lib.hid rfl
      generalize lv_levM d.on d.off c.on c.bad x = L at *
      go_upto_region 8 with (first | (go_at_call 28; refine (Up.run (lv_seen_any _ _ _)).mono ?_; rintro e w' ⟨rfl, u, rfl⟩))
      generalize lv_seenM L.1 L.2 = s at *
      go_upto_region 9 with (first | (go_at_call 28; refine (Up.run (lv_seen_any _ _ _)).mono ?_; rintro e w' ⟨rfl, u, rfl⟩) | (go_at_call 29; refine (Up.run (wt_step_any _ _ _ _)).mono ?_; rintro e w' ⟨rfl, u, rfl⟩))
      (refine wp_region_up_tail 11 (by kernel_rfl) (by kernel_rfl) ?_; simp only [List.take_succ_cons, List.take_zero, List.drop_succ_cons, List.drop_zero]; (repeat (first | go_big_quiet_step ((first | (go_at_call 31; (with_reducible refine Up.pure (ticks_any d.dl ?_ _)); exact HTD.out) | (go_at_call 31; (with_reducible refine Up.pure (ticks_any d.ex ?_ _)); exact HTE.out) | (go_at_call 30; exact Up.calls (tm_step_any _ _ _ _ _ _ _)) | fail)))); refine wpQuiet_nil ?_; rintro _ ⟨u, rfl⟩)
      have hlen : (stepN de cs zs n).length ≤ 1000000 := by omega
      have hbX : Below wr.heap.size wr (((u.w.setCell ⟨q, 4, none⟩ (.int .i64 (tm_tH s c.hd))).setCell ⟨q, 5, none⟩ (.int .i64 (tm_tTail (tkF d.dl) (tkF d.ex) c.hd c.tl c.out s))).setCell ⟨q, 6, none⟩ (.bool (tm_tOut (tkF d.dl) c.hd c.tl c.out s))) := by (repeat' (first | (with_reducible exact Below.refl _ _) | (with_reducible assumption) | (with_reducible refine Below.setCell ?_ ?_ _) | (with_reducible refine Below.alloc ?_ ?_ _) | (with_reducible refine Below.drew ?_) | (with_reducible refine Up.base _ ?_ ?_) | (with_reducible exact LeSize.out) | exact LeSize.out | exact Nat.le_add_right_of_le LeSize.out | exact Nat.le_add_right_of_le (Nat.le_add_right_of_le LeSize.out) | (with_reducible exact Nat.le_refl _) | (simp; done) | (simp; omega)))
      have k0 : (((u.w.setCell ⟨q, 4, none⟩ (.int .i64 (tm_tH s c.hd))).setCell ⟨q, 5, none⟩ (.int .i64 (tm_tTail (tkF d.dl) (tkF d.ex) c.hd c.tl c.out s))).setCell ⟨q, 6, none⟩ (.bool (tm_tOut (tkF d.dl) c.hd c.tl c.out s))).cell? ⟨q, 0, none⟩ = some (.bool L.1) := by simp [go_sem]
      have k1 : (((u.w.setCell ⟨q, 4, none⟩ (.int .i64 (tm_tH s c.hd))).setCell ⟨q, 5, none⟩ (.int .i64 (tm_tTail (tkF d.dl) (tkF d.ex) c.hd c.tl c.out s))).setCell ⟨q, 6, none⟩ (.bool (tm_tOut (tkF d.dl) c.hd c.tl c.out s))).cell? ⟨q, 1, none⟩ = some (.int .i64 L.2) := by simp [go_sem]
      have k2 : (((u.w.setCell ⟨q, 4, none⟩ (.int .i64 (tm_tH s c.hd))).setCell ⟨q, 5, none⟩ (.int .i64 (tm_tTail (tkF d.dl) (tkF d.ex) c.hd c.tl c.out s))).setCell ⟨q, 6, none⟩ (.bool (tm_tOut (tkF d.dl) c.hd c.tl c.out s))).cell? ⟨q, 2, none⟩ = some (.int .i64 (wt_wOn c.won s)) := by simp [go_sem]
      have k3 : (((u.w.setCell ⟨q, 4, none⟩ (.int .i64 (tm_tH s c.hd))).setCell ⟨q, 5, none⟩ (.int .i64 (tm_tTail (tkF d.dl) (tkF d.ex) c.hd c.tl c.out s))).setCell ⟨q, 6, none⟩ (.bool (tm_tOut (tkF d.dl) c.hd c.tl c.out s))).cell? ⟨q, 3, none⟩ = some (.int .i64 (wt_wOff c.wof s)) := by simp [go_sem]
      have k4 : (((u.w.setCell ⟨q, 4, none⟩ (.int .i64 (tm_tH s c.hd))).setCell ⟨q, 5, none⟩ (.int .i64 (tm_tTail (tkF d.dl) (tkF d.ex) c.hd c.tl c.out s))).setCell ⟨q, 6, none⟩ (.bool (tm_tOut (tkF d.dl) c.hd c.tl c.out s))).cell? ⟨q, 4, none⟩ = some (.int .i64 (tm_tH s c.hd)) := by simp [go_sem]
      have k5 : (((u.w.setCell ⟨q, 4, none⟩ (.int .i64 (tm_tH s c.hd))).setCell ⟨q, 5, none⟩ (.int .i64 (tm_tTail (tkF d.dl) (tkF d.ex) c.hd c.tl c.out s))).setCell ⟨q, 6, none⟩ (.bool (tm_tOut (tkF d.dl) c.hd c.tl c.out s))).cell? ⟨q, 5, none⟩ = some (.int .i64 (tm_tTail (tkF d.dl) (tkF d.ex) c.hd c.tl c.out s)) := by simp [go_sem]
      have k6 : (((u.w.setCell ⟨q, 4, none⟩ (.int .i64 (tm_tH s c.hd))).setCell ⟨q, 5, none⟩ (.int .i64 (tm_tTail (tkF d.dl) (tkF d.ex) c.hd c.tl c.out s))).setCell ⟨q, 6, none⟩ (.bool (tm_tOut (tkF d.dl) c.hd c.tl c.out s))).cell? ⟨q, 6, none⟩ = some (.bool (tm_tOut (tkF d.dl) c.hd c.tl c.out s)) := by simp [go_sem]
      have hq5 : q < (((u.w.setCell ⟨q, 4, none⟩ (.int .i64 (tm_tH s c.hd))).setCell ⟨q, 5, none⟩ (.int .i64 (tm_tTail (tkF d.dl) (tkF d.ex) c.hd c.tl c.out s))).setCell ⟨q, 6, none⟩ (.bool (tm_tOut (tkF d.dl) c.hd c.tl c.out s))).heap.size := World.block_lt_of_cell? _ _ k0
      go_upto_region 10 with fail
      generalize (((u.w.setCell ⟨q, 4, none⟩ (.int .i64 (tm_tH s c.hd))).setCell ⟨q, 5, none⟩ (.int .i64 (tm_tTail (tkF d.dl) (tkF d.ex) c.hd c.tl c.out s))).setCell ⟨q, 6, none⟩ (.bool (tm_tOut (tkF d.dl) c.hd c.tl c.out s))) = W5 at *
      obtain ⟨y, hy⟩ : ∃ y : Ch, y = ⟨L.1, L.2, wt_wOn c.won s, wt_wOff c.wof s, tm_tH s c.hd, tm_tTail (tkF d.dl) (tkF d.ex) c.hd c.tl c.out s, tm_tOut (tkF d.dl) c.hd c.tl c.out s⟩ := ⟨_, rfl⟩
      have hlen : (stepN de cs zs n).length ≤ 1000000 := by omega
      have hown5 := hown.below hbX
      have hbo5 : Below (w.heap.size + 1) (w.alloc (.cells T 34)) W5 := hbo.trans (hbX.mono hB)
      have hB5 := hbX.size
      go_wp2_with (at_builtin; refine wpList_app_own chC_len 56 _ 38 Try.underlying38 info_ch rfl (by omega) (by omega) rfl _ _ rfl (w.heap.size + 1) rfl (hown5.alloc _) (b := W5.heap.size) (⟨L.1, L.2, wt_wOn c.won s, wt_wOff c.wof s, tm_tH s c.hd, tm_tTail (tkF d.dl) (tkF d.ex) c.hd c.tl c.out s, tm_tOut (tkF d.dl) c.hd c.tl c.out s⟩ : Ch) (chC_one _) rfl (cells_new _ _) hlen (by simp; omega) ?_; intro v' w1 hown' hg)
      have hb6 := hown5.grown hbo5 (by omega) (Nat.le_refl _) hg
      clear hg
      go_roundw
      case rel => exact ⟨n + 1, by omega, by go_num, by rw [HSN.out, HLV.out]; exact hown', hb6⟩
      case measure => simp [intOf]; omega
    · obtain rfl : n = de.length := by omega
      go_wp2
      go_ret
      exact ⟨_, rfl, OwnK.less hown (by omega), hbw⟩
theorem dstep_any (T : Array Value) (t : Tab) (a : Option Addr) (cap : Nat) (cs : List Ch) (sa : Option Addr) (scap : Nat) (zs : List Nat) (w : World) (hT : IsTab w T t) (hcs : Chs w a cs) (hzs : Floats w sa zs) (htk : ∀ d ∈ t.de, IsTk d.dl ∧ IsTk d.ex) :
    Calls Try.prog 9 #[.agg T, .slice a cs.length cap, .slice sa zs.length scap] w fun e w' => ∃ v, e = .returned v ∧ OwnK 48 7 chC w' w.heap.size v (stepN t.de cs zs t.de.length) ∧ Below w.heap.size w w' :=
  dstep_de T t.de a cap cs sa scap zs w hT.isDe hcs hzs htk
end
section
open Go.RowKit
set_option linter.unusedVariables false
attribute [local go_sem] IsBlk.cell IsBlk.frozen

def det0 : Det := ⟨0, 0, 0, 0, 0, 0, 0⟩
def callB (d : Det) (c : Ch) : Bool := c.out || decide (3 ≤ c.bad) || wt_stuckM d.mon d.mof c.won c.wof
/-- For whom the first n channels call. -/
def hereN (de : List Det) (cs : List Ch) : Nat → Int
  | 0 => 0
  | n + 1 => if callB (de.getD n ⟨0, 0, 0, 0, 0, 0, 0⟩) (cs.getD n ch0) then withM (hereN de cs n) (de.getD n ⟨0, 0, 0, 0, 0, 0, 0⟩).ph else hereN de cs n
set_option maxHeartbeats 8000000 in
set_option maxRecDepth 100000 in
theorem here_de (T : Array Value) (de : List Det) (a : Option Addr) (cap : Nat) (cs : List Ch) (w : World) (hT : IsDe w T de) (hcs : Chs w a cs) (hcl : cs.length ≤ 1000) :
    Calls Try.prog 13 #[.agg T, .slice a cs.length cap] w fun e w' => e = .returned (.int .i64 (hereN de cs (min cs.length de.length))) ∧ Below w.heap.size w w' := by
  obtain ⟨da, dcap, t113, hrow, ld⟩ := hT
  have HR := Lib.hid hrow
  have HC := Lib.hid hcs
  clear hrow hcs
  go_enter Try.func13, Try.ntmps13
  go_wp2
  go_loopw [5, 11] (fun s i wr => ∃ n : Nat, n ≤ cs.length ∧ n ≤ de.length ∧ i = .int .i64 n ∧ s = .int .i64 (hereN de cs n) ∧ Below w.heap.size w wr ∧ IsBlk wr w.heap.size T 34) (fun _ i _ => cs.length - (intOf i).toNat)
  case atStart => exact ⟨0, Nat.zero_le _, Nat.zero_le _, rfl, rfl, by (repeat' (first | (with_reducible exact Below.refl _ _) | (with_reducible assumption) | (with_reducible refine Below.setCell ?_ ?_ _) | (with_reducible refine Below.alloc ?_ ?_ _) | (with_reducible refine Below.drew ?_) | (with_reducible refine Up.base _ ?_ ?_) | (with_reducible exact LeSize.out) | exact LeSize.out | exact Nat.le_add_right_of_le LeSize.out | exact Nat.le_add_right_of_le (Nat.le_add_right_of_le LeSize.out) | (with_reducible exact Nat.le_refl _) | (simp; done) | (simp; omega))), inferInstance⟩
  case round =>
    obtain ⟨n, hn, hnd, rfl, rfl, hbw, iB⟩ := hrel
    haveI : LeSize w.heap.size wr := ⟨hbw.size⟩
    have lB := iB.le
    by_cases hlc : n < cs.length
    · obtain ⟨cb, coff, rfl, hcb, hcc⟩ := HC.out.cells hlc
      haveI : LeSize (cb + 1) wr := ⟨Nat.le_trans hcb hbw.size⟩
      have hc : ∀ j, j < 7 → wr.cell? ⟨cb, coff + n * 7 + j, none⟩ = some (((chC (cs.getD n ch0))[j]?).getD undef) := fun j hj => by
        rw [hbw.cell (p := ⟨cb, coff + n * 7 + j, none⟩) hcb]; exact hcc j hj
      have e0 := hc 0 (by omega)
      have e1 := hc 1 (by omega)
      have e2 := hc 2 (by omega)
      have e3 := hc 3 (by omega)
      have e4 := hc 4 (by omega)
      have e5 := hc 5 (by omega)
      have e6 := hc 6 (by omega)
      by_cases hld : n < de.length
      · obtain ⟨db, doff, rfl, hdb, hdc⟩ := det_cells HR.out hld
        haveI : LeSize (db + 1) wr := ⟨Nat.le_trans hdb hbw.size⟩
        have hd : ∀ j, j < 7 → wr.cell? ⟨db, doff + n * 7 + j, none⟩ = some (((detC (de.getD n ⟨0, 0, 0, 0, 0, 0, 0⟩))[j]?).getD undef) := fun j hj => by
          rw [hbw.cell (p := ⟨db, doff + n * 7 + j, none⟩) hdb]; exact hdc j hj
        have c0 := hd 0 (by omega)
        have c1 := hd 1 (by omega)
        have c2 := hd 2 (by omega)
        have c3 := hd 3 (by omega)
        have c4 := hd 4 (by omega)
        have c5 := hd 5 (by omega)
        have c6 := hd 6 (by omega)
        have HS : Hid (hereN de cs (n + 1) = if callB (de.getD n ⟨0, 0, 0, 0, 0, 0, 0⟩) (cs.getD n ch0) then withM (hereN de cs n) (de.getD n ⟨0, 0, 0, 0, 0, 0, 0⟩).ph else hereN de cs n) := Lib.hid rfl
        generalize de.getD n ⟨0, 0, 0, 0, 0, 0, 0⟩ = d at *
        generalize cs.getD n ch0 = c at *
        simp only [detC, chC, Nat.add_zero, List.getElem?_cons_zero, List.getElem?_cons_succ, Option.getD_some] at c0 c1 c2 c3 c4 c5 c6 e0 e1 e2 e3 e4 e5 e6
        generalize hereN de cs n = s0 at *
        clear hd hdc hc hcc
        cases ho : c.out <;> cases hf : decide (3 ≤ c.bad) <;> cases hk : wt_stuckM d.mon d.mof c.won c.wof
        all_goals
          have HX : Hid (hereN de cs (n + 1) = _) := Lib.hid (HS.out.trans (by unfold callB; rw [ho, hf, hk]))
          have HO := Lib.hid ho
          go_wp2_with (first | (go_at_call 35; refine (Up.run (lv_failed_any _ _ _)).mono ?_; rintro e w' ⟨rfl, u, rfl⟩) | (go_at_call 36; refine (Up.run (wt_stuck_any _ _ _ _ _)).mono ?_; rintro e w' ⟨rfl, u, rfl⟩) | (go_at_call 37; refine (swith_any _ _ _).mono ?_; rintro e w' ⟨rfl, rfl⟩))
          go_roundw
          case rel => exact ⟨n + 1, by omega, by omega, by go_num, by rw [HX.out]; rfl, by (repeat' (first | (with_reducible exact Below.refl _ _) | (with_reducible assumption) | (with_reducible refine Below.setCell ?_ ?_ _) | (with_reducible refine Below.alloc ?_ ?_ _) | (with_reducible refine Below.drew ?_) | (with_reducible refine Up.base _ ?_ ?_) | (with_reducible exact LeSize.out) | exact LeSize.out | exact Nat.le_add_right_of_le LeSize.out | exact Nat.le_add_right_of_le (Nat.le_add_right_of_le LeSize.out) | (with_reducible exact Nat.le_refl _) | (simp; done) | (simp; omega))), inferInstance⟩
          case measure => simp [intOf]; omega
      · have hnn : n = de.length := by omega
        have HM : Hid (min cs.length de.length = n) := Lib.hid (by omega)
        have hge : (de.length : Int) ≤ n := by omega
        generalize cs.getD n ch0 = c at *
        simp only [chC, Nat.add_zero, List.getElem?_cons_zero, List.getElem?_cons_succ, Option.getD_some] at e0 e1 e2 e3 e4 e5 e6
        clear hc hcc hnn
        go_wp2
        go_ret
        exact ⟨ret_int (by rw [HM.out]), by (repeat' (first | (with_reducible exact Below.refl _ _) | (with_reducible assumption) | (with_reducible refine Below.setCell ?_ ?_ _) | (with_reducible refine Below.alloc ?_ ?_ _) | (with_reducible refine Below.drew ?_) | (with_reducible refine Up.base _ ?_ ?_) | (with_reducible exact LeSize.out) | exact LeSize.out | exact Nat.le_add_right_of_le LeSize.out | exact Nat.le_add_right_of_le (Nat.le_add_right_of_le LeSize.out) | (with_reducible exact Nat.le_refl _) | (simp; done) | (simp; omega)))⟩
    · have HM : Hid (min cs.length de.length = n) := Lib.hid (by omega)
      obtain rfl : n = cs.length := by omega
      go_wp2
      go_ret
      exact ⟨ret_int (by rw [HM.out]), by (repeat' (first | (with_reducible exact Below.refl _ _) | (with_reducible assumption) | (with_reducible refine Below.setCell ?_ ?_ _) | (with_reducible refine Below.alloc ?_ ?_ _) | (with_reducible refine Below.drew ?_) | (with_reducible refine Up.base _ ?_ ?_) | (with_reducible exact LeSize.out) | exact LeSize.out | exact Nat.le_add_right_of_le LeSize.out | exact Nat.le_add_right_of_le (Nat.le_add_right_of_le LeSize.out) | (with_reducible exact Nat.le_refl _) | (simp; done) | (simp; omega)))⟩
theorem here_any (T : Array Value) (t : Tab) (a : Option Addr) (cap : Nat) (cs : List Ch) (w : World) (hT : IsTab w T t) (hcs : Chs w a cs) (hcl : cs.length ≤ 1000) :
    Calls Try.prog 13 #[.agg T, .slice a cs.length cap] w fun e w' => e = .returned (.int .i64 (hereN t.de cs (min cs.length t.de.length))) ∧ Below w.heap.size w w' := here_de T t.de a cap cs w hT.isDe hcs hcl
end
end Go.Proofs.Yteohpfelgaffoaa
