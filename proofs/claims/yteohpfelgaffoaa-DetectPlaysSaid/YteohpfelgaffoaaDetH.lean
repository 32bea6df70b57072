/- The contracts of the answers to package detect: Ticks, Detect, Here; SameChannels. The contracts of the answers' Here and of SameChannels. -/
import Derived.Test.YteohpfelgaffoaaDetD
import Derived.Test.YteohpfelgaffoaaBld
namespace Go.Proofs.Yteohpfelgaffoaa
section
open Go.RowKit
set_option linter.unusedVariables false
attribute [local go_sem] IsBlk.cell IsBlk.frozen

set_option maxHeartbeats 2000000 in
theorem rtick_lit (f g : Nat) (n : Int) (h1 : fge f 0 = true) (h2 : fle f 4652006429231887155 = true) (hm : ∀ w, Sem.run Try.prog (binOp .mul 24 (.float .f64 f) (.float .f64 4621819117588971520)) w = .ok (.float .f64 g) w)
    (hc : ∀ w, Sem.run Try.prog (convert 24 3 (.float .f64 g)) w = .ok (.int .i64 n) w) (hd : ∀ w, Sem.run Try.prog (convert 3 24 (.int .i64 n)) w = .ok (.float .f64 g) w)
    (hs : ∀ w, Sem.run Try.prog (binOp .sub 24 (.float .f64 g) (.float .f64 g)) w = .ok (.float .f64 0) w) (h3 : fgt 0 4602678819172646912 = false) (h4 : feq 0 4602678819172646912 = false) (w : World) :
    Calls Try.prog 39 #[.float .f64 f] w fun e w' => e = .returned (.tuple #[.int .i64 n, .bool true]) ∧ w = w' := by
  go_enter Try.func39, Try.ntmps39
  go_wp2
  go_returns
  exact ⟨rfl, rfl⟩
theorem rtick_any (f : Nat) (hf : IsTk f) (w : World) : Calls Try.prog 39 #[.float .f64 f] w fun e w' => e = .returned (.tuple #[.int .i64 (tkF f), .bool true]) ∧ w = w' := by
  rcases hf with rfl | rfl | rfl | rfl | rfl | rfl
  · exact rtick_lit 0 0 0 (by decide +kernel) (by decide +kernel) (fun w => by kernel_rfl) (fun w => by kernel_rfl) (fun w => by kernel_rfl) (fun w => by kernel_rfl) (by decide +kernel) (by decide +kernel) w
  · exact rtick_lit 4591870180066957722 4607182418800017408 1 (by decide +kernel) (by decide +kernel) (fun w => by kernel_rfl) (fun w => by kernel_rfl) (fun w => by kernel_rfl) (fun w => by kernel_rfl) (by decide +kernel) (by decide +kernel) w
  · exact rtick_lit 4596373779694328218 4611686018427387904 2 (by decide +kernel) (by decide +kernel) (fun w => by kernel_rfl) (fun w => by kernel_rfl) (fun w => by kernel_rfl) (fun w => by kernel_rfl) (by decide +kernel) (by decide +kernel) w
  · exact rtick_lit 4599075939470750515 4613937818241073152 3 (by decide +kernel) (by decide +kernel) (fun w => by kernel_rfl) (fun w => by kernel_rfl) (fun w => by kernel_rfl) (fun w => by kernel_rfl) (by decide +kernel) (by decide +kernel) w
  · exact rtick_lit 4600877379321698714 4616189618054758400 4 (by decide +kernel) (by decide +kernel) (fun w => by kernel_rfl) (fun w => by kernel_rfl) (fun w => by kernel_rfl) (fun w => by kernel_rfl) (by decide +kernel) (by decide +kernel) w
  · exact rtick_lit 4602678819172646912 4617315517961601024 5 (by decide +kernel) (by decide +kernel) (fun w => by kernel_rfl) (fun w => by kernel_rfl) (fun w => by kernel_rfl) (fun w => by kernel_rfl) (by decide +kernel) (by decide +kernel) w
theorem chs_nan {zs : List Nat} {n : Nat} (h : ¬ n < zs.length) : zs.getD n nanF = nanF := by simp [List.getD, List.getElem?_eq_none (show zs.length ≤ n by omega)]
theorem chs_zero {cs : List Ch} {n : Nat} (h : ¬ n < cs.length) : cs.getD n ch0 = ch0 := by simp [List.getD, List.getElem?_eq_none (show cs.length ≤ n by omega)]
set_option maxHeartbeats 8000000 in
set_option maxRecDepth 100000 in
theorem rdet_de (T : Array Value) (de : List Det) (a : Option Addr) (cap : Nat) (cs : List Ch) (sa : Option Addr) (scap : Nat) (zs : List Nat) (w : World) (hT : IsDe w T de) (hcs : Chs w a cs) (hzs : Floats w sa zs) (htk : ∀ d ∈ de, IsTk d.dl ∧ IsTk d.ex) (hcl : cs.length ≤ 1000) (hzl : zs.length ≤ 1000) :
    Calls Try.prog 15 #[.agg T, .slice a cs.length cap, .slice sa zs.length scap] w fun e w' => ∃ v, e = .returned v ∧ OwnK 48 7 chC w' w.heap.size v (stepN de cs zs de.length) ∧ Below w.heap.size w w' := by
  obtain ⟨da, dcap, t113, hrow, ld⟩ := hT
  have HR := Lib.hid hrow
  have HTK := Lib.hid htk
  have HC := Lib.hid hcs
  have HZ := Lib.hid hzs
  have HCL := Lib.hid hcl
  have HZL := Lib.hid hzl
  clear hrow htk hcs hzs
  go_enter Try.func15, Try.ntmps15
  go_wp2
  go_loopw [7, 8] (fun l i wr => ∃ n : Nat, n ≤ de.length ∧ i = .int .i64 n ∧ OwnK 48 7 chC wr (w.heap.size + 1) l (stepN de cs zs n) ∧ Below (w.heap.size + 1) (w.alloc (.cells T 34)) wr) (fun _ i _ => de.length - (intOf i).toNat)
  case atStart => exact ⟨0, Nat.zero_le _, rfl, OwnK.nil _ _, Below.refl _ _⟩
  case round =>
    obtain ⟨n, hn, rfl, hown, hbo⟩ := hrel
    have hB := hbo.size
    rw [World.size_alloc] at hB
    have hbw : Below w.heap.size w wr := ((Below.refl w.heap.size w).alloc (Nat.le_refl _) (.cells T 34)).trans (hbo.mono (by omega))
    haveI : LeSize w.heap.size wr := ⟨hbw.size⟩
    haveI : LeSize (w.heap.size + 1) wr := ⟨hB⟩
    haveI iT : IsBlk wr w.heap.size T 34 := ⟨by rw [hbo.block _ (by omega)]; exact heap_alloc_here _ _⟩
    by_cases hlt : n < de.length
    · obtain ⟨db, doff, rfl, hdb, hdc⟩ := det_cells HR.out hlt
      haveI : LeSize (db + 1) wr := ⟨by omega⟩
      have hd : ∀ j, j < 7 → wr.cell? ⟨db, doff + n * 7 + j, none⟩ = some (((detC (de.getD n ⟨0, 0, 0, 0, 0, 0, 0⟩))[j]?).getD undef) := fun j hj => by
        rw [hbw.cell (p := ⟨db, doff + n * 7 + j, none⟩) hdb]; exact hdc j hj
      have hmem : de.getD n ⟨0, 0, 0, 0, 0, 0, 0⟩ ∈ de := by simp [List.getD, hlt]
      have HTD := Lib.hid (HTK.out _ hmem).1
      have HTE := Lib.hid (HTK.out _ hmem).2
      have hsl := stepN_len de cs zs n
      have HSN := Lib.hid (stepN_succ de cs zs n)
      generalize de.getD n ⟨0, 0, 0, 0, 0, 0, 0⟩ = d at *
      have c0 := hd 0 (by omega)
      have c1 := hd 1 (by omega)
      have c2 := hd 2 (by omega)
      have c3 := hd 3 (by omega)
      have c4 := hd 4 (by omega)
      have c5 := hd 5 (by omega)
      have c6 := hd 6 (by omega)
      simp only [detC, Nat.add_zero, List.getElem?_cons_zero, List.getElem?_cons_succ, Option.getD_some] at c0 c1 c2 c3 c4 c5 c6
      clear hd hdc hmem
      have hzc : (n < zs.length ∧ ∃ zb zoff, sa = some ⟨zb, zoff, none⟩ ∧ zb < w.heap.size ∧ w.cell? ⟨zb, zoff + n, none⟩ = some (.float .f64 (zs.getD n nanF))) ∨ (¬ n < zs.length ∧ zs.getD n nanF = nanF) := by
        by_cases h : n < zs.length
        · obtain ⟨zb, zoff, e, hzb, hzc⟩ := Row1.cell HZ.out (by omega)
          have e2 : zs.getD n nanF = zs.getD n 0 := by simp [List.getD, h]
          exact .inl ⟨h, zb, zoff, e, hzb, by rw [e2]; exact hzc n h⟩
        · exact .inr ⟨h, chs_nan h⟩
      generalize zs.getD n nanF = x at *
      have hcc : (n < cs.length ∧ ∃ cb coff, a = some ⟨cb, coff, none⟩ ∧ cb < w.heap.size ∧ ∀ j, j < 7 → w.cell? ⟨cb, coff + n * 7 + j, none⟩ = some (((chC (cs.getD n ch0))[j]?).getD undef)) ∨ (¬ n < cs.length ∧ cs.getD n ch0 = ch0) := by
        by_cases h : n < cs.length
        · exact .inl ⟨h, HC.out.cells h⟩
        · exact .inr ⟨h, chs_zero h⟩
      generalize cs.getD n ch0 = c at *
      rcases hcc with ⟨hlc, cb, coff, rfl, hcb, hcc⟩ | ⟨hlc, rfl⟩
      · haveI : LeSize (cb + 1) wr := ⟨by omega⟩
        have hc : ∀ j, j < 7 → wr.cell? ⟨cb, coff + n * 7 + j, none⟩ = some (((chC c)[j]?).getD undef) := fun j hj => by
          rw [hbw.cell (p := ⟨cb, coff + n * 7 + j, none⟩) hcb]; exact hcc j hj
        have e0 := hc 0 (by omega)
        have e1 := hc 1 (by omega)
        have e2 := hc 2 (by omega)
        have e3 := hc 3 (by omega)
        have e4 := hc 4 (by omega)
        have e5 := hc 5 (by omega)
        have e6 := hc 6 (by omega)
        simp only [chC, Nat.add_zero, List.getElem?_cons_zero, List.getElem?_cons_succ, Option.getD_some] at e0 e1 e2 e3 e4 e5 e6
        have hlcI : (n : Int) < cs.length := by omega
        clear hc hcc
        rcases hzc with ⟨hlz, zb, zoff, rfl, hzb, hzc⟩ | ⟨hlz, rfl⟩
        · haveI : LeSize (zb + 1) wr := ⟨by omega⟩
          have hz : wr.cell? ⟨zb, zoff + n, none⟩ = some (.float .f64 x) := by rw [hbw.cell (p := ⟨zb, zoff + n, none⟩) hzb]; exact hzc
          have hlzI : (n : Int) < zs.length := by omega
          clear hzc
          go_upto_region 11 with (go_at_call 10; refine (nan_any _).mono ?_; rintro e w' ⟨rfl, rfl⟩)
          have iC : IsBlk (wr.alloc (.cells #[.bool c.on, .int .i64 c.bad, .int .i64 c.won, .int .i64 c.wof, .int .i64 c.hd, .int .i64 c.tl, .bool c.out] 48)) wr.heap.size #[.bool c.on, .int .i64 c.bad, .int .i64 c.won, .int .i64 c.wof, .int .i64 c.hd, .int .i64 c.tl, .bool c.out] 48 := inferInstance
          have hbC : Below wr.heap.size wr (wr.alloc (.cells #[.bool c.on, .int .i64 c.bad, .int .i64 c.won, .int .i64 c.wof, .int .i64 c.hd, .int .i64 c.tl, .bool c.out] 48)) := by (repeat' (first | (with_reducible exact Below.refl _ _) | (with_reducible assumption) | (with_reducible refine Below.setCell ?_ ?_ _) | (with_reducible refine Below.alloc ?_ ?_ _) | (with_reducible refine Below.drew ?_) | (with_reducible refine Up.base _ ?_ ?_) | (with_reducible exact LeSize.out) | exact LeSize.out | exact Nat.le_add_right_of_le LeSize.out | exact Nat.le_add_right_of_le (Nat.le_add_right_of_le LeSize.out) | (with_reducible exact Nat.le_refl _) | (simp; done) | (simp; omega)))
          generalize (wr.alloc (.cells #[.bool c.on, .int .i64 c.bad, .int .i64 c.won, .int .i64 c.wof, .int .i64 c.hd, .int .i64 c.tl, .bool c.out] 48)) = W at *
          haveI : LeSize wr.heap.size W := ⟨hbC.size⟩
          have hCs := hbC.size
          have lC := iC.le
          haveI : LeSize (db + 1) W := ⟨Nat.le_trans (show db + 1 ≤ wr.heap.size by have := hbw.size; omega) hbC.size⟩
          have HTK1 : Hid (∀ w', Calls Try.prog 39 #[.float .f64 d.dl] w' fun e w'' => e = .returned (.tuple #[.int .i64 (tkF d.dl), .bool true]) ∧ w' = w'') := Lib.hid (rtick_any _ HTD.out)
          have HTK2 : Hid (∀ w', Calls Try.prog 39 #[.float .f64 d.ex] w' fun e w'' => e = .returned (.tuple #[.int .i64 (tkF d.ex), .bool true]) ∧ w' = w'') := Lib.hid (rtick_any _ HTE.out)
          have k0 : W.cell? ⟨db, doff + n * 7 + 0, none⟩ = some (.int .i64 d.ph) := by rw [hbC.cell (p := ⟨db, doff + n * 7 + 0, none⟩) (show db < wr.heap.size by have := hbw.size; omega)]; exact c0
          have k1 : W.cell? ⟨db, doff + n * 7 + 1, none⟩ = some (.float .f64 d.on) := by rw [hbC.cell (p := ⟨db, doff + n * 7 + 1, none⟩) (show db < wr.heap.size by have := hbw.size; omega)]; exact c1
          have k2 : W.cell? ⟨db, doff + n * 7 + 2, none⟩ = some (.float .f64 d.off) := by rw [hbC.cell (p := ⟨db, doff + n * 7 + 2, none⟩) (show db < wr.heap.size by have := hbw.size; omega)]; exact c2
          have k3 : W.cell? ⟨db, doff + n * 7 + 3, none⟩ = some (.float .f64 d.dl) := by rw [hbC.cell (p := ⟨db, doff + n * 7 + 3, none⟩) (show db < wr.heap.size by have := hbw.size; omega)]; exact c3
          have k4 : W.cell? ⟨db, doff + n * 7 + 4, none⟩ = some (.float .f64 d.ex) := by rw [hbC.cell (p := ⟨db, doff + n * 7 + 4, none⟩) (show db < wr.heap.size by have := hbw.size; omega)]; exact c4
          have k5 : W.cell? ⟨db, doff + n * 7 + 5, none⟩ = some (.int .i64 d.mon) := by rw [hbC.cell (p := ⟨db, doff + n * 7 + 5, none⟩) (show db < wr.heap.size by have := hbw.size; omega)]; exact c5
          have k6 : W.cell? ⟨db, doff + n * 7 + 6, none⟩ = some (.int .i64 d.mof) := by rw [hbC.cell (p := ⟨db, doff + n * 7 + 6, none⟩) (show db < wr.heap.size by have := hbw.size; omega)]; exact c6
          have iTW : IsBlk W w.heap.size T 34 := ⟨by rw [hbC.block _ (by omega)]; exact iT.out⟩
          have hbX0 : Below w.heap.size w W := hbw.trans (hbC.mono (by omega))
          haveI : LeSize w.heap.size W := ⟨hbX0.size⟩
          simp only [Nat.add_zero] at k0
          have HLV : Hid (stepCh d c x = (let L := lv_levM d.on d.off c.on c.bad x; let s := lv_seenM L.1 L.2; ⟨L.1, L.2, wt_wOn c.won s, wt_wOff c.wof s, tm_tH s c.hd, tm_tTail (tkF d.dl) (tkF d.ex) c.hd c.tl c.out s, tm_tOut (tkF d.dl) c.hd c.tl c.out s⟩)) := Lib.hid rfl
          go_upto_region 14 with (go_at_call 39; first | (with_reducible refine (HTK1.out _).mono ?_; rintro e w' ⟨rfl, rfl⟩) | (with_reducible refine (HTK2.out _).mono ?_; rintro e w' ⟨rfl, rfl⟩))
          go_upto_region 15 with (first | (go_at_call 40; refine (Up.run (lv_rstep_any _ _ _ _ _ _ _ _ _ _ _)).mono ?_; rintro e w' ⟨rfl, u, rfl⟩))
          generalize lv_levM d.on d.off c.on c.bad x = L at *
          (refine wp_region_up_build 16 15 1 (.cells #[.bool L.1, .int .i64 L.2, .int .i64 (wt_wOn c.won (lv_seenM L.1 L.2)), .int .i64 (wt_wOff c.wof (lv_seenM L.1 L.2)), .int .i64 (tm_tH (lv_seenM L.1 L.2) c.hd), .int .i64 (tm_tTail (tkF d.dl) (tkF d.ex) c.hd c.tl c.out (lv_seenM L.1 L.2)), .bool (tm_tOut (tkF d.dl) c.hd c.tl c.out (lv_seenM L.1 L.2))] 48) (by kernel_rfl) (by kernel_rfl) rfl rfl ?_; intro X; simp only [List.take_succ_cons, List.take_zero, List.drop_succ_cons, List.drop_zero, List.eraseIdx_cons_succ, List.eraseIdx_cons_zero]; (repeat (first | go_big_quiet_step ((first | (go_at_call 42; exact Up.calls (lv_rseen_any _ _ _)) | (go_at_call 41; exact Up.calls (wt_rstep_any _ _ _ _)) | (go_at_call 43; exact Up.calls (tm_rstep_any _ _ _ _ _ _ _)) | fail)))); refine wpQuiet_nil ⟨fun u => (by simp [go_sem] <;> rfl), ?_⟩; clear X; rintro q u hq hO; (try simp at hq); have lO := laid_le hO; go_simp)
          have hbX : Below wr.heap.size wr u.w := by (repeat' (first | (with_reducible exact Below.refl _ _) | (with_reducible assumption) | (with_reducible refine Below.setCell ?_ ?_ _) | (with_reducible refine Below.alloc ?_ ?_ _) | (with_reducible refine Below.drew ?_) | (with_reducible refine Up.base _ ?_ ?_) | (with_reducible exact LeSize.out) | exact LeSize.out | exact Nat.le_add_right_of_le LeSize.out | exact Nat.le_add_right_of_le (Nat.le_add_right_of_le LeSize.out) | (with_reducible exact Nat.le_refl _) | (simp; done) | (simp; omega)))
          have hown5 := hown.below hbX
          have hbo5 := hbo.trans (hbX.mono hB)
          have hB5 := hbX.size
          have hlen : (stepN de cs zs n).length ≤ 1000000 := by omega
          go_wp2_with (at_builtin; refine wpList_app_own chC_len 56 _ 38 Try.underlying38 info_ch rfl (by omega) (by omega) rfl _ _ rfl (w.heap.size + 1) rfl hown5 (b := q) (⟨L.1, L.2, wt_wOn c.won (lv_seenM L.1 L.2), wt_wOff c.wof (lv_seenM L.1 L.2), tm_tH (lv_seenM L.1 L.2) c.hd, tm_tTail (tkF d.dl) (tkF d.ex) c.hd c.tl c.out (lv_seenM L.1 L.2), tm_tOut (tkF d.dl) c.hd c.tl c.out (lv_seenM L.1 L.2)⟩ : Ch) (chC_one _) rfl (cells_blk _ hO) hlen (by omega) ?_; intro v' w1 hown' hg)
          have hb6 := hown5.grown0 hbo5 (by omega) (Nat.le_refl _) hg
          clear hg
          go_roundw
          case rel => exact ⟨n + 1, by omega, by go_num, by rw [HSN.out, HLV.out]; exact hown', hb6⟩
          case measure => simp [intOf]; omega
        · have hlzI : ¬ (n : Int) < zs.length := by omega
          go_upto_region 11 with (go_at_call 10; refine (nan_any _).mono ?_; rintro e w' ⟨rfl, rfl⟩)
          have iC : IsBlk (wr.alloc (.cells #[.bool c.on, .int .i64 c.bad, .int .i64 c.won, .int .i64 c.wof, .int .i64 c.hd, .int .i64 c.tl, .bool c.out] 48)) wr.heap.size #[.bool c.on, .int .i64 c.bad, .int .i64 c.won, .int .i64 c.wof, .int .i64 c.hd, .int .i64 c.tl, .bool c.out] 48 := inferInstance
          have hbC : Below wr.heap.size wr (wr.alloc (.cells #[.bool c.on, .int .i64 c.bad, .int .i64 c.won, .int .i64 c.wof, .int .i64 c.hd, .int .i64 c.tl, .bool c.out] 48)) := by (repeat' (first | (with_reducible exact Below.refl _ _) | (with_reducible assumption) | (with_reducible refine Below.setCell ?_ ?_ _) | (with_reducible refine Below.alloc ?_ ?_ _) | (with_reducible refine Below.drew ?_) | (with_reducible refine Up.base _ ?_ ?_) | (with_reducible exact LeSize.out) | exact LeSize.out | exact Nat.le_add_right_of_le LeSize.out | exact Nat.le_add_right_of_le (Nat.le_add_right_of_le LeSize.out) | (with_reducible exact Nat.le_refl _) | (simp; done) | (simp; omega)))
          generalize (wr.alloc (.cells #[.bool c.on, .int .i64 c.bad, .int .i64 c.won, .int .i64 c.wof, .int .i64 c.hd, .int .i64 c.tl, .bool c.out] 48)) = W at *
          haveI : LeSize wr.heap.size W := ⟨hbC.size⟩
          have hCs := hbC.size
          have lC := iC.le
          haveI : LeSize (db + 1) W := ⟨Nat.le_trans (show db + 1 ≤ wr.heap.size by have := hbw.size; omega) hbC.size⟩
          have HTK1 : Hid (∀ w', Calls Try.prog 39 #[.float .f64 d.dl] w' fun e w'' => e = .returned (.tuple #[.int .i64 (tkF d.dl), .bool true]) ∧ w' = w'') := Lib.hid (rtick_any _ HTD.out)
          have HTK2 : Hid (∀ w', Calls Try.prog 39 #[.float .f64 d.ex] w' fun e w'' => e = .returned (.tuple #[.int .i64 (tkF d.ex), .bool true]) ∧ w' = w'') := Lib.hid (rtick_any _ HTE.out)
          have k0 : W.cell? ⟨db, doff + n * 7 + 0, none⟩ = some (.int .i64 d.ph) := by rw [hbC.cell (p := ⟨db, doff + n * 7 + 0, none⟩) (show db < wr.heap.size by have := hbw.size; omega)]; exact c0
          have k1 : W.cell? ⟨db, doff + n * 7 + 1, none⟩ = some (.float .f64 d.on) := by rw [hbC.cell (p := ⟨db, doff + n * 7 + 1, none⟩) (show db < wr.heap.size by have := hbw.size; omega)]; exact c1
          have k2 : W.cell? ⟨db, doff + n * 7 + 2, none⟩ = some (.float .f64 d.off) := by rw [hbC.cell (p := ⟨db, doff + n * 7 + 2, none⟩) (show db < wr.heap.size by have := hbw.size; omega)]; exact c2
          have k3 : W.cell? ⟨db, doff + n * 7 + 3, none⟩ = some (.float .f64 d.dl) := by rw [hbC.cell (p := ⟨db, doff + n * 7 + 3, none⟩) (show db < wr.heap.size by have := hbw.size; omega)]; exact c3
          have k4 : W.cell? ⟨db, doff + n * 7 + 4, none⟩ = some (.float .f64 d.ex) := by rw [hbC.cell (p := ⟨db, doff + n * 7 + 4, none⟩) (show db < wr.heap.size by have := hbw.size; omega)]; exact c4
          have k5 : W.cell? ⟨db, doff + n * 7 + 5, none⟩ = some (.int .i64 d.mon) := by rw [hbC.cell (p := ⟨db, doff + n * 7 + 5, none⟩) (show db < wr.heap.size by have := hbw.size; omega)]; exact c5
          have k6 : W.cell? ⟨db, doff + n * 7 + 6, none⟩ = some (.int .i64 d.mof) := by rw [hbC.cell (p := ⟨db, doff + n * 7 + 6, none⟩) (show db < wr.heap.size by have := hbw.size; omega)]; exact c6
          have iTW : IsBlk W w.heap.size T 34 := ⟨by rw [hbC.block _ (by omega)]; exact iT.out⟩
          have hbX0 : Below w.heap.size w W := hbw.trans (hbC.mono (by omega))
          haveI : LeSize w.heap.size W := ⟨hbX0.size⟩
          simp only [Nat.add_zero] at k0
          have HLV : Hid (stepCh d c nanF = (let L := lv_levM d.on d.off c.on c.bad nanF; let s := lv_seenM L.1 L.2; ⟨L.1, L.2, wt_wOn c.won s, wt_wOff c.wof s, tm_tH s c.hd, tm_tTail (tkF d.dl) (tkF d.ex) c.hd c.tl c.out s, tm_tOut (tkF d.dl) c.hd c.tl c.out s⟩)) := Lib.hid rfl
          go_upto_region 14 with (go_at_call 39; first | (with_reducible refine (HTK1.out _).mono ?_; rintro e w' ⟨rfl, rfl⟩) | (with_reducible refine (HTK2.out _).mono ?_; rintro e w' ⟨rfl, rfl⟩))
          go_upto_region 15 with (first | (go_at_call 40; refine (Up.run (lv_rstep_any _ _ _ _ _ _ _ _ _ _ _)).mono ?_; rintro e w' ⟨rfl, u, rfl⟩))
          generalize lv_levM d.on d.off c.on c.bad nanF = L at *
          (refine wp_region_up_build 16 15 1 (.cells #[.bool L.1, .int .i64 L.2, .int .i64 (wt_wOn c.won (lv_seenM L.1 L.2)), .int .i64 (wt_wOff c.wof (lv_seenM L.1 L.2)), .int .i64 (tm_tH (lv_seenM L.1 L.2) c.hd), .int .i64 (tm_tTail (tkF d.dl) (tkF d.ex) c.hd c.tl c.out (lv_seenM L.1 L.2)), .bool (tm_tOut (tkF d.dl) c.hd c.tl c.out (lv_seenM L.1 L.2))] 48) (by kernel_rfl) (by kernel_rfl) rfl rfl ?_; intro X; simp only [List.take_succ_cons, List.take_zero, List.drop_succ_cons, List.drop_zero, List.eraseIdx_cons_succ, List.eraseIdx_cons_zero]; (repeat (first | go_big_quiet_step ((first | (go_at_call 42; exact Up.calls (lv_rseen_any _ _ _)) | (go_at_call 41; exact Up.calls (wt_rstep_any _ _ _ _)) | (go_at_call 43; exact Up.calls (tm_rstep_any _ _ _ _ _ _ _)) | fail)))); refine wpQuiet_nil ⟨fun u => (by simp [go_sem] <;> rfl), ?_⟩; clear X; rintro q u hq hO; (try simp at hq); have lO := laid_le hO; go_simp)
          have hbX : Below wr.heap.size wr u.w := by (repeat' (first | (with_reducible exact Below.refl _ _) | (with_reducible assumption) | (with_reducible refine Below.setCell ?_ ?_ _) | (with_reducible refine Below.alloc ?_ ?_ _) | (with_reducible refine Below.drew ?_) | (with_reducible refine Up.base _ ?_ ?_) | (with_reducible exact LeSize.out) | exact LeSize.out | exact Nat.le_add_right_of_le LeSize.out | exact Nat.le_add_right_of_le (Nat.le_add_right_of_le LeSize.out) | (with_reducible exact Nat.le_refl _) | (simp; done) | (simp; omega)))
          have hown5 := hown.below hbX
          have hbo5 := hbo.trans (hbX.mono hB)
          have hB5 := hbX.size
          have hlen : (stepN de cs zs n).length ≤ 1000000 := by omega
          go_wp2_with (at_builtin; refine wpList_app_own chC_len 56 _ 38 Try.underlying38 info_ch rfl (by omega) (by omega) rfl _ _ rfl (w.heap.size + 1) rfl hown5 (b := q) (⟨L.1, L.2, wt_wOn c.won (lv_seenM L.1 L.2), wt_wOff c.wof (lv_seenM L.1 L.2), tm_tH (lv_seenM L.1 L.2) c.hd, tm_tTail (tkF d.dl) (tkF d.ex) c.hd c.tl c.out (lv_seenM L.1 L.2), tm_tOut (tkF d.dl) c.hd c.tl c.out (lv_seenM L.1 L.2)⟩ : Ch) (chC_one _) rfl (cells_blk _ hO) hlen (by omega) ?_; intro v' w1 hown' hg)
          have hb6 := hown5.grown0 hbo5 (by omega) (Nat.le_refl _) hg
          clear hg
          go_roundw
          case rel => exact ⟨n + 1, by omega, by go_num, by rw [HSN.out, HLV.out]; exact hown', hb6⟩
          case measure => simp [intOf]; omega
      · have hlcI : ¬ (n : Int) < cs.length := by omega
        rcases hzc with ⟨hlz, zb, zoff, rfl, hzb, hzc⟩ | ⟨hlz, rfl⟩
        · haveI : LeSize (zb + 1) wr := ⟨by omega⟩
          have hz : wr.cell? ⟨zb, zoff + n, none⟩ = some (.float .f64 x) := by rw [hbw.cell (p := ⟨zb, zoff + n, none⟩) hzb]; exact hzc
          have hlzI : (n : Int) < zs.length := by omega
          clear hzc
          go_upto_region 11 with (go_at_call 10; refine (nan_any _).mono ?_; rintro e w' ⟨rfl, rfl⟩)
          have iC : IsBlk (wr.alloc (.cells #[.bool false, .int .i64 0, .int .i64 0, .int .i64 0, .int .i64 0, .int .i64 0, .bool false] 48)) wr.heap.size #[.bool false, .int .i64 0, .int .i64 0, .int .i64 0, .int .i64 0, .int .i64 0, .bool false] 48 := inferInstance
          have hbC : Below wr.heap.size wr (wr.alloc (.cells #[.bool false, .int .i64 0, .int .i64 0, .int .i64 0, .int .i64 0, .int .i64 0, .bool false] 48)) := by (repeat' (first | (with_reducible exact Below.refl _ _) | (with_reducible assumption) | (with_reducible refine Below.setCell ?_ ?_ _) | (with_reducible refine Below.alloc ?_ ?_ _) | (with_reducible refine Below.drew ?_) | (with_reducible refine Up.base _ ?_ ?_) | (with_reducible exact LeSize.out) | exact LeSize.out | exact Nat.le_add_right_of_le LeSize.out | exact Nat.le_add_right_of_le (Nat.le_add_right_of_le LeSize.out) | (with_reducible exact Nat.le_refl _) | (simp; done) | (simp; omega)))
          generalize (wr.alloc (.cells #[.bool false, .int .i64 0, .int .i64 0, .int .i64 0, .int .i64 0, .int .i64 0, .bool false] 48)) = W at *
          haveI : LeSize wr.heap.size W := ⟨hbC.size⟩
          have hCs := hbC.size
          have lC := iC.le
          haveI : LeSize (db + 1) W := ⟨Nat.le_trans (show db + 1 ≤ wr.heap.size by have := hbw.size; omega) hbC.size⟩
          have HTK1 : Hid (∀ w', Calls Try.prog 39 #[.float .f64 d.dl] w' fun e w'' => e = .returned (.tuple #[.int .i64 (tkF d.dl), .bool true]) ∧ w' = w'') := Lib.hid (rtick_any _ HTD.out)
          have HTK2 : Hid (∀ w', Calls Try.prog 39 #[.float .f64 d.ex] w' fun e w'' => e = .returned (.tuple #[.int .i64 (tkF d.ex), .bool true]) ∧ w' = w'') := Lib.hid (rtick_any _ HTE.out)
          have k0 : W.cell? ⟨db, doff + n * 7 + 0, none⟩ = some (.int .i64 d.ph) := by rw [hbC.cell (p := ⟨db, doff + n * 7 + 0, none⟩) (show db < wr.heap.size by have := hbw.size; omega)]; exact c0
          have k1 : W.cell? ⟨db, doff + n * 7 + 1, none⟩ = some (.float .f64 d.on) := by rw [hbC.cell (p := ⟨db, doff + n * 7 + 1, none⟩) (show db < wr.heap.size by have := hbw.size; omega)]; exact c1
          have k2 : W.cell? ⟨db, doff + n * 7 + 2, none⟩ = some (.float .f64 d.off) := by rw [hbC.cell (p := ⟨db, doff + n * 7 + 2, none⟩) (show db < wr.heap.size by have := hbw.size; omega)]; exact c2
          have k3 : W.cell? ⟨db, doff + n * 7 + 3, none⟩ = some (.float .f64 d.dl) := by rw [hbC.cell (p := ⟨db, doff + n * 7 + 3, none⟩) (show db < wr.heap.size by have := hbw.size; omega)]; exact c3
          have k4 : W.cell? ⟨db, doff + n * 7 + 4, none⟩ = some (.float .f64 d.ex) := by rw [hbC.cell (p := ⟨db, doff + n * 7 + 4, none⟩) (show db < wr.heap.size by have := hbw.size; omega)]; exact c4
          have k5 : W.cell? ⟨db, doff + n * 7 + 5, none⟩ = some (.int .i64 d.mon) := by rw [hbC.cell (p := ⟨db, doff + n * 7 + 5, none⟩) (show db < wr.heap.size by have := hbw.size; omega)]; exact c5
          have k6 : W.cell? ⟨db, doff + n * 7 + 6, none⟩ = some (.int .i64 d.mof) := by rw [hbC.cell (p := ⟨db, doff + n * 7 + 6, none⟩) (show db < wr.heap.size by have := hbw.size; omega)]; exact c6
          have iTW : IsBlk W w.heap.size T 34 := ⟨by rw [hbC.block _ (by omega)]; exact iT.out⟩
          have hbX0 : Below w.heap.size w W := hbw.trans (hbC.mono (by omega))
          haveI : LeSize w.heap.size W := ⟨hbX0.size⟩
          simp only [Nat.add_zero] at k0
          have HLV : Hid (stepCh d ch0 x = (let L := lv_levM d.on d.off false 0 x; let s := lv_seenM L.1 L.2; ⟨L.1, L.2, wt_wOn 0 s, wt_wOff 0 s, tm_tH s 0, tm_tTail (tkF d.dl) (tkF d.ex) 0 0 false s, tm_tOut (tkF d.dl) 0 0 false s⟩)) := Lib.hid rfl
          go_upto_region 14 with (go_at_call 39; first | (with_reducible refine (HTK1.out _).mono ?_; rintro e w' ⟨rfl, rfl⟩) | (with_reducible refine (HTK2.out _).mono ?_; rintro e w' ⟨rfl, rfl⟩))
          go_upto_region 15 with (first | (go_at_call 40; refine (Up.run (lv_rstep_any _ _ _ _ _ _ _ _ _ _ _)).mono ?_; rintro e w' ⟨rfl, u, rfl⟩))
          generalize lv_levM d.on d.off false 0 x = L at *
          (refine wp_region_up_build 16 15 1 (.cells #[.bool L.1, .int .i64 L.2, .int .i64 (wt_wOn 0 (lv_seenM L.1 L.2)), .int .i64 (wt_wOff 0 (lv_seenM L.1 L.2)), .int .i64 (tm_tH (lv_seenM L.1 L.2) 0), .int .i64 (tm_tTail (tkF d.dl) (tkF d.ex) 0 0 false (lv_seenM L.1 L.2)), .bool (tm_tOut (tkF d.dl) 0 0 false (lv_seenM L.1 L.2))] 48) (by kernel_rfl) (by kernel_rfl) rfl rfl ?_; intro X; simp only [List.take_succ_cons, List.take_zero, List.drop_succ_cons, List.drop_zero, List.eraseIdx_cons_succ, List.eraseIdx_cons_zero]; (repeat (first | go_big_quiet_step ((first | (go_at_call 42; exact Up.calls (lv_rseen_any _ _ _)) | (go_at_call 41; exact Up.calls (wt_rstep_any _ _ _ _)) | (go_at_call 43; exact Up.calls (tm_rstep_any _ _ _ _ _ _ _)) | fail)))); refine wpQuiet_nil ⟨fun u => (by simp [go_sem] <;> rfl), ?_⟩; clear X; rintro q u hq hO; (try simp at hq); have lO := laid_le hO; go_simp)
          have hbX : Below wr.heap.size wr u.w := by (repeat' (first | (with_reducible exact Below.refl _ _) | (with_reducible assumption) | (with_reducible refine Below.setCell ?_ ?_ _) | (with_reducible refine Below.alloc ?_ ?_ _) | (with_reducible refine Below.drew ?_) | (with_reducible refine Up.base _ ?_ ?_) | (with_reducible exact LeSize.out) | exact LeSize.out | exact Nat.le_add_right_of_le LeSize.out | exact Nat.le_add_right_of_le (Nat.le_add_right_of_le LeSize.out) | (with_reducible exact Nat.le_refl _) | (simp; done) | (simp; omega)))
          have hown5 := hown.below hbX
          have hbo5 := hbo.trans (hbX.mono hB)
          have hB5 := hbX.size
          have hlen : (stepN de cs zs n).length ≤ 1000000 := by omega
          go_wp2_with (at_builtin; refine wpList_app_own chC_len 56 _ 38 Try.underlying38 info_ch rfl (by omega) (by omega) rfl _ _ rfl (w.heap.size + 1) rfl hown5 (b := q) (⟨L.1, L.2, wt_wOn 0 (lv_seenM L.1 L.2), wt_wOff 0 (lv_seenM L.1 L.2), tm_tH (lv_seenM L.1 L.2) 0, tm_tTail (tkF d.dl) (tkF d.ex) 0 0 false (lv_seenM L.1 L.2), tm_tOut (tkF d.dl) 0 0 false (lv_seenM L.1 L.2)⟩ : Ch) (chC_one _) rfl (cells_blk _ hO) hlen (by omega) ?_; intro v' w1 hown' hg)
          have hb6 := hown5.grown0 hbo5 (by omega) (Nat.le_refl _) hg
          clear hg
          go_roundw
          case rel => exact ⟨n + 1, by omega, by go_num, by rw [HSN.out, HLV.out]; exact hown', hb6⟩
          case measure => simp [intOf]; omega
        · have hlzI : ¬ (n : Int) < zs.length := by omega
          go_upto_region 11 with (go_at_call 10; refine (nan_any _).mono ?_; rintro e w' ⟨rfl, rfl⟩)
          have iC : IsBlk (wr.alloc (.cells #[.bool false, .int .i64 0, .int .i64 0, .int .i64 0, .int .i64 0, .int .i64 0, .bool false] 48)) wr.heap.size #[.bool false, .int .i64 0, .int .i64 0, .int .i64 0, .int .i64 0, .int .i64 0, .bool false] 48 := inferInstance
          have hbC : Below wr.heap.size wr (wr.alloc (.cells #[.bool false, .int .i64 0, .int .i64 0, .int .i64 0, .int .i64 0, .int .i64 0, .bool false] 48)) := by (repeat' (first | (with_reducible exact Below.refl _ _) | (with_reducible assumption) | (with_reducible refine Below.setCell ?_ ?_ _) | (with_reducible refine Below.alloc ?_ ?_ _) | (with_reducible refine Below.drew ?_) | (with_reducible refine Up.base _ ?_ ?_) | (with_reducible exact LeSize.out) | exact LeSize.out | exact Nat.le_add_right_of_le LeSize.out | exact Nat.le_add_right_of_le (Nat.le_add_right_of_le LeSize.out) | (with_reducible exact Nat.le_refl _) | (simp; done) | (simp; omega)))
          generalize (wr.alloc (.cells #[.bool false, .int .i64 0, .int .i64 0, .int .i64 0, .int .i64 0, .int .i64 0, .bool false] 48)) = W at *
          haveI : LeSize wr.heap.size W := ⟨hbC.size⟩
          have hCs := hbC.size
          have lC := iC.le
          haveI : LeSize (db + 1) W := ⟨Nat.le_trans (show db + 1 ≤ wr.heap.size by have := hbw.size; omega) hbC.size⟩
          have HTK1 : Hid (∀ w', Calls Try.prog 39 #[.float .f64 d.dl] w' fun e w'' => e = .returned (.tuple #[.int .i64 (tkF d.dl), .bool true]) ∧ w' = w'') := Lib.hid (rtick_any _ HTD.out)
          have HTK2 : Hid (∀ w', Calls Try.prog 39 #[.float .f64 d.ex] w' fun e w'' => e = .returned (.tuple #[.int .i64 (tkF d.ex), .bool true]) ∧ w' = w'') := Lib.hid (rtick_any _ HTE.out)
          have k0 : W.cell? ⟨db, doff + n * 7 + 0, none⟩ = some (.int .i64 d.ph) := by rw [hbC.cell (p := ⟨db, doff + n * 7 + 0, none⟩) (show db < wr.heap.size by have := hbw.size; omega)]; exact c0
          have k1 : W.cell? ⟨db, doff + n * 7 + 1, none⟩ = some (.float .f64 d.on) := by rw [hbC.cell (p := ⟨db, doff + n * 7 + 1, none⟩) (show db < wr.heap.size by have := hbw.size; omega)]; exact c1
          have k2 : W.cell? ⟨db, doff + n * 7 + 2, none⟩ = some (.float .f64 d.off) := by rw [hbC.cell (p := ⟨db, doff + n * 7 + 2, none⟩) (show db < wr.heap.size by have := hbw.size; omega)]; exact c2
          have k3 : W.cell? ⟨db, doff + n * 7 + 3, none⟩ = some (.float .f64 d.dl) := by rw [hbC.cell (p := ⟨db, doff + n * 7 + 3, none⟩) (show db < wr.heap.size by have := hbw.size; omega)]; exact c3
          have k4 : W.cell? ⟨db, doff + n * 7 + 4, none⟩ = some (.float .f64 d.ex) := by rw [hbC.cell (p := ⟨db, doff + n * 7 + 4, none⟩) (show db < wr.heap.size by have := hbw.size; omega)]; exact c4
          have k5 : W.cell? ⟨db, doff + n * 7 + 5, none⟩ = some (.int .i64 d.mon) := by rw [hbC.cell (p := ⟨db, doff + n * 7 + 5, none⟩) (show db < wr.heap.size by have := hbw.size; omega)]; exact c5
          have k6 : W.cell? ⟨db, doff + n * 7 + 6, none⟩ = some (.int .i64 d.mof) := by rw [hbC.cell (p := ⟨db, doff + n * 7 + 6, none⟩) (show db < wr.heap.size by have := hbw.size; omega)]; exact c6
          have iTW : IsBlk W w.heap.size T 34 := ⟨by rw [hbC.block _ (by omega)]; exact iT.out⟩
          have hbX0 : Below w.heap.size w W := hbw.trans (hbC.mono (by omega))
          haveI : LeSize w.heap.size W := ⟨hbX0.size⟩
          simp only [Nat.add_zero] at k0
          have HLV : Hid (stepCh d ch0 nanF = (let L := lv_levM d.on d.off false 0 nanF; let s := lv_seenM L.1 L.2; ⟨L.1, L.2, wt_wOn 0 s, wt_wOff 0 s, tm_tH s 0, tm_tTail (tkF d.dl) (tkF d.ex) 0 0 false s, tm_tOut (tkF d.dl) 0 0 false s⟩)) := Lib.hid rfl
          go_upto_region 14 with (go_at_call 39; first | (with_reducible refine (HTK1.out _).mono ?_; rintro e w' ⟨rfl, rfl⟩) | (with_reducible refine (HTK2.out _).mono ?_; rintro e w' ⟨rfl, rfl⟩))
          go_upto_region 15 with (first | (go_at_call 40; refine (Up.run (lv_rstep_any _ _ _ _ _ _ _ _ _ _ _)).mono ?_; rintro e w' ⟨rfl, u, rfl⟩))
          generalize lv_levM d.on d.off false 0 nanF = L at *
          (refine wp_region_up_build 16 15 1 (.cells #[.bool L.1, .int .i64 L.2, .int .i64 (wt_wOn 0 (lv_seenM L.1 L.2)), .int .i64 (wt_wOff 0 (lv_seenM L.1 L.2)), .int .i64 (tm_tH (lv_seenM L.1 L.2) 0), .int .i64 (tm_tTail (tkF d.dl) (tkF d.ex) 0 0 false (lv_seenM L.1 L.2)), .bool (tm_tOut (tkF d.dl) 0 0 false (lv_seenM L.1 L.2))] 48) (by kernel_rfl) (by kernel_rfl) rfl rfl ?_; intro X; simp only [List.take_succ_cons, List.take_zero, List.drop_succ_cons, List.drop_zero, List.eraseIdx_cons_succ, List.eraseIdx_cons_zero]; (repeat (first | go_big_quiet_step ((first | (go_at_call 42; exact Up.calls (lv_rseen_any _ _ _)) | (go_at_call 41; exact Up.calls (wt_rstep_any _ _ _ _)) | (go_at_call 43; exact Up.calls (tm_rstep_any _ _ _ _ _ _ _)) | fail)))); refine wpQuiet_nil ⟨fun u => (by simp [go_sem] <;> rfl), ?_⟩; clear X; rintro q u hq hO; (try simp at hq); have lO := laid_le hO; go_simp)
          have hbX : Below wr.heap.size wr u.w := by (repeat' (first | (with_reducible exact Below.refl _ _) | (with_reducible assumption) | (with_reducible refine Below.setCell ?_ ?_ _) | (with_reducible refine Below.alloc ?_ ?_ _) | (with_reducible refine Below.drew ?_) | (with_reducible refine Up.base _ ?_ ?_) | (with_reducible exact LeSize.out) | exact LeSize.out | exact Nat.le_add_right_of_le LeSize.out | exact Nat.le_add_right_of_le (Nat.le_add_right_of_le LeSize.out) | (with_reducible exact Nat.le_refl _) | (simp; done) | (simp; omega)))
          have hown5 := hown.below hbX
          have hbo5 := hbo.trans (hbX.mono hB)
          have hB5 := hbX.size
          have hlen : (stepN de cs zs n).length ≤ 1000000 := by omega
          go_wp2_with (at_builtin; refine wpList_app_own chC_len 56 _ 38 Try.underlying38 info_ch rfl (by omega) (by omega) rfl _ _ rfl (w.heap.size + 1) rfl hown5 (b := q) (⟨L.1, L.2, wt_wOn 0 (lv_seenM L.1 L.2), wt_wOff 0 (lv_seenM L.1 L.2), tm_tH (lv_seenM L.1 L.2) 0, tm_tTail (tkF d.dl) (tkF d.ex) 0 0 false (lv_seenM L.1 L.2), tm_tOut (tkF d.dl) 0 0 false (lv_seenM L.1 L.2)⟩ : Ch) (chC_one _) rfl (cells_blk _ hO) hlen (by omega) ?_; intro v' w1 hown' hg)
          have hb6 := hown5.grown0 hbo5 (by omega) (Nat.le_refl _) hg
          clear hg
          go_roundw
          case rel => exact ⟨n + 1, by omega, by go_num, by rw [HSN.out, HLV.out]; exact hown', hb6⟩
          case measure => simp [intOf]; omega
    · obtain rfl : n = de.length := by omega
      go_wp2
      go_ret
      exact ⟨_, rfl, OwnK.less hown (by omega), hbw⟩
end
section
open Go.RowKit
set_option linter.unusedVariables false
attribute [local go_sem] IsBlk.cell IsBlk.frozen

set_option maxHeartbeats 8000000 in
set_option maxRecDepth 100000 in
theorem rhere_de (T : Array Value) (de : List Det) (a : Option Addr) (cap : Nat) (cs : List Ch) (w : World) (hT : IsDe w T de) (hcs : Chs w a cs) (hcl : cs.length ≤ 1000) :
    Calls Try.prog 17 #[.agg T, .slice a cs.length cap] w fun e w' => e = .returned (.int .i64 (hereN de cs (min cs.length de.length))) ∧ Below w.heap.size w w' := by
  obtain ⟨da, dcap, t113, hrow, ld⟩ := hT
  have HR := Lib.hid hrow
  have HC := Lib.hid hcs
  clear hrow hcs
  go_enter Try.func17, Try.ntmps17
  go_wp2
  go_loopw [5, 6] (fun s i wr => ∃ n : Nat, n ≤ cs.length ∧ n ≤ de.length ∧ i = .int .i64 n ∧ s = .int .i64 (hereN de cs n) ∧ Below w.heap.size w wr ∧ IsBlk wr w.heap.size T 34) (fun _ i _ => cs.length - (intOf i).toNat)
  case atStart => exact ⟨0, Nat.zero_le _, Nat.zero_le _, rfl, rfl, by (repeat' (first | (with_reducible exact Below.refl _ _) | (with_reducible assumption) | (with_reducible refine Below.setCell ?_ ?_ _) | (with_reducible refine Below.alloc ?_ ?_ _) | (with_reducible refine Below.drew ?_) | (with_reducible refine Up.base _ ?_ ?_) | (with_reducible exact LeSize.out) | exact LeSize.out | exact Nat.le_add_right_of_le LeSize.out | exact Nat.le_add_right_of_le (Nat.le_add_right_of_le LeSize.out) | (with_reducible exact Nat.le_refl _) | (simp; done) | (simp; omega))), inferInstance⟩
  case round =>
    obtain ⟨n, hn, hnd, rfl, rfl, hbw, iB⟩ := hrel
    haveI : LeSize w.heap.size wr := ⟨hbw.size⟩
    have lB := iB.le
    by_cases hlc : n < cs.length
    · obtain ⟨cb, coff, rfl, hcb, hcc⟩ := HC.out.cells hlc
      haveI : LeSize (cb + 1) wr := ⟨Nat.le_trans hcb hbw.size⟩
      have hc : ∀ j, j < 7 → wr.cell? ⟨cb, coff + n * 7 + j, none⟩ = some (((chC (cs.getD n ch0))[j]?).getD undef) := fun j hj => by
        rw [hbw.cell (p := ⟨cb, coff + n * 7 + j, none⟩) hcb]; exact hcc j hj
      have e0 := hc 0 (by omega)
      have e1 := hc 1 (by omega)
      have e2 := hc 2 (by omega)
      have e3 := hc 3 (by omega)
      have e4 := hc 4 (by omega)
      have e5 := hc 5 (by omega)
      have e6 := hc 6 (by omega)
      by_cases hld : n < de.length
      · obtain ⟨db, doff, rfl, hdb, hdc⟩ := det_cells HR.out hld
        haveI : LeSize (db + 1) wr := ⟨Nat.le_trans hdb hbw.size⟩
        have hd : ∀ j, j < 7 → wr.cell? ⟨db, doff + n * 7 + j, none⟩ = some (((detC (de.getD n ⟨0, 0, 0, 0, 0, 0, 0⟩))[j]?).getD undef) := fun j hj => by
          rw [hbw.cell (p := ⟨db, doff + n * 7 + j, none⟩) hdb]; exact hdc j hj
        have c0 := hd 0 (by omega)
        have c1 := hd 1 (by omega)
        have c2 := hd 2 (by omega)
        have c3 := hd 3 (by omega)
        have c4 := hd 4 (by omega)
        have c5 := hd 5 (by omega)
        have c6 := hd 6 (by omega)
        have HS : Hid (hereN de cs (n + 1) = if callB (de.getD n ⟨0, 0, 0, 0, 0, 0, 0⟩) (cs.getD n ch0) then withM (hereN de cs n) (de.getD n ⟨0, 0, 0, 0, 0, 0, 0⟩).ph else hereN de cs n) := Lib.hid rfl
        generalize de.getD n ⟨0, 0, 0, 0, 0, 0, 0⟩ = d at *
        generalize cs.getD n ch0 = c at *
        simp only [detC, chC, Nat.add_zero, List.getElem?_cons_zero, List.getElem?_cons_succ, Option.getD_some] at c0 c1 c2 c3 c4 c5 c6 e0 e1 e2 e3 e4 e5 e6
        generalize hereN de cs n = s0 at *
        clear hd hdc hc hcc
        have hldI : (n : Int) < de.length := by omega
        have hlcI : (n : Int) < cs.length := by omega
        cases ho : c.out <;> cases hf : decide (3 ≤ c.bad) <;> cases hk : wt_stuckM d.mon d.mof c.won c.wof
        all_goals
          have HX : Hid (hereN de cs (n + 1) = _) := Lib.hid (HS.out.trans (by unfold callB; rw [ho, hf, hk]))
          have HO := Lib.hid ho
          go_wp2_with (first | (go_at_call 44; refine (Up.run (lv_rfailed_any _ _ _)).mono ?_; rintro e w' ⟨rfl, u, rfl⟩) | (go_at_call 45; refine (Up.run (wt_rstuck_any _ _ _ _ _)).mono ?_; rintro e w' ⟨rfl, u, rfl⟩) | (go_at_call 12; refine (Up.run (rwith_any _ _ _)).mono ?_; rintro e w' ⟨rfl, u, rfl⟩))
          (try ((refine wp_region_up (by kernel_rfl) (by kernel_rfl) ?_; (repeat (first | go_big_quiet_step ((first | (go_at_call 44; exact Up.calls (lv_rfailed_any _ _ _)) | (go_at_call 45; exact Up.calls (wt_rstuck_any _ _ _ _ _)) | fail)))); refine wpQuiet_nil ?_; rintro _ ⟨u, rfl⟩)))
          (try (go_wp2_with (first | (go_at_call 44; refine (Up.run (lv_rfailed_any _ _ _)).mono ?_; rintro e w' ⟨rfl, u, rfl⟩) | (go_at_call 45; refine (Up.run (wt_rstuck_any _ _ _ _ _)).mono ?_; rintro e w' ⟨rfl, u, rfl⟩) | (go_at_call 12; refine (Up.run (rwith_any _ _ _)).mono ?_; rintro e w' ⟨rfl, u, rfl⟩))))
          go_roundw
          case rel => exact ⟨n + 1, by omega, by omega, by go_num, by rw [HX.out]; rfl, by (repeat' (first | (with_reducible exact Below.refl _ _) | (with_reducible assumption) | (with_reducible refine Below.setCell ?_ ?_ _) | (with_reducible refine Below.alloc ?_ ?_ _) | (with_reducible refine Below.drew ?_) | (with_reducible refine Up.base _ ?_ ?_) | (with_reducible exact LeSize.out) | exact LeSize.out | exact Nat.le_add_right_of_le LeSize.out | exact Nat.le_add_right_of_le (Nat.le_add_right_of_le LeSize.out) | (with_reducible exact Nat.le_refl _) | (simp; done) | (simp; omega))), inferInstance⟩
          case measure => simp [intOf]; omega
      · have hnn : n = de.length := by omega
        have HM : Hid (min cs.length de.length = n) := Lib.hid (by omega)
        have hge : ¬ (n : Int) < de.length := by omega
        generalize cs.getD n ch0 = c at *
        simp only [chC, Nat.add_zero, List.getElem?_cons_zero, List.getElem?_cons_succ, Option.getD_some] at e0 e1 e2 e3 e4 e5 e6
        clear hc hcc hnn
        go_wp2
        go_ret
        exact ⟨ret_int (by rw [HM.out]), by (repeat' (first | (with_reducible exact Below.refl _ _) | (with_reducible assumption) | (with_reducible refine Below.setCell ?_ ?_ _) | (with_reducible refine Below.alloc ?_ ?_ _) | (with_reducible refine Below.drew ?_) | (with_reducible refine Up.base _ ?_ ?_) | (with_reducible exact LeSize.out) | exact LeSize.out | exact Nat.le_add_right_of_le LeSize.out | exact Nat.le_add_right_of_le (Nat.le_add_right_of_le LeSize.out) | (with_reducible exact Nat.le_refl _) | (simp; done) | (simp; omega)))⟩
    · have HM : Hid (min cs.length de.length = n) := Lib.hid (by omega)
      have hlcI : ¬ (n : Int) < cs.length := by omega
      by_cases hld : n < de.length
      · have hldI : (n : Int) < de.length := by omega
        go_wp2
        go_ret
        exact ⟨ret_int (by rw [HM.out]), by (repeat' (first | (with_reducible exact Below.refl _ _) | (with_reducible assumption) | (with_reducible refine Below.setCell ?_ ?_ _) | (with_reducible refine Below.alloc ?_ ?_ _) | (with_reducible refine Below.drew ?_) | (with_reducible refine Up.base _ ?_ ?_) | (with_reducible exact LeSize.out) | exact LeSize.out | exact Nat.le_add_right_of_le LeSize.out | exact Nat.le_add_right_of_le (Nat.le_add_right_of_le LeSize.out) | (with_reducible exact Nat.le_refl _) | (simp; done) | (simp; omega)))⟩
      · have hldI : ¬ (n : Int) < de.length := by omega
        go_wp2
        go_ret
        exact ⟨ret_int (by rw [HM.out]), by (repeat' (first | (with_reducible exact Below.refl _ _) | (with_reducible assumption) | (with_reducible refine Below.setCell ?_ ?_ _) | (with_reducible refine Below.alloc ?_ ?_ _) | (with_reducible refine Below.drew ?_) | (with_reducible refine Up.base _ ?_ ?_) | (with_reducible exact LeSize.out) | exact LeSize.out | exact Nat.le_add_right_of_le LeSize.out | exact Nat.le_add_right_of_le (Nat.le_add_right_of_le LeSize.out) | (with_reducible exact Nat.le_refl _) | (simp; done) | (simp; omega)))⟩
theorem run_neq_ch2 (c : Ch) (w : World) : Sem.run Try.prog (binOp .neq 48 (.agg #[.bool c.on, .int .i64 c.bad, .int .i64 c.won, .int .i64 c.wof, .int .i64 c.hd, .int .i64 c.tl, .bool c.out]) (.agg #[.bool c.on, .int .i64 c.bad, .int .i64 c.won, .int .i64 c.wof, .int .i64 c.hd, .int .i64 c.tl, .bool c.out])) w = .ok (.bool false) w := by
  have h1 : (c.on == c.on) = true := by cases c.on <;> rfl
  have h2 : (c.out == c.out) = true := by cases c.out <;> rfl
  simp [go_sem]
set_option maxHeartbeats 8000000 in
set_option maxRecDepth 100000 in
theorem samech_any (a : Option Addr) (cap : Nat) (b : Option Addr) (cap2 : Nat) (cs : List Ch) (w : World) (ha : Chs w a cs) (hb : Chs w b cs) (hcl : cs.length ≤ 1000) :
    Calls Try.prog 16 #[.slice a cs.length cap, .slice b cs.length cap2] w fun e w' => e = .returned (.bool true) ∧ Below w.heap.size w w' := by
  have HA := Lib.hid ha
  have HB := Lib.hid hb
  clear ha hb
  have hnq := run_neq_ch2
  go_enter Try.func16, Try.ntmps16
  go_wp2
  go_loopw [5] (fun i wr => ∃ n : Nat, n ≤ cs.length ∧ i = .int .i64 n ∧ Below w.heap.size w wr) (fun i _ => cs.length - (intOf i).toNat)
  case atStart => exact ⟨0, Nat.zero_le _, rfl, by (repeat' (first | (with_reducible exact Below.refl _ _) | (with_reducible assumption) | (with_reducible refine Below.setCell ?_ ?_ _) | (with_reducible refine Below.alloc ?_ ?_ _) | (with_reducible refine Below.drew ?_) | (with_reducible refine Up.base _ ?_ ?_) | (with_reducible exact LeSize.out) | exact LeSize.out | exact Nat.le_add_right_of_le LeSize.out | exact Nat.le_add_right_of_le (Nat.le_add_right_of_le LeSize.out) | (with_reducible exact Nat.le_refl _) | (simp; done) | (simp; omega)))⟩
  case round =>
    obtain ⟨n, hn, rfl, hbw⟩ := hrel
    haveI : LeSize w.heap.size wr := ⟨hbw.size⟩
    by_cases hlc : n < cs.length
    · obtain ⟨b5, o5, rfl, hb5, hc5⟩ := HA.out.cells hlc
      obtain ⟨b6, o6, rfl, hb6, hc6⟩ := HB.out.cells hlc
      haveI : LeSize (b5 + 1) wr := ⟨Nat.le_trans hb5 hbw.size⟩
      haveI : LeSize (b6 + 1) wr := ⟨Nat.le_trans hb6 hbw.size⟩
      have g5 : ∀ q, q < 7 → wr.cell? ⟨b5, o5 + n * 7 + q, none⟩ = some (((chC (cs.getD n ch0))[q]?).getD undef) := fun q hq => by
        rw [hbw.cell (p := ⟨b5, o5 + n * 7 + q, none⟩) hb5]; exact hc5 q hq
      have g6 : ∀ q, q < 7 → wr.cell? ⟨b6, o6 + n * 7 + q, none⟩ = some (((chC (cs.getD n ch0))[q]?).getD undef) := fun q hq => by
        rw [hbw.cell (p := ⟨b6, o6 + n * 7 + q, none⟩) hb6]; exact hc6 q hq
      have x0 := g5 0 (by omega)
      have x1 := g5 1 (by omega)
      have x2 := g5 2 (by omega)
      have x3 := g5 3 (by omega)
      have x4 := g5 4 (by omega)
      have x5 := g5 5 (by omega)
      have x6 := g5 6 (by omega)
      have y0 := g6 0 (by omega)
      have y1 := g6 1 (by omega)
      have y2 := g6 2 (by omega)
      have y3 := g6 3 (by omega)
      have y4 := g6 4 (by omega)
      have y5 := g6 5 (by omega)
      have y6 := g6 6 (by omega)
      generalize cs.getD n ch0 = c at *
      simp only [chC, Nat.add_zero, List.getElem?_cons_zero, List.getElem?_cons_succ, Option.getD_some] at x0 x1 x2 x3 x4 x5 x6 y0 y1 y2 y3 y4 y5 y6
      have hnc := hnq c
      have hdI : (n : Int) < cs.length := by omega
      clear g5 g6 hc5 hc6 hnq
      go_wp2
      (refine wp_region_up (by kernel_rfl) (by kernel_rfl) ?_; (repeat (first | go_big_quiet_step ((first | fail)))); refine wpQuiet_nil ?_; rintro _ ⟨u, rfl⟩)
      go_wp2
      go_roundw
      case rel => exact ⟨n + 1, by omega, by go_num, by (repeat' (first | (with_reducible exact Below.refl _ _) | (with_reducible assumption) | (with_reducible refine Below.setCell ?_ ?_ _) | (with_reducible refine Below.alloc ?_ ?_ _) | (with_reducible refine Below.drew ?_) | (with_reducible refine Up.base _ ?_ ?_) | (with_reducible exact LeSize.out) | exact LeSize.out | exact Nat.le_add_right_of_le LeSize.out | exact Nat.le_add_right_of_le (Nat.le_add_right_of_le LeSize.out) | (with_reducible exact Nat.le_refl _) | (simp; done) | (simp; omega)))⟩
      case measure => simp [intOf]; omega
    · obtain rfl : n = cs.length := by omega
      go_wp2
      go_ret
      exact ⟨rfl, by (repeat' (first | (with_reducible exact Below.refl _ _) | (with_reducible assumption) | (with_reducible refine Below.setCell ?_ ?_ _) | (with_reducible refine Below.alloc ?_ ?_ _) | (with_reducible refine Below.drew ?_) | (with_reducible refine Up.base _ ?_ ?_) | (with_reducible exact LeSize.out) | exact LeSize.out | exact Nat.le_add_right_of_le LeSize.out | exact Nat.le_add_right_of_le (Nat.le_add_right_of_le LeSize.out) | (with_reducible exact Nat.le_refl _) | (simp; done) | (simp; omega)))⟩
end
end Go.Proofs.Yteohpfelgaffoaa
