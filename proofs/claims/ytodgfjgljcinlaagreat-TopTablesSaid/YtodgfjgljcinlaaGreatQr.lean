/- Part Qr of the proof: SamA, SamB. -/
import Derived.Test.YtodgfjgljcinlaaGreatQc
import Derived.ChangeKeysEq
import Derived.Test.YtodgfjgljcinlaaGreatQa
import Derived.Test.YtodgfjgljcinlaaGreatQe
namespace Go.Proofs.YtodgfjgljcinlaaGreat
set_option maxHeartbeats 8000000
set_option maxRecDepth 100000
set_option linter.unusedVariables false
section
open Go.RowKit
attribute [local go_sem] IsBlk.cell IsBlk.frozen
theorem nz (f : Nat → Int) (w : World) : (binOp .neq 29 (.agg (((List.range 8).map f).map (Value.int .i64)).toArray) (.agg (((List.range 8).map f).map (Value.int .i64)).toArray)).run Tryz.prog w = .ok (.bool false) w := by
 obtain ⟨i0, hinfo, _⟩ := info_parts m9
 have hc : Tryz.prog.cellsOf 3 = 1 := by kernel_rfl
 rw [run_neq_struct, run_equalIn_array w 9999 _ _ Tryz.underlying29 hinfo, hc]
 simp [List.range_succ, Op.eqItems, part, isAgg, run_underlying Tryz.underlying3, Sem.run_bind, Result.andThen, go_sem]
theorem xf (d : Nat) (x : Phs) (w : World) : (Op.equalIn (d + 2) 26 (.agg (cy x).toArray) (.agg (cy x).toArray)).run Tryz.prog w = .ok true w := by
 simp [go_sem, cy]
theorem uM (t : Nat → Phs) (w : World) : (binOp .neq 27 (.agg (((List.range 8).map t).flatMap cy).toArray) (.agg (((List.range 8).map t).flatMap cy).toArray)).run Tryz.prog w = .ok (.bool false) w := by
  have hi : ∃ i, Tryz.prog.info? 26 = some i := by
    cases h : Tryz.prog.info? 26 with
    | none => exact absurd h (by have : (Tryz.prog.info? 26).isSome = true := by kernel_rfl
                                 intro e; rw [e] at this; cases this)
    | some i => exact ⟨i, rfl⟩
  obtain ⟨i0, hinfo⟩ := hi
  have hc : Tryz.prog.cellsOf 26 = 13 := by kernel_rfl
  have hu : ∃ fs, Tryz.prog.underlying 26 = some (.struct fs) := ⟨_, Tryz.underlying26⟩
  rw [run_neq_struct, run_equalIn_array w 9999 _ _ Tryz.underlying27 hinfo, hc]
  have hp : ∀ k, k < 8 → ∀ w, (part 26 (((List.range 8).map t).flatMap cy).toArray (k * 13)).run Tryz.prog w = .ok (.agg (cy (t k)).toArray) w := fun k hk w => by
    have h8 : k = 0 ∨ k = 1 ∨ k = 2 ∨ k = 3 ∨ k = 4 ∨ k = 5 ∨ k = 6 ∨ k = 7 := by omega
    rcases h8 with rfl | rfl | rfl | rfl | rfl | rfl | rfl | rfl <;> simp [part, isAgg, run_underlying Tryz.underlying26, go_sem, List.range_succ, cy, Sem.run_bind, Result.andThen]
  have e : ∀ (x : Phs) (w : World), (Op.equalIn 9999 26 (.agg (cy x).toArray) (.agg (cy x).toArray)).run Tryz.prog w = .ok true w := fun x w => xf 9997 x w
  have h0 := hp 0 (by omega)
  have h1 := hp 1 (by omega)
  have h2 := hp 2 (by omega)
  have h3 := hp 3 (by omega)
  have h4 := hp 4 (by omega)
  have h5 := hp 5 (by omega)
  have h6 := hp 6 (by omega)
  have h7 := hp 7 (by omega)
  clear hp
  generalize (((List.range 8).map t).flatMap cy).toArray = X at *
  rw [show List.range 8 = [0, 1, 2, 3, 4, 5, 6, 7] from rfl]
  simp only [Op.eqItems, Sem.run_bind, h0, h1, h2, h3, h4, h5, h6, h7, e, Result.andThen_ok, Bool.not_true, Bool.false_eq_true, if_false, Sem.run_pure]
theorem wc (x : Bus) (w : World) : (binOp .neq 110 (.agg (dm x).toArray) (.agg (dm x).toArray)).run Tryz.prog w = .ok (.bool false) w := by
 simp [go_sem, dm]
theorem wE (x : Rl) (w : World) : (binOp .neq 100 (.agg (dq x).toArray) (.agg (dq x).toArray)).run Tryz.prog w = .ok (.bool false) w := by
 simp [go_sem, dq]
theorem eK (a a' : Option Addr) (cap cap' : Nat) (zs : List Int) (w : World) (hl : zs.length ≤ 100000) (h1 : bQ w a zs) (h2 : bQ w a' zs) :
  Calls Tryz.prog 47 #[.slice a zs.length cap, .slice a' zs.length cap'] w fun e w' => e = .returned (.bool true) ∧ Below w.heap.size w w' := by
 have H1 := Lib.hid h1
 have H2 := Lib.hid h2
 clear h1 h2
 go_enter Tryz.func47, Tryz.ntmps47
 go_wp2
 go_loopw [5] (fun i wr => ∃ j : Nat, j ≤ zs.length ∧ i = .int .i64 j ∧ Below w.heap.size w wr) (fun i _ => zs.length - (intOf i).toNat)
 case atStart => exact ⟨0, Nat.zero_le _, rfl, Below.refl _ _⟩
 case round =>
  obtain ⟨j, hj, rfl, hb⟩ := hrel
  haveI : LeSize w.heap.size wr := ⟨hb.size⟩
  by_cases hlt : j < zs.length
  ·obtain ⟨b, off, rfl, hbw, hc⟩ := H1.out.cell (by omega)
   obtain ⟨b', off', rfl, hbw', hc'⟩ := H2.out.cell (by omega)
   have c1 : wr.cell? ⟨b, off + j, none⟩ = some (.int .i64 (zs.getD j 0)) := by rw [hb.cell (p := ⟨b, off + j, none⟩) hbw]; exact hc j hlt
   have c2 : wr.cell? ⟨b', off' + j, none⟩ = some (.int .i64 (zs.getD j 0)) := by rw [hb.cell (p := ⟨b', off' + j, none⟩) hbw']; exact hc' j hlt
   haveI : LeSize (b + 1) wr := ⟨Nat.le_trans hbw hb.size⟩
   haveI : LeSize (b' + 1) wr := ⟨Nat.le_trans hbw' hb.size⟩
   generalize zs.getD j 0 = x at *
   have hxx : (x != x) = false := by simp
   have hjI : (j : Int) < zs.length := by omega
   go_wp2
   (refine ai (by kernel_rfl) (by kernel_rfl) ?_; (repeat (first | go_big_quiet_step ((first | fail)))); refine wpQuiet_nil ?_; rintro _ ⟨u, rfl⟩)
   go_wp2
   go_roundw
   case rel => exact ⟨j + 1, by omega, by go_num, by exact yd⟩
   case measure => simp [intOf]; omega
  ·obtain rfl : j = zs.length := by omega
   go_wp2
   go_ret
   exact ⟨rfl, hb⟩
end
section
open Go.RowKit
attribute [local go_sem] IsBlk.cell IsBlk.frozen
theorem nN (x : Nat) (w : World) : Calls Tryz.prog 48 #[.float .f64 x] w fun e w' => e = .returned (.int .u64 x) ∧ w = w' := by
 have h := jr x
 go_enter Tryz.func48, Tryz.ntmps48
 go_wp2
 go_ret
 exact ⟨rfl, rfl⟩
theorem iE {W w : World} (h : Below W.heap.size W w) : ∃ u : Up W, w = u.w := ⟨⟨w, h⟩, rfl⟩
class Ints8 (C : Array Value) (o : Nat) (f : outParam (Nat → Int)) : Prop where
 out : ∀ p, p < 8 → C[o + p]? = some (.int .i64 (f p))
theorem uj {w : World} {b o : Nat} {C : Array Value} {t : TypeId} {f : Nat → Int} [h : IsBlk w b C t] [hz : Ints8 C o f] : Sem.run Tryz.prog (Instr.loadAt 29 (.pointer (some ⟨b, o, none⟩))) w = .ok (.agg (((List.range 8).map f).map (Value.int .i64)).toArray) w := by
 have := run_loadAt_mid (P := Tryz.prog) w b o 29 (((List.range 8).map f).map (Value.int .i64)) _ (gi h.out o _ fun j hj => by
  have hj8 : j < 8 := by simpa using hj
  rw [hz.out j hj8, List.getElem?_map, List.getElem?_map, List.getElem?_range hj8]; rfl) Tryz.underlying29 rfl (by kernel_rfl)
 exact this
class Ar8 (C : Array Value) (o : Nat) (v : outParam (Array Value)) : Prop where
 out : ∀ (w : World) (b : Nat) (t : TypeId), w.heap[b]? = some (.cells C t) → Sem.run Tryz.prog (Instr.loadAt 29 (.pointer (some ⟨b, o, none⟩))) w = .ok (.agg v) w
theorem mw {C : Array Value} {o : Nat} {f : Nat → Int} {v : Array Value} (h : ∀ p, p < 8 → C[o + p]? = some (.int .i64 (f p))) (hv : (((List.range 8).map f).map (Value.int .i64)).toArray = v) : Ar8 C o v := ⟨fun w b t hb => by
 haveI : Ints8 C o f := ⟨h⟩
 haveI : IsBlk w b C t := ⟨hb⟩
 rw [← hv]; exact uj⟩
theorem xP {ops : Array Oper} {rest : List Oper} {op : Oper} {a : Act} {w : World} {Q : Exit → Act → World → Prop} {x : Operand} {b o : Nat} {C : Array Value} {t : TypeId} {v : Array Value} (hw : Region.wanted op (yielded ops a.tmps) = true) (ho : op.op = .load 29 x) (hx : a.eval x = .pointer (some ⟨b, o, none⟩)) [h : IsBlk w b C t] [hz : Ar8 C o v]
  (hk : wpList Tryz.prog ops Q rest (a.put op.dst (.agg v)) w) : wpList Tryz.prog ops Q (op :: rest) a w := dp hw ho hx (hz.out _ _ _ h.out) hk
theorem adu {w : World} {T : Array Value} {t : Tab} (h : ag w T t) : T.extract 0 104 = (((List.range 8).map t.ph).flatMap cy).toArray := by
 obtain ⟨g, d, r, b, rfl, _⟩ := h
 kernel_rfl
theorem rZ {w : World} {b : Nat} {cs : Array Value} {t : TypeId} {o : Obj} (zs : List Int) (hb : b = w.heap.size) (h : cs = (zs.map (Value.int .i64)).toArray) : bQ ((w.alloc (.cells cs t)).alloc o) (some ⟨b, 0, none⟩) zs := bk.below (cU zs hb h) ((Below.refl _ _).alloc (Nat.le_refl _) o) (Nat.le_refl _)
theorem ag.opn {w : World} {T : Array Value} {t : Tab} (h : ag w T t) : ∃ (ga : Option Addr) (gc : Nat) (H : Nat → Nat → Option Addr × Nat) (da : Option Addr) (dc : Nat) (xa : Option Addr) (xc : Nat) (ba : Option Addr) (bc : Nat),
  T[104]? = some (.slice ga t.gr.length gc) ∧ T[113]? = some (.slice da t.de.length dc) ∧ T[114]? = some (.slice xa t.ra.length xc) ∧ T[115]? = some (.slice ba t.bu.length bc) ∧
  (T[116]? = some (.int .i64 t.ext) ∧ T[117]? = some (.int .i64 t.bud) ∧ T[118]? = some (.int .i64 t.start) ∧ T[119]? = some (.int .i64 t.rev) ∧ T[120]? = some (.int .i64 t.least) ∧ T[129]? = some (.int .i64 t.win) ∧ T[130]? = some (.int .i64 t.share)) ∧
  bB w ga 2 t.gr.length (fun i j => .slice (H i j).1 (ak t.gr i j).length (H i j).2) ∧ (∀ i, i < t.gr.length → ∀ j, j < 2 → bQ w (H i j).1 (ak t.gr i j)) ∧
  bB w da 7 t.de.length (aF aQ t.de) ∧ bB w xa 11 t.ra.length (aF dq t.ra) ∧ bB w ba 2 t.bu.length (aF dm t.bu) ∧ TabBd t := by
 obtain ⟨g, d, r, b, rfl, hI⟩ := h
 obtain ⟨⟨ga, gc, H, rfl, r1, i1⟩, ⟨da, dc, rfl, r2⟩, ⟨xa, xc, rfl, r3⟩, ⟨ba, bc, rfl, r4⟩, b1, b2, b3, b4, b5⟩ := hI
 exact ⟨ga, gc, H, da, dc, xa, xc, ba, bc, (ab _ _ _ (by omega)).trans rfl, (ab _ _ _ (by omega)).trans rfl, (ab _ _ _ (by omega)).trans rfl, (ab _ _ _ (by omega)).trans rfl,
  ⟨(ab _ _ _ (by omega)).trans rfl, (ab _ _ _ (by omega)).trans rfl, (ab _ _ _ (by omega)).trans rfl, (ab _ _ _ (by omega)).trans rfl, (ab _ _ _ (by omega)).trans rfl, (ab _ _ _ (by omega)).trans rfl, (ab _ _ _ (by omega)).trans rfl⟩, r1, i1, r2, r3, r4, ⟨b1, b2, b3, b4, b5⟩⟩
theorem jR (A B : Array Value) (t : Tab) (w : World) (hA : ag w A t) (hB : ag w B t) :
  Calls Tryz.prog 16 #[.agg A, .agg B] w fun e w' => e = .returned (.bool true) ∧ Below w.heap.size w w' := by
 haveI : Sz131 A := ⟨hA.size⟩
 haveI : Sz131 B := ⟨hB.size⟩
 have hPA := adu hA
 have hPB := adu hB
 have nph := uM t.ph
 generalize (((List.range 8).map t.ph).flatMap cy).toArray = PH at *
 have ncf := nz t.cf
 have nfl := nz t.fl
 generalize hcf : (((List.range 8).map t.cf).map (Value.int .i64)).toArray = CF at *
 generalize hfl : (((List.range 8).map t.fl).map (Value.int .i64)).toArray = FL at *
 haveI iA1 : Ar8 A 105 CF := mw hA.cf hcf
 haveI iB1 : Ar8 B 105 CF := mw hB.cf hcf
 haveI iA2 : Ar8 A 121 FL := mw hA.fl hfl
 haveI iB2 : Ar8 B 121 FL := mw hB.fl hfl
 clear hcf hfl
 have HA := Lib.hid hA
 have HB := Lib.hid hB
 obtain ⟨ga, gc, H, da, dc, xa, xc, ba, bc, t104, t113, t114, t115, ⟨t116, t117, t118, t119, t120, t129, t130⟩, rg, ri, rd, rx, rb, bd⟩ := hA.opn
 obtain ⟨ga', gc', H', da', dc', xa', xc', ba', bc', t104', t113', t114', t115', ⟨t116', t117', t118', t119', t120', t129', t130'⟩, rg', ri', rd', rx', rb', bd'⟩ := hB.opn
 have HRG := Lib.hid rg
 have HRI := Lib.hid ri
 have HRD := Lib.hid rd
 have HRX := Lib.hid rx
 have HRB := Lib.hid rb
 have HRG' := Lib.hid rg'
 have HRI' := Lib.hid ri'
 have HRD' := Lib.hid rd'
 have HRX' := Lib.hid rx'
 have HRB' := Lib.hid rb'
 have HBD := Lib.hid bd
 clear rg ri rd rx rb rg' ri' rd' rx' rb' bd bd' hA hB
 have HPA := Lib.hid hPA
 have HPB := Lib.hid hPB
 clear hPA hPB
 have l1 : Hid (t.gr.length ≤ 8 ∧ t.de.length ≤ 64 ∧ t.ra.length ≤ 64 ∧ t.bu.length ≤ 64) := Lib.hid ⟨HBD.out.lg, HBD.out.ld, HBD.out.la, HBD.out.lb⟩
 go_enter Tryz.func16, Tryz.ntmps16
 go_upto_region 3 with (first | ((refine mb rfl rfl rfl ?_); (first | rw [HPA.out] | rw [HPB.out]); go_simp) | ((refine xP rfl rfl rfl ?_); go_simp))
 have HS7 : Hid (∀ (b c : Nat) (W : World), bQ W (some ⟨b, 0, none⟩) [t.ext, t.bud, t.start, t.rev, t.least, t.win, t.share] → bQ W (some ⟨c, 0, none⟩) [t.ext, t.bud, t.start, t.rev, t.least, t.win, t.share] → Calls Tryz.prog 47 #[.slice (some ⟨b, 0, none⟩) 7 7, .slice (some ⟨c, 0, none⟩) 7 7] W fun e w' => e = .returned (.bool true) ∧ Below W.heap.size W w') := Lib.hid fun b c W h1 h2 => eK _ _ _ _ [t.ext, t.bud, t.start, t.rev, t.least, t.win, t.share] W (by show 7 ≤ 100000; omega) h1 h2
 go_wp2_with fail
 go_at_call 47
 refine (Up.run (HS7.out _ _ _ (rZ _ (by simp) rfl) (cU _ (by simp) rfl))).mono ?_
 rintro e w' ⟨rfl, u7, rfl⟩
 go_upto_region 5 with fail
 have hb0 : Below w.heap.size w u7.w := by exact yd
 have iA : IsBlk u7.w w.heap.size A 34 := inferInstance
 have iB : IsBlk u7.w (w.heap.size + 1) B 34 := inferInstance
 generalize u7.w = W at *
 clear u7
 go_wp2
 go_loopw [5] (fun i wr => ∃ n : Nat, n ≤ t.gr.length ∧ i = .int .i64 n ∧ Below W.heap.size W wr) (fun i _ => t.gr.length - (intOf i).toNat)
 case atStart => exact ⟨0, Nat.zero_le _, rfl, Below.refl _ _⟩
 case round =>
  obtain ⟨n, hn, rfl, hb⟩ := hrel
  haveI : LeSize W.heap.size wr := ⟨hb.size⟩
  have hb2 : Below w.heap.size w wr := hb0.trans (hb.mono hb0.size)
  haveI : IsBlk wr w.heap.size A 34 := ⟨by rw [hb.block _ (Array.getElem?_eq_some_iff.1 iA.out).1]; exact iA.out⟩
  haveI : IsBlk wr (w.heap.size + 1) B 34 := ⟨by rw [hb.block _ (Array.getElem?_eq_some_iff.1 iB.out).1]; exact iB.out⟩
  have lg8 := l1.out.1
  by_cases hlt : n < t.gr.length
  ·obtain ⟨gb, goff, rfl, hgb, hgc⟩ := HRG.out.resolve_left (by omega)
   obtain ⟨gb', goff', rfl, hgb', hgc'⟩ := HRG'.out.resolve_left (by omega)
   haveI : LeSize (gb + 1) wr := ⟨by have := hb2.size; omega⟩
   haveI : LeSize (gb' + 1) wr := ⟨by have := hb2.size; omega⟩
   have c0 : wr.cell? ⟨gb, goff + n * 2, none⟩ = some (.slice (H n 0).1 (ak t.gr n 0).length (H n 0).2) := by rw [hb2.cell (p := ⟨gb, goff + n * 2, none⟩) hgb]; exact hgc n hlt 0 (by omega)
   have c1 : wr.cell? ⟨gb, goff + n * 2 + 1, none⟩ = some (.slice (H n 1).1 (ak t.gr n 1).length (H n 1).2) := by rw [hb2.cell (p := ⟨gb, goff + n * 2 + 1, none⟩) hgb]; exact hgc n hlt 1 (by omega)
   have d0 : wr.cell? ⟨gb', goff' + n * 2, none⟩ = some (.slice (H' n 0).1 (ak t.gr n 0).length (H' n 0).2) := by rw [hb2.cell (p := ⟨gb', goff' + n * 2, none⟩) hgb']; exact hgc' n hlt 0 (by omega)
   have d1 : wr.cell? ⟨gb', goff' + n * 2 + 1, none⟩ = some (.slice (H' n 1).1 (ak t.gr n 1).length (H' n 1).2) := by rw [hb2.cell (p := ⟨gb', goff' + n * 2 + 1, none⟩) hgb']; exact hgc' n hlt 1 (by omega)
   have i0 := HRI.out n hlt 0 (by omega)
   have i1 := HRI.out n hlt 1 (by omega)
   have j0 := HRI'.out n hlt 0 (by omega)
   have j1 := HRI'.out n hlt 1 (by omega)
   have q0 := HBD.out.lr n 0
   have q1 := HBD.out.lr n 1
   generalize (H n 0).1 = h0 at *
   generalize (H n 0).2 = h0c at *
   generalize (H n 1).1 = h1 at *
   generalize (H n 1).2 = h1c at *
   generalize (H' n 0).1 = k0 at *
   generalize (H' n 0).2 = k0c at *
   generalize (H' n 1).1 = k1 at *
   generalize (H' n 1).2 = k1c at *
   generalize ak t.gr n 0 = r0 at *
   generalize ak t.gr n 1 = r1 at *
   have HQ0 : Hid (∀ w', Below wr.heap.size wr w' → Calls Tryz.prog 47 #[.slice h0 r0.length h0c, .slice k0 r0.length k0c] w' fun e w'' => e = .returned (.bool true) ∧ Below w'.heap.size w' w'') := Lib.hid fun w' hw => eK _ _ _ _ r0 w' (by omega) (bk.below i0 (hb2.trans (hw.mono hb2.size)) (Nat.le_refl _)) (bk.below j0 (hb2.trans (hw.mono hb2.size)) (Nat.le_refl _))
   have HQ1 : Hid (∀ w', Below wr.heap.size wr w' → Calls Tryz.prog 47 #[.slice h1 r1.length h1c, .slice k1 r1.length k1c] w' fun e w'' => e = .returned (.bool true) ∧ Below w'.heap.size w' w'') := Lib.hid fun w' hw => eK _ _ _ _ r1 w' (by omega) (bk.below i1 (hb2.trans (hw.mono hb2.size)) (Nat.le_refl _)) (bk.below j1 (hb2.trans (hw.mono hb2.size)) (Nat.le_refl _))
   clear i0 i1 j0 j1 q0 q1 hgc hgc'
   have hnI : (n : Int) < t.gr.length := by omega
   go_wp2
   (refine ai (by kernel_rfl) (by kernel_rfl) ?_; (repeat (first | go_big_quiet_step ((first | (go_at_call 47; (first | (with_reducible refine Up.calls (HQ0.out _ ?_)) | (with_reducible refine Up.calls (HQ1.out _ ?_))); all_goals try exact yd) | fail)))); refine wpQuiet_nil ?_; rintro _ ⟨u, rfl⟩)
   go_wp2
   go_roundw
   case rel => exact ⟨n + 1, by omega, by go_num, by exact yd⟩
   case measure => simp [intOf]; omega
  ·obtain rfl : n = t.gr.length := by omega
   go_wp2
   go_loopw [6] (fun i wr => ∃ n : Nat, n ≤ t.de.length ∧ i = .int .i64 n ∧ Below W.heap.size W wr) (fun i _ => t.de.length - (intOf i).toNat)
   case atStart => exact ⟨0, Nat.zero_le _, rfl, hb⟩
   case round =>
    clear hb hb2 lg8
    obtain ⟨n, hn, rfl, hb⟩ := hrel
    haveI : LeSize W.heap.size wr := ⟨hb.size⟩
    have hb2 : Below w.heap.size w wr := hb0.trans (hb.mono hb0.size)
    haveI : IsBlk wr w.heap.size A 34 := ⟨by rw [hb.block _ (Array.getElem?_eq_some_iff.1 iA.out).1]; exact iA.out⟩
    haveI : IsBlk wr (w.heap.size + 1) B 34 := ⟨by rw [hb.block _ (Array.getElem?_eq_some_iff.1 iB.out).1]; exact iB.out⟩
    have lg8 : t.de.length ≤ 64 := l1.out.2.1
    by_cases hlt : n < t.de.length
    ·obtain ⟨gb, goff, rfl, hgb, hgc⟩ := HRD.out.resolve_left (by omega)
     obtain ⟨gb', goff', rfl, hgb', hgc'⟩ := HRD'.out.resolve_left (by omega)
     haveI : LeSize (gb + 1) wr := ⟨by have := hb2.size; omega⟩
     haveI : LeSize (gb' + 1) wr := ⟨by have := hb2.size; omega⟩
     have hd : t.de[n]? = some t.de[n] := List.getElem?_eq_getElem hlt
     have ck : ∀ j, j < 7 → wr.cell? ⟨gb, goff + n * 7 + j, none⟩ = some (((aQ t.de[n])[j]?).getD undef) := fun j hj => by
      rw [hb2.cell (p := ⟨gb, goff + n * 7 + j, none⟩) hgb, hgc n hlt j hj]; unfold aF; rw [hd]; rfl
     have dk : ∀ j, j < 7 → wr.cell? ⟨gb', goff' + n * 7 + j, none⟩ = some (((aQ t.de[n])[j]?).getD undef) := fun j hj => by
      rw [hb2.cell (p := ⟨gb', goff' + n * 7 + j, none⟩) hgb', hgc' n hlt j hj]; unfold aF; rw [hd]; rfl
     generalize t.de[n] = d at *
     have x0 := ck 0 (by omega)
     have y0 := dk 0 (by omega)
     have x1 := ck 1 (by omega)
     have y1 := dk 1 (by omega)
     have x2 := ck 2 (by omega)
     have y2 := dk 2 (by omega)
     have x3 := ck 3 (by omega)
     have y3 := dk 3 (by omega)
     have x4 := ck 4 (by omega)
     have y4 := dk 4 (by omega)
     have x5 := ck 5 (by omega)
     have y5 := dk 5 (by omega)
     have x6 := ck 6 (by omega)
     have y6 := dk 6 (by omega)
     simp only [aQ, Nat.add_zero, List.getElem?_cons_zero, List.getElem?_cons_succ, Option.getD_some] at x0 y0 x1 y1 x2 y2 x3 y3 x4 y4 x5 y5 x6 y6
     have hnI : (n : Int) < t.de.length := by omega
     clear ck dk hgc hgc' hd
     go_wp2
     refine zb (fun w' => ∃ u : Up wr, w' = u.w) [0, 1, 2, 3, 4, 5, 6, 7, 8, 9] [true, true, true, true, true, true, true, true, true, true, false, false, false, false] 4 (by kernel_rfl) (by kernel_rfl) rfl (by intro o _ v c a w h; generalize o.dst = d at h; cases d <;> exact h) ⟨⟨_, (Below.refl _ _).drew⟩, rfl⟩ ?_
     simp only [bD, List.filterMap_cons, List.filterMap_nil, List.getElem?_cons_succ, List.getElem?_cons_zero]
     iterate 10 (apply Exists.intro; refine ⟨Or.inl ⟨rfl, fun w hS => ?_⟩, ?_⟩; (focus (obtain ⟨u, rfl⟩ := hS; first | (simp [go_sem, *]; rfl) | (simp [go_sem]; rfl))); simp only [Act.put, List.setIfInBounds_toArray, List.set_cons_succ, List.set_cons_zero])
     refine cP ?_
     have hb9 : Below W.heap.size W wr.drew := hb.drew
     have hr9 : Below wr.heap.size wr wr.drew := (Below.refl _ _).drew
     generalize wr.drew = W9 at *
     haveI : LeSize wr.heap.size W9 := ⟨hr9.size⟩
     haveI : LeSize W.heap.size W9 := ⟨hb9.size⟩
     refine oS (i := 10) (k := 11) (by kernel_rfl) ?_ ?_
     ·refine yA rfl rfl (fun K hK => ?_); go_wp2_with fail; rw [cN]; refine hK _ _ (iE (by exact yd)) ?_; clear hK K
      refine bG (i := 11) (by kernel_rfl) ?_
      refine yA rfl rfl (fun K hK => ?_); go_wp2_with fail; rw [cN]; refine hK _ _ (iE (by exact yd)) ?_; clear hK K
      refine bG (i := 12) (by kernel_rfl) ?_
      refine yA rfl rfl (fun K hK => ?_); go_wp2_with fail; rw [cN]; refine hK _ _ (iE (by exact yd)) ?_; clear hK K
      refine bG (i := 13) (by kernel_rfl) ?_
      refine yA rfl rfl (fun K hK => ?_); go_wp2_with fail; rw [cN]; refine hK _ _ (iE (by exact yd)) ?_; clear hK K
      refine ⟨by kernel_rfl, ?_⟩
      go_wp2
      (refine ai (by kernel_rfl) (by kernel_rfl) ?_; (repeat (first | go_big_quiet_step ((first | (go_at_call 48; exact Up.pure (nN _ _)) | fail)))); refine wpQuiet_nil ?_; rintro _ ⟨u, rfl⟩)
      go_wp2
      go_roundw
      case rel => exact ⟨n + 1, by omega, by go_num, by exact yd⟩
      case measure => simp [intOf]; omega
     ·refine yA rfl rfl (fun K hK => ?_); go_wp2_with fail; rw [cN]; refine hK _ _ (iE (by exact yd)) ?_; clear hK K
      refine bG (i := 10) (by kernel_rfl) ?_
      refine yA rfl rfl (fun K hK => ?_); go_wp2_with fail; rw [cN]; refine hK _ _ (iE (by exact yd)) ?_; clear hK K
      refine bG (i := 12) (by kernel_rfl) ?_
      refine yA rfl rfl (fun K hK => ?_); go_wp2_with fail; rw [cN]; refine hK _ _ (iE (by exact yd)) ?_; clear hK K
      refine bG (i := 13) (by kernel_rfl) ?_
      refine yA rfl rfl (fun K hK => ?_); go_wp2_with fail; rw [cN]; refine hK _ _ (iE (by exact yd)) ?_; clear hK K
      refine ⟨by kernel_rfl, ?_⟩
      go_wp2
      (refine ai (by kernel_rfl) (by kernel_rfl) ?_; (repeat (first | go_big_quiet_step ((first | (go_at_call 48; exact Up.pure (nN _ _)) | fail)))); refine wpQuiet_nil ?_; rintro _ ⟨u, rfl⟩)
      go_wp2
      go_roundw
      case rel => exact ⟨n + 1, by omega, by go_num, by exact yd⟩
      case measure => simp [intOf]; omega
    ·obtain rfl : n = t.de.length := by omega
     go_wp2
     go_loopw [9] (fun i wr => ∃ n : Nat, n ≤ t.ra.length ∧ i = .int .i64 n ∧ Below W.heap.size W wr) (fun i _ => t.ra.length - (intOf i).toNat)
     case atStart => exact ⟨0, Nat.zero_le _, rfl, hb⟩
     case round =>
      clear hb hb2 lg8
      obtain ⟨n, hn, rfl, hb⟩ := hrel
      haveI : LeSize W.heap.size wr := ⟨hb.size⟩
      have hb2 : Below w.heap.size w wr := hb0.trans (hb.mono hb0.size)
      haveI : IsBlk wr w.heap.size A 34 := ⟨by rw [hb.block _ (Array.getElem?_eq_some_iff.1 iA.out).1]; exact iA.out⟩
      haveI : IsBlk wr (w.heap.size + 1) B 34 := ⟨by rw [hb.block _ (Array.getElem?_eq_some_iff.1 iB.out).1]; exact iB.out⟩
      have lg8 : t.ra.length ≤ 64 := l1.out.2.2.1
      by_cases hlt : n < t.ra.length
      ·obtain ⟨gb, goff, rfl, hgb, hgc⟩ := HRX.out.resolve_left (by omega)
       obtain ⟨gb', goff', rfl, hgb', hgc'⟩ := HRX'.out.resolve_left (by omega)
       haveI : LeSize (gb + 1) wr := ⟨by have := hb2.size; omega⟩
       haveI : LeSize (gb' + 1) wr := ⟨by have := hb2.size; omega⟩
       have hd : t.ra[n]? = some t.ra[n] := List.getElem?_eq_getElem hlt
       have ck : ∀ j, j < 11 → wr.cell? ⟨gb, goff + n * 11 + j, none⟩ = some (((dq t.ra[n])[j]?).getD undef) := fun j hj => by
        rw [hb2.cell (p := ⟨gb, goff + n * 11 + j, none⟩) hgb, hgc n hlt j hj]; unfold aF; rw [hd]; rfl
       have dk : ∀ j, j < 11 → wr.cell? ⟨gb', goff' + n * 11 + j, none⟩ = some (((dq t.ra[n])[j]?).getD undef) := fun j hj => by
        rw [hb2.cell (p := ⟨gb', goff' + n * 11 + j, none⟩) hgb', hgc' n hlt j hj]; unfold aF; rw [hd]; rfl
       generalize t.ra[n] = d at *
       have x0 := ck 0 (by omega)
       have y0 := dk 0 (by omega)
       have x1 := ck 1 (by omega)
       have y1 := dk 1 (by omega)
       have x2 := ck 2 (by omega)
       have y2 := dk 2 (by omega)
       have x3 := ck 3 (by omega)
       have y3 := dk 3 (by omega)
       have x4 := ck 4 (by omega)
       have y4 := dk 4 (by omega)
       have x5 := ck 5 (by omega)
       have y5 := dk 5 (by omega)
       have x6 := ck 6 (by omega)
       have y6 := dk 6 (by omega)
       have x7 := ck 7 (by omega)
       have y7 := dk 7 (by omega)
       have x8 := ck 8 (by omega)
       have y8 := dk 8 (by omega)
       have x9 := ck 9 (by omega)
       have y9 := dk 9 (by omega)
       have x10 := ck 10 (by omega)
       have y10 := dk 10 (by omega)
       simp only [dq, Nat.add_zero, List.getElem?_cons_zero, List.getElem?_cons_succ, Option.getD_some] at x0 y0 x1 y1 x2 y2 x3 y3 x4 y4 x5 y5 x6 y6 x7 y7 x8 y8 x9 y9 x10 y10
       have hnI : (n : Int) < t.ra.length := by omega
       clear ck dk hgc hgc' hd
       go_wp2
       have hnq := wE d
       simp only [dq] at hnq
       (refine ai (by kernel_rfl) (by kernel_rfl) ?_; (repeat (first | go_big_quiet_step ((first | fail)))); refine wpQuiet_nil ?_; rintro _ ⟨u, rfl⟩)
       go_wp2
       go_roundw
       case rel => exact ⟨n + 1, by omega, by go_num, by exact yd⟩
       case measure => simp [intOf]; omega
      ·obtain rfl : n = t.ra.length := by omega
       go_wp2
       go_loopw [10] (fun i wr => ∃ n : Nat, n ≤ t.bu.length ∧ i = .int .i64 n ∧ Below W.heap.size W wr) (fun i _ => t.bu.length - (intOf i).toNat)
       case atStart => exact ⟨0, Nat.zero_le _, rfl, hb⟩
       case round =>
        clear hb hb2 lg8
        obtain ⟨n, hn, rfl, hb⟩ := hrel
        haveI : LeSize W.heap.size wr := ⟨hb.size⟩
        have hb2 : Below w.heap.size w wr := hb0.trans (hb.mono hb0.size)
        haveI : IsBlk wr w.heap.size A 34 := ⟨by rw [hb.block _ (Array.getElem?_eq_some_iff.1 iA.out).1]; exact iA.out⟩
        haveI : IsBlk wr (w.heap.size + 1) B 34 := ⟨by rw [hb.block _ (Array.getElem?_eq_some_iff.1 iB.out).1]; exact iB.out⟩
        have lg8 : t.bu.length ≤ 64 := l1.out.2.2.2
        by_cases hlt : n < t.bu.length
        ·obtain ⟨gb, goff, rfl, hgb, hgc⟩ := HRB.out.resolve_left (by omega)
         obtain ⟨gb', goff', rfl, hgb', hgc'⟩ := HRB'.out.resolve_left (by omega)
         haveI : LeSize (gb + 1) wr := ⟨by have := hb2.size; omega⟩
         haveI : LeSize (gb' + 1) wr := ⟨by have := hb2.size; omega⟩
         have hd : t.bu[n]? = some t.bu[n] := List.getElem?_eq_getElem hlt
         have ck : ∀ j, j < 2 → wr.cell? ⟨gb, goff + n * 2 + j, none⟩ = some (((dm t.bu[n])[j]?).getD undef) := fun j hj => by
          rw [hb2.cell (p := ⟨gb, goff + n * 2 + j, none⟩) hgb, hgc n hlt j hj]; unfold aF; rw [hd]; rfl
         have dk : ∀ j, j < 2 → wr.cell? ⟨gb', goff' + n * 2 + j, none⟩ = some (((dm t.bu[n])[j]?).getD undef) := fun j hj => by
          rw [hb2.cell (p := ⟨gb', goff' + n * 2 + j, none⟩) hgb', hgc' n hlt j hj]; unfold aF; rw [hd]; rfl
         generalize t.bu[n] = d at *
         have x0 := ck 0 (by omega)
         have y0 := dk 0 (by omega)
         have x1 := ck 1 (by omega)
         have y1 := dk 1 (by omega)
         simp only [dm, Nat.add_zero, List.getElem?_cons_zero, List.getElem?_cons_succ, Option.getD_some] at x0 y0 x1 y1
         have hnI : (n : Int) < t.bu.length := by omega
         clear ck dk hgc hgc' hd
         go_wp2
         have hnq := wc d
         simp only [dm] at hnq
         (refine ai (by kernel_rfl) (by kernel_rfl) ?_; (repeat (first | go_big_quiet_step ((first | fail)))); refine wpQuiet_nil ?_; rintro _ ⟨u, rfl⟩)
         go_wp2
         go_roundw
         case rel => exact ⟨n + 1, by omega, by go_num, by exact yd⟩
         case measure => simp [intOf]; omega
        ·obtain rfl : n = t.bu.length := by omega
         go_wp2
         go_ret
         exact ⟨rfl, hb2⟩
end
end Go.Proofs.YtodgfjgljcinlaaGreat
