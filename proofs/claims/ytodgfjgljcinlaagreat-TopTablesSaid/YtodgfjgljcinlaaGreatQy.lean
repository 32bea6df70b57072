/- Part Qy of the proof: WrtC, WrtD. -/
import Derived.Test.YtodgfjgljcinlaaGreatQs
import Derived.Test.YtodgfjgljcinlaaGreatQr
import Derived.Test.YtodgfjgljcinlaaGreatQa
namespace Go.Proofs.YtodgfjgljcinlaaGreat
set_option maxHeartbeats 8000000
set_option maxRecDepth 100000
set_option linter.unusedVariables false
section
open Go.RowKit
theorem yn.less {w : World} {base base' : Nat} {v : Value} {zs : List Int} (h : yn w base v zs) (hb : base' ≤ base) : yn w base' v zs := by
 obtain ⟨h1, h⟩ := h
 refine ⟨h1, ?_⟩
 rcases h with h | ⟨g, cap, cur, e, hg, hc⟩
 ·exact .inl h
 ·exact .inr ⟨g, cap, cur, e, by omega, hc⟩
theorem ae2 {v : Value} {zs : List Int} (size : Nat) (n : Int) (w : World) (hs8 : size ≤ 8) (hl : zs.length ≤ 100000) (h : ug w v zs) :
  Calls Tryz.prog 38 #[v, .int .i64 size, .int .i64 n] w fun e w' => ∃ v', e = .returned v' ∧ yn w' w.heap.size v' (zs ++ an size n) ∧ Below w.heap.size w w' := by
 obtain ⟨a, c, rfl, h1, h2⟩ := h
 exact rz a c zs size n w hs8 hl h1 h2.1
theorem aeI {v : Value} {zs : List Int} (size : Nat) (b : Option Addr) (c : Nat) (l : List Int) (w : World) (hs8 : size ≤ 8) (hll : l.length ≤ 1000) (hl : zs.length ≤ 50000) (h : ug w v zs) (hi : bQ w b l) (hne : 0 < l.length) :
  Calls Tryz.prog 90 #[v, .int .i64 size, .slice b l.length c] w fun e w' => ∃ v', e = .returned v' ∧ yn w' w.heap.size v' (zs ++ l.flatMap (an size)) ∧ Below w.heap.size w w' := by
 have HI := Lib.hid hi
 have HR := Lib.hid h
 have HS8 := Lib.hid hs8
 clear hi h hs8
 go_enter Tryz.func90, Tryz.ntmps90
 go_wp2
 go_loopw [0, 7] (fun bv i wr => ∃ j : Nat, j ≤ l.length ∧ i = .int .i64 j ∧ ug wr bv (zs ++ (l.take j).flatMap (an size)) ∧ (0 < j → yn wr w.heap.size bv (zs ++ (l.take j).flatMap (an size))) ∧ Below w.heap.size w wr) (fun _ i _ => l.length - (intOf i).toNat)
 case atStart => exact ⟨0, Nat.zero_le _, rfl, by simpa using HR.out, fun h => absurd h (by omega), Below.refl _ _⟩
 case round =>
  obtain ⟨j, hj, rfl, hR, hO, hb⟩ := hrel
  haveI : LeSize w.heap.size wr := ⟨hb.size⟩
  by_cases hlt : j < l.length
  ·obtain ⟨b', off, rfl, hbw, hc⟩ := HI.out.cell (by omega)
   have c1 : wr.cell? ⟨b', off + j, none⟩ = some (.int .i64 (l.getD j 0)) := by rw [hb.cell (p := ⟨b', off + j, none⟩) hbw]; exact hc j hlt
   have hlen : (zs ++ (l.take j).flatMap (an size)).length ≤ 100000 := by
    have h8 := HS8.out
    rw [List.length_append, yM, List.length_take]
    have : min j l.length * size ≤ 1000 * 8 := Nat.mul_le_mul (by omega) h8
    omega
   have HE : Hid ((zs ++ (l.take j).flatMap (an size)) ++ an size (l.getD j 0) = zs ++ (l.take (j + 1)).flatMap (an size)) := Lib.hid (by
    rw [List.take_add_one, List.getElem?_eq_getElem hlt, List.flatMap_append, List.append_assoc]
    simp [List.getD, List.getElem?_eq_getElem hlt])
   clear hO
   obtain ⟨aa, cc, rfl, hB1, hN1⟩ := hR
   have hR : ug wr (.slice aa (zs ++ (l.take j).flatMap (an size)).length cc) (zs ++ (l.take j).flatMap (an size)) := ⟨aa, cc, rfl, hB1, hN1⟩
   generalize hLL : (zs ++ (l.take j).flatMap (an size)).length = LL at *
   have h3 := ae2 size (l.getD j 0) wr HS8.out (by omega) hR
   rw [HE.out] at h3
   have HP := Lib.hid h3
   clear h3 hB1 hN1
   clear HE hlen hR hc
   generalize l.getD j 0 = x at *
   have hjI : (j : Int) < l.length := by omega
   go_wp2_with (go_at_call 38; refine HP.out.mono ?_; rintro e w' ⟨v', rfl, ho, hb2⟩)
   go_roundw
   case rel => exact ⟨j + 1, by omega, by go_num, ho.rdB, fun _ => ho.less hb.size, hb.trans (hb2.mono hb.size)⟩
   case measure => simp [intOf]; omega
  ·obtain rfl : j = l.length := by omega
   have hO2 := hO hne
   rw [List.take_length] at hO2
   have HR2 := Lib.hid hO2
   clear hR hO hO2
   go_wp2
   go_ret
   exact ⟨_, rfl, HR2.out, hb⟩
end
section
open Go.RowKit
attribute [local go_sem] IsBlk.cell IsBlk.frozen
theorem ym {cur W w1 : World} (h : Below cur.heap.size cur W) (h1 : Below W.heap.size W w1) : Below cur.heap.size cur w1 := h.trans (h1.mono h.size)
theorem zx {W W' : World} {b : Nat} {C : Array Value} {t : TypeId} (h : IsBlk W b C t) (hb : Below W.heap.size W W') : IsBlk W' b C t := ⟨by rw [hb.block _ (Array.getElem?_eq_some_iff.1 h.out).1]; exact h.out⟩
theorem IsBlk.castW {w : World} {b : Nat} {C C' : Array Value} {t : TypeId} (h : IsBlk w b C t) (e : C = C') : IsBlk w b C' t := e ▸ h
theorem abb {W : World} {b off n : Nat} {T : Array Value} {t : TypeId} {f : Nat → Int} (h : IsBlk W b T t) (hc : ∀ p, p < n → T[off + p]? = some (.int .i64 (f p))) : bQ W (some ⟨b, off, none⟩) ((List.range n).map f) := by
 refine .inr ⟨b, off, rfl, (Array.getElem?_eq_some_iff.1 h.out).1, fun i hi => ?_⟩
 have hi' : i < n := by simpa using hi
 rw [IsBlk.cell, hc i hi']
 simp [List.getD, hi']
structure BoS (w : World) (T : Array Value) (acc : List Int) (wr : World) (bv : Value) : Prop where
 bel : Below w.heap.size w wr
 blk : IsBlk wr w.heap.size T 34
 rd : ug wr bv acc
theorem BoS.step {w wr w1 : World} {T : Array Value} {acc acc' : List Int} {bv v' : Value} (h : BoS w T acc wr bv) (hb : Below wr.heap.size wr w1) (ho : ug w1 v' acc') : BoS w T acc' w1 v' :=
 ⟨h.bel.trans (hb.mono h.bel.size), ⟨by rw [hb.block _ (Array.getElem?_eq_some_iff.1 h.blk.out).1]; exact h.blk.out⟩, ho⟩
theorem BoS.eq {w wr : World} {T : Array Value} {acc acc' : List Int} {bv : Value} (h : BoS w T acc wr bv) (e : acc = acc') : BoS w T acc' wr bv := by subst e; exact h
theorem BoS.put {w wr : World} {T : Array Value} {acc : List Int} {bv : Value} (h : BoS w T acc wr bv) (hl : acc.length ≤ 50000) (size : Nat) (hs : size ≤ 8) (n : Int) :
  Hid (∀ W, Below wr.heap.size wr W → Calls Tryz.prog 38 #[bv, .int .i64 size, .int .i64 n] W fun e w' => ∃ v', e = .returned v' ∧ ug w' v' (acc ++ an size n) ∧ Below W.heap.size W w') :=
 Lib.hid fun W hW => xB size n W hs (by omega) (h.rd.below hW)
theorem BoS.putf {w wr : World} {T : Array Value} {acc : List Int} {bv : Value} (h : BoS w T acc wr bv) (hl : acc.length ≤ 50000) (x : Nat) :
  Hid (∀ W, Below wr.heap.size wr W → Calls Tryz.prog 91 #[bv, .float .f64 x] W fun e w' => ∃ v', e = .returned v' ∧ ug w' v' (acc ++ eO x) ∧ Below W.heap.size W w') :=
 Lib.hid fun W hW => aeH x W (by omega) (h.rd.below hW)
theorem zd (x : Nat) : (eO x).length = 8 := aA _ _
theorem BoS.puts {w wr : World} {T : Array Value} {acc : List Int} {bv : Value} (h : BoS w T acc wr bv) (hl : acc.length ≤ 50000) (size : Nat) (hs : size ≤ 8) (l : List Int) (hll : l.length ≤ 1000) :
  Hid (∀ W b c, Below wr.heap.size wr W → bQ W b l → Calls Tryz.prog 90 #[bv, .int .i64 size, .slice b l.length c] W fun e w' => ∃ v', e = .returned v' ∧ ug w' v' (acc ++ l.flatMap (an size)) ∧ Below W.heap.size W w') :=
 Lib.hid fun W b c hW hi => aeJ size b c l W hs hll hl (h.rd.below hW) hi
theorem acZ (T : Array Value) (t : Tab) (w : World) (hT : ag w T t) :
  Calls Tryz.prog 22 #[.agg T] w fun e w' => ∃ v, e = .returned v ∧ yn w' w.heap.size v (dw t) ∧ Below w.heap.size w w' := by
 haveI : Sz131 T := ⟨hT.size⟩
 have HPH : Hid (∀ k, k < 8 → IsPh T (k * 13) (t.ph k)) := Lib.hid fun k hk => hT.isPh k hk
 obtain ⟨ga, gc, H, da, dc, xa, xc, ba, bc, t104, t113, t114, t115, ⟨t116, t117, t118, t119, t120, t129, t130⟩, rg, ri, rd, rx, rb, bd⟩ := hT.opn
 have HRG := Lib.hid rg
 have HRI := Lib.hid ri
 have HRD := Lib.hid rd
 have HRX := Lib.hid rx
 have HRB := Lib.hid rb
 have HBD := Lib.hid bd
 clear rg ri rd rx rb bd
 have HT := Lib.hid hT
 clear hT
 go_enter Tryz.func22, Tryz.ntmps22
 go_upto_region 2 with fail
 have hS0 : ∀ o, o = .cells #[.int .u8 88, .int .u8 66, .int .u8 1] 5 → BoS w T (an 3 ie) ((w.alloc (.cells T 34)).alloc o) (.slice (some ⟨w.heap.size + 1, 0, none⟩) 3 3) := by
  rintro o rfl
  refine ⟨by exact yd, inferInstance, some ⟨w.heap.size + 1, 0, none⟩, 3, rfl, ?_, fun h => (by cases h), by decide, by omega⟩
  refine .inr ⟨w.heap.size + 1, 0, rfl, by simp, fun i hi => ?_⟩
  have hi3 : i < 3 := hi
  rcases (show i = 0 ∨ i = 1 ∨ i = 2 by omega) with rfl | rfl | rfl <;> simp [go_sem] <;> rfl
 have hS := hS0 _ rfl
 clear hS0
 generalize ((w.alloc (.cells T 34)).alloc (.cells #[.int .u8 88, .int .u8 66, .int .u8 1] 5)) = W1 at *
 generalize (Value.slice (some ⟨w.heap.size + 1, 0, none⟩) 3 3) = v1 at *
 go_wp2
 go_loopw [3, 4] (fun bv i wr => ∃ j : Nat, j ≤ 8 ∧ i = .int .i64 j ∧ BoS w T (an 3 ie ++ (List.range j).flatMap fun p => dK (t.ph p)) wr bv) (fun _ i _ => 8 - (intOf i).toNat)
 case atStart => exact ⟨0, by omega, rfl, by simpa using hS⟩
 case round =>
  clear hS
  obtain ⟨j, hj, rfl, hS⟩ := hrel
  obtain ⟨aa, cc, rfl, hB1, hN1⟩ := hS.rd
  have hS := BoS.mk hS.bel hS.blk (⟨aa, cc, rfl, hB1, hN1⟩ : ug wr _ _)
  have hlen : (an 3 ie ++ (List.range j).flatMap fun p => dK (t.ph p)).length ≤ 200 := by
   have := pc (fun p => dK (t.ph p)) 22 (List.range j) (fun p _ => by rw [lq]; exact Nat.le_refl _)
   rw [List.length_range] at this
   rw [List.length_append, aA]; omega
  by_cases hlt : j < 8
  ·have HE : Hid ((an 3 ie ++ (List.range j).flatMap fun p => dK (t.ph p)) ++ dK (t.ph j) = an 3 ie ++ (List.range (j + 1)).flatMap fun p => dK (t.ph p)) := Lib.hid (by
    rw [List.range_succ, List.flatMap_append, List.append_assoc]; simp)
   generalize (an 3 ie ++ (List.range j).flatMap fun p => dK (t.ph p)) = acc at *
   haveI := HPH.out j hlt
   have iTb := hS.blk
   haveI : LeSize w.heap.size wr := ⟨hS.bel.size⟩
   have hjI : (j : Int) < 8 := by omega
   generalize t.ph j = p at *
   clear hB1 hN1
   go_upto_region 6 with (first | (refine xr rfl rfl rfl ?_; go_simp))
   refine eQ (fun W' => Below wr.heap.size wr W' ∧ IsBlk W' wr.heap.size (gS p) 26) ⟨by exact yd, IsBlk.castW inferInstance rfl⟩ ?_
   rintro W5 ⟨h5, i5⟩
   have q0 : (gS p)[0]? = some (.bool p.on) := rfl
   have q1 : (gS p)[1]? = some (.int .i64 p.min) := rfl
   have q2 : (gS p)[2]? = some (.int .i64 p.gap) := rfl
   have q3 : (gS p)[3]? = some (.int .i64 p.max) := rfl
   have q4 : (gS p)[4]? = some (.int .i64 p.top) := rfl
   have q5 : (gS p)[5]? = some (.int .i64 p.step) := rfl
   have q6 : (gS p)[6]? = some (.int .i64 p.yel) := rfl
   have q7 : (gS p)[7]? = some (.int .i64 p.red) := rfl
   have q8 : (gS p)[8]? = some (.int .i64 p.walk) := rfl
   have q9 : (gS p)[9]? = some (.int .i64 p.blinks) := rfl
   have q10 : (gS p)[10]? = some (.int .i64 p.recl) := rfl
   have q11 : (gS p)[11]? = some (.bool p.lock) := rfl
   have q12 : (gS p)[12]? = some (.bool p.rest) := rfl
   have hS5 := hS.step h5 (hS.rd.below h5)
   generalize gS p = PC at *
   have l5 : LeSize (wr.heap.size + 1) W5 := ⟨(Array.getElem?_eq_some_iff.1 i5.out).1⟩
   clear hS iTb
   have hal : acc.length ≤ 200 := hlen
   have P1 := hS5.put (by omega) 1 (by omega) (fF p.on)
   go_upto_region 7 with (first | (go_at_call 89; refine (ab6 _ _).mono ?_; rintro e w' ⟨rfl, rfl⟩) | (go_at_call 38; refine (P1.out _ (by exact yd)).mono ?_; rintro e w6 ⟨v6, rfl, ho6, hb6⟩))
   have hS6 := hS5.step hb6 ho6
   have i6 := zx i5 hb6
   have l6 : LeSize (wr.heap.size + 1) w6 := ⟨Nat.le_trans l5.out hb6.size⟩
   haveI : LeSize w.heap.size w6 := ⟨hS6.bel.size⟩
   clear P1 hS5 hb6 ho6 i5 l5 h5
   have P2 := hS6.puts (by rw [List.length_append, aA]; omega) 2 (by omega) (qB p) (by unfold qB; simp)
   go_upto_region 8 with (first | (go_at_call 90; refine (P2.out _ _ _ ?_ (cU _ (by simp) rfl)).mono ?_; (focus exact yd); rintro e w7 ⟨v7, rfl, ho7, hb7⟩))
   have hb7c := ym (cur := w6) (by exact yd) hb7
   have hS7 := hS6.step hb7c ho7
   have i7 := zx i6 hb7c
   have l7 : LeSize (wr.heap.size + 1) w7 := ⟨Nat.le_trans l6.out hb7c.size⟩
   haveI : LeSize w.heap.size w7 := ⟨hS7.bel.size⟩
   clear P2 hS6 hb7c ho7 hb7 i6 l6
   have P3 := hS7.puts (by rw [List.length_append, List.length_append, aA, yM]; unfold qB; simp; omega) 1 (by omega) [p.recl, fF p.lock, fF p.rest] (by simp)
   go_wp2
   (refine zK [0] [1, 2, 3, 4, 5, 6, 7, 8] [9, 10, 11] (by kernel_rfl) (by kernel_rfl) (by intro d v c a w h; cases d <;> exact h) ?_; simp only [bD, List.filterMap_cons, List.filterMap_nil, List.getElem?_cons_succ, List.getElem?_cons_zero]; (repeat (first | (refine aad rfl rfl rfl ?_; simp only [Act.put, List.setIfInBounds_toArray, List.set_cons_succ, List.set_cons_zero]) | (refine ⟨_, Or.inl ⟨rfl, fun w => ?_⟩, ?_⟩; (focus (simp [go_sem]; rfl))))); (try simp only [Act.put, List.setIfInBounds_toArray, List.set_cons_succ, List.set_cons_zero]); refine eS ?_; show wpQuiet _ _ _ _ [_, _, _, _, _, _, _, _] _; (repeat (first | go_big_quiet_step ((first | (go_at_call 89; exact Up.pure (ab6 _ _)) | fail)))); refine wpQuiet_nil ?_; rintro _ ⟨u, rfl⟩)
   go_wp2_with (first | (go_at_call 90; refine (P3.out _ _ _ ?_ (cU _ (by simp) rfl)).mono ?_; (focus exact yd); rintro e w8 ⟨v8, rfl, ho8, hb8⟩))
   have hb8c := ym (cur := w7) (by exact yd) hb8
   have hS8 := hS7.step hb8c ho8
   have HE2 := HE.out
   unfold dK at HE2
   rw [← List.append_assoc, ← List.append_assoc] at HE2
   rw [HE2] at hS8
   go_roundw
   case rel => exact ⟨j + 1, by omega, by go_num, hS8⟩
   case measure => simp [intOf]; omega
  ·obtain rfl : j = 8 := by omega
   generalize hA1 : (an 3 ie ++ (List.range 8).flatMap fun p => dK (t.ph p)) = A1 at *
   have HA1 := Lib.hid hA1
   have lA1 : A1.length ≤ 200 := hlen
   have lg := HBD.out.lg
   clear hA1 hlen hj hB1 hN1
   haveI iTb := hS.blk
   haveI : LeSize w.heap.size wr := ⟨hS.bel.size⟩
   have P1 := hS.put (by omega) 1 (by omega) (t.gr.length : Int)
   go_upto_region 10 with (first | (go_at_call 38; refine (P1.out _ (by exact yd)).mono ?_; rintro e w9 ⟨v9, rfl, ho9, hb9⟩))
   have hS9 := hS.step hb9 ho9
   clear P1 hS iTb hb9 ho9
   have lA2 : (A1 ++ an 1 (t.gr.length : Int)).length ≤ 210 := by rw [List.length_append, aA]; omega
   generalize hA2 : A1 ++ an 1 (t.gr.length : Int) = A2 at *
   have HA2 := Lib.hid hA2
   clear hA2 lA1
   go_wp2
   go_loopw [3, 6] (fun bv i wr => ∃ g : Nat, g ≤ t.gr.length ∧ i = .int .i64 g ∧ BoS w T (A2 ++ (t.gr.take g).flatMap fg) wr bv) (fun _ i _ => t.gr.length - (intOf i).toNat)
   case atStart => exact ⟨0, by omega, rfl, by simpa using hS9⟩
   case round =>
    clear hS9
    obtain ⟨g, hg, rfl, hS⟩ := hrel
    obtain ⟨aa, cc, rfl, hB1, hN1⟩ := hS.rd
    have hS := BoS.mk hS.bel hS.blk (⟨aa, cc, rfl, hB1, hN1⟩ : ug wr _ _)
    haveI iTb := hS.blk
    haveI : LeSize w.heap.size wr := ⟨hS.bel.size⟩
    have hlen : (A2 ++ (t.gr.take g).flatMap fg).length ≤ 400 := by
     have := pc fg 18 (t.gr.take g) (fun x hx => by
      obtain ⟨k, hk, rfl⟩ := List.getElem_of_mem (List.mem_of_mem_take hx)
      have e : ∀ q, ak t.gr k q = if q = 0 then t.gr[k].1 else t.gr[k].2 := fun q => by unfold ak; rw [List.getElem?_eq_getElem hk]
      have r0 := HBD.out.lr k 0
      have r1 := HBD.out.lr k 1
      rw [e] at r0 r1
      rw [lj]
      simp at r0 r1; omega)
     rw [List.length_take] at this
     rw [List.length_append]; omega
    by_cases hlt : g < t.gr.length
    ·have hgI : (g : Int) < t.gr.length := by omega
     have HE : Hid ((A2 ++ (t.gr.take g).flatMap fg) ++ ([] ++ ef (ak t.gr g 0) ++ ef (ak t.gr g 1)) = A2 ++ (t.gr.take (g + 1)).flatMap fg) := Lib.hid (by
      rw [List.take_add_one, List.getElem?_eq_getElem hlt, List.flatMap_append, List.append_assoc]
      unfold ak fg
      rw [List.getElem?_eq_getElem hlt]
      simp)
     generalize hA3 : A2 ++ (t.gr.take g).flatMap fg = A3 at *
     clear hA3 hB1 hN1
     go_wp2
     obtain ⟨gb, goff, rfl, hgb, hgc⟩ := HRG.out.resolve_left (by omega)
     have HGC : Hid (∀ k, k < 2 → w.cell? ⟨gb, goff + g * 2 + k, none⟩ = some (.slice (H g k).1 (ak t.gr g k).length (H g k).2)) := Lib.hid fun k hk => hgc g hlt k hk
     clear hgc
     go_loopw [3, 7] (fun bv i wr => ∃ k : Nat, k ≤ 2 ∧ i = .int .i64 k ∧ BoS w T (A3 ++ (List.range k).flatMap fun q => ef (ak t.gr g q)) wr bv) (fun _ i _ => 2 - (intOf i).toNat)
     case atStart => exact ⟨0, by omega, rfl, by simpa using hS⟩
     case round =>
      clear hS iTb
      obtain ⟨k, hk, rfl, hS⟩ := hrel
      obtain ⟨aa2, cc2, rfl, hB1, hN1⟩ := hS.rd
      have hS := BoS.mk hS.bel hS.blk (⟨aa2, cc2, rfl, hB1, hN1⟩ : ug wr _ _)
      haveI iTb := hS.blk
      haveI : LeSize w.heap.size wr := ⟨hS.bel.size⟩
      by_cases hk2 : k < 2
      ·have hkI : (k : Int) < 2 := by omega
       have hck : wr.cell? ⟨gb, goff + g * 2 + k, none⟩ = some (.slice (H g k).1 (ak t.gr g k).length (H g k).2) := by
        rw [hS.bel.cell (p := ⟨gb, goff + g * 2 + k, none⟩) hgb]; exact HGC.out k hk2
       haveI : LeSize (gb + 1) wr := ⟨Nat.le_trans hgb hS.bel.size⟩
       haveI : LeSize (w.heap.size + 1) wr := ⟨(Array.getElem?_eq_some_iff.1 iTb.out).1⟩
       have hin := HRI.out g hlt k hk2
       have hrl := HBD.out.lr g k
       have hlen2 : (A3 ++ (List.range k).flatMap fun q => ef (ak t.gr g q)).length ≤ 500 := by
        have := pc (fun q => ef (ak t.gr g q)) 9 (List.range k) (fun q _ => by rw [gy]; have := HBD.out.lr g q; omega)
        rw [List.length_range] at this
        rw [List.length_append]; omega
       have HEk : Hid ((A3 ++ (List.range k).flatMap fun q => ef (ak t.gr g q)) ++ ef (ak t.gr g k) = A3 ++ (List.range (k + 1)).flatMap fun q => ef (ak t.gr g q)) := Lib.hid (by
        rw [List.range_succ, List.flatMap_append, List.append_assoc]; simp)
       generalize (A3 ++ (List.range k).flatMap fun q => ef (ak t.gr g q)) = A4 at *
       generalize (H g k).1 = hd at *
       generalize (H g k).2 = hdc at *
       generalize ak t.gr g k = row at *
       clear hB1 hN1
       have P1 := hS.put (by omega) 1 (by omega) (row.length : Int)
       go_wp2
       refine dr (fun w' => ∃ u : Up wr, w' = u.w) [0, 1, 2, 3, 4, 5, 6, 7, 8, 10, 11, 12, 13, 14, 15, 16] [9, 17, 18] 18 (by kernel_rfl) (by kernel_rfl) (by intro d v c a w h; cases d <;> exact h) ⟨⟨_, (Below.refl _ _).drew⟩, rfl⟩ ?_
       simp only [bD, List.filterMap_cons, List.filterMap_nil, List.getElem?_cons_succ, List.getElem?_cons_zero]
       iterate 16 (apply Exists.intro; refine ⟨Or.inl ⟨rfl, fun w hS => ?_⟩, ?_⟩; (focus (obtain ⟨u, rfl⟩ := hS; first | (simp [go_sem, *]; rfl) | (simp [go_sem]; rfl))); simp only [Act.put, List.setIfInBounds_toArray, List.set_cons_succ, List.set_cons_zero])
       refine cP ?_
       have hr9 : Below wr.heap.size wr wr.drew := (Below.refl _ _).drew
       generalize wr.drew = W9 at *
       refine ay rfl (fun K hK => ?_)
       go_wp2_with fail
       go_at_call 38
       refine (P1.out _ hr9).mono ?_
       rintro e wA ⟨vA, rfl, hoA, hbA⟩
       have hbAc := ym hr9 hbA
       have hSA := hS.step hbAc hoA
       have hinA : bQ wA hd row := bk.below hin hSA.bel (Nat.le_refl _)
       clear P1
       have P2 := hSA.puts (by rw [List.length_append, aA]; omega) 1 (by omega) row (by omega)
       go_wp2_with fail
       rw [cN]
       refine hK _ _ (fun _ => iE hbAc) ?_
       clear hK K
       refine ay rfl (fun K hK => ?_)
       go_wp2_with fail
       go_at_call 90
       refine (P2.out _ _ _ (Below.refl _ _) hinA).mono ?_
       rintro e wB ⟨vB, rfl, hoB, hbB⟩
       have hSB := hSA.step hbB hoB
       go_wp2_with fail
       rw [cN]
       refine hK _ _ (fun _ => iE (ym hbAc hbB)) ?_
       clear hK K
       refine ay rfl (fun K hK => ?_)
       go_wp2_with fail
       rw [cN]
       refine hK _ _ (fun h => absurd rfl h) ?_
       unfold cC
       have HE2 := HEk.out
       unfold ef at HE2
       rw [← List.append_assoc] at HE2
       rw [HE2] at hSB
       go_wp2
       go_roundw
       case rel => exact ⟨k + 1, by omega, by go_num, hSB⟩
       case measure => simp [intOf]; omega
      ·obtain rfl : k = 2 := by omega
       have hSg := hS.eq (acc' := A2 ++ (t.gr.take (g + 1)).flatMap fg) (by rw [← HE.out]; simp [List.range_succ])
       clear hS iTb hB1 hN1
       go_wp2
       go_roundw
       case rel => exact ⟨g + 1, by omega, by go_num, hSg⟩
       case measure => simp [intOf]; omega
    ·obtain rfl : g = t.gr.length := by omega
     have hSg := hS.eq (acc' := A2 ++ t.gr.flatMap fg) (by rw [List.take_length])
     have lA3 : (A2 ++ t.gr.flatMap fg).length ≤ 400 := by rwa [List.take_length] at hlen
     clear hS iTb hB1 hN1 hlen
     generalize (A2 ++ (t.gr.take t.gr.length).flatMap fg).length = n5 at *
     generalize hA5 : A2 ++ t.gr.flatMap fg = A5 at *
     have HA5 := Lib.hid hA5
     clear hA5
     haveI iTb := hSg.blk
     haveI : LeSize w.heap.size wr := ⟨hSg.bel.size⟩
     haveI : LeSize (w.heap.size + 1) wr := ⟨(Array.getElem?_eq_some_iff.1 iTb.out).1⟩
     have lde := HBD.out.ld
     have hCF : bQ wr (some ⟨w.heap.size, 105, none⟩) ((List.range 8).map t.cf) := abb iTb HT.out.cf
     have lCL : ((List.range 8).map t.cf).length = 8 := by simp
     generalize hCL : (List.range 8).map t.cf = CL at *
     have HCL := Lib.hid hCL
     clear hCL
     have P1 := hSg.puts (by omega) 1 (by omega) CL (by omega)
     rw [lCL] at P1
     go_wp2
     refine dr (fun w' => ∃ u : Up wr, w' = u.w) [0, 1, 2, 4, 5, 6] [3, 7, 8] 8 (by kernel_rfl) (by kernel_rfl) (by intro d v c a w h; cases d <;> exact h) ⟨⟨_, (Below.refl _ _).drew⟩, rfl⟩ ?_
     simp only [bD, List.filterMap_cons, List.filterMap_nil, List.getElem?_cons_succ, List.getElem?_cons_zero]
     iterate 6 (apply Exists.intro; refine ⟨Or.inl ⟨rfl, fun w hS => ?_⟩, ?_⟩; (focus (obtain ⟨u, rfl⟩ := hS; first | (simp [go_sem, *]; rfl) | (simp [go_sem]; rfl))); simp only [Act.put, List.setIfInBounds_toArray, List.set_cons_succ, List.set_cons_zero])
     refine cP ?_
     have hr9 : Below wr.heap.size wr wr.drew := (Below.refl _ _).drew
     generalize wr.drew = W9 at *
     have hCF9 : bQ W9 (some ⟨w.heap.size, 105, none⟩) CL := bk.below hCF hr9 (Nat.le_refl _)
     clear hCF lCL
     refine ay rfl (fun K hK => ?_)
     go_wp2_with fail
     go_at_call 90
     refine (P1.out _ _ _ hr9 hCF9).mono ?_
     rintro e wA ⟨vA, rfl, hoA, hbA⟩
     have hbAc := ym hr9 hbA
     have hSA := hSg.step hbAc hoA
     go_wp2_with fail
     rw [cN]
     refine hK _ _ (fun _ => iE hbAc) ?_
     clear hK K P1
     have lA6 : (A5 ++ CL.flatMap (an 1)).length ≤ 420 := by rw [List.length_append, yM]; have := HCL.out; rw [← this]; simp; omega
     generalize hA6 : A5 ++ CL.flatMap (an 1) = A6 at *
     have HA6 := Lib.hid hA6
     clear hA6
     have P2 := hSA.put (by omega) 1 (by omega) (t.de.length : Int)
     refine ay rfl (fun K hK => ?_)
     go_wp2_with fail
     go_at_call 38
     refine (P2.out _ (Below.refl _ _)).mono ?_
     rintro e wB ⟨vB, rfl, hoB, hbB⟩
     have hSB := hSA.step hbB hoB
     go_wp2_with fail
     rw [cN]
     refine hK _ _ (fun _ => iE (ym hbAc hbB)) ?_
     clear hK K P2
     refine ay rfl (fun K hK => ?_)
     go_wp2_with fail
     rw [cN]
     refine hK _ _ (fun h => absurd rfl h) ?_
     unfold cC
     have lA7 : (A6 ++ an 1 (t.de.length : Int)).length ≤ 430 := by rw [List.length_append, aA]; omega
     generalize hA7 : A6 ++ an 1 (t.de.length : Int) = A7 at *
     have HA7 := Lib.hid hA7
     clear hA7 hSA hSg hoA hoB hbAc hbA hbB hr9 hCF9 iTb lA6 lA3
     go_wp2
     go_loopw [3, 8] (fun bv i wr => ∃ n : Nat, n ≤ t.de.length ∧ i = .int .i64 n ∧ BoS w T (A7 ++ (t.de.take n).flatMap et) wr bv) (fun _ i _ => t.de.length - (intOf i).toNat)
     case atStart => exact ⟨0, by omega, rfl, by simpa using hSB⟩
     case round =>
      clear hSB
      obtain ⟨n, hn, rfl, hS⟩ := hrel
      obtain ⟨aa3, cc3, rfl, hB1, hN1⟩ := hS.rd
      have hS := BoS.mk hS.bel hS.blk (⟨aa3, cc3, rfl, hB1, hN1⟩ : ug wr _ _)
      have hlen : (A7 ++ (t.de.take n).flatMap et).length ≤ 3000 := by
       have := pc et 37 (t.de.take n) (fun x _ => by rw [kG]; exact Nat.le_refl _)
       rw [List.length_take] at this
       rw [List.length_append]; omega
      haveI iTb := hS.blk
      haveI : LeSize w.heap.size wr := ⟨hS.bel.size⟩
      by_cases hlt : n < t.de.length
      ·have hnI : (n : Int) < t.de.length := by omega
       have HE : Hid ((A7 ++ (t.de.take n).flatMap et) ++ et t.de[n] = A7 ++ (t.de.take (n + 1)).flatMap et) := Lib.hid (by
        rw [List.take_add_one, List.getElem?_eq_getElem hlt, List.flatMap_append, List.append_assoc]; simp)
       obtain ⟨gb, goff, rfl, hgb, hgc⟩ := HRD.out.resolve_left (by omega)
       have hd : t.de[n]? = some t.de[n] := List.getElem?_eq_getElem hlt
       have ck : ∀ j, j < 7 → wr.cell? ⟨gb, goff + n * 7 + j, none⟩ = some (((aQ t.de[n])[j]?).getD undef) := fun j hj => by
        rw [hS.bel.cell (p := ⟨gb, goff + n * 7 + j, none⟩) hgb, hgc n hlt j hj]; unfold aF; rw [hd]; rfl
       generalize t.de[n] = d at *
       generalize A7 ++ (t.de.take n).flatMap et = A8 at *
       generalize hn8 : A8.length = n8 at *
       have HN8 := Lib.hid hn8
       clear hn8
       have x0 := ck 0 (by omega)
       have x1 := ck 1 (by omega)
       have x2 := ck 2 (by omega)
       have x3 := ck 3 (by omega)
       have x4 := ck 4 (by omega)
       have x5 := ck 5 (by omega)
       have x6 := ck 6 (by omega)
       simp only [aQ, Nat.add_zero, List.getElem?_cons_zero, List.getElem?_cons_succ, Option.getD_some] at x0 x1 x2 x3 x4 x5 x6
       clear ck hgc hd hB1 hN1
       go_upto_region 22 with fail
       refine eQ (fun W' => Below wr.heap.size wr W' ∧ IsBlk W' wr.heap.size #[.int .i64 d.ph, .float .f64 d.on, .float .f64 d.off, .float .f64 d.dl, .float .f64 d.ex, .int .i64 d.mon, .int .i64 d.mof] 58) ⟨by exact yd, inferInstance⟩ ?_
       rintro W5 ⟨h5, i5⟩
       have hS5 := hS.step h5 (hS.rd.below h5)
       have l5 : LeSize (wr.heap.size + 1) W5 := ⟨(Array.getElem?_eq_some_iff.1 i5.out).1⟩
       have hal : A8.length ≤ 3000 := by rw [HN8.out]; omega
       clear hS iTb x0 x1 x2 x3 x4 x5 x6
       haveI : LeSize w.heap.size W5 := ⟨hS5.bel.size⟩
       have P1 := hS5.put (by omega) 1 (by omega) d.ph
       refine dr (fun w' => ∃ u : Up W5, w' = u.w) [0, 1, 2, 4, 5, 7, 8, 10, 11, 13, 14] [3, 6, 9, 12, 15, 16] 16 (by kernel_rfl) (by kernel_rfl) (by intro d v c a w h; cases d <;> exact h) ⟨⟨_, (Below.refl _ _).drew⟩, rfl⟩ ?_
       simp only [bD, List.filterMap_cons, List.filterMap_nil, List.getElem?_cons_succ, List.getElem?_cons_zero]
       iterate 11 (apply Exists.intro; refine ⟨Or.inl ⟨rfl, fun w hS => ?_⟩, ?_⟩; (focus (obtain ⟨u, rfl⟩ := hS; first | (simp [go_sem, *]; rfl) | (simp [go_sem]; rfl))); simp only [Act.put, List.setIfInBounds_toArray, List.set_cons_succ, List.set_cons_zero])
       refine cP ?_
       have hr9 : Below W5.heap.size W5 W5.drew := (Below.refl _ _).drew
       generalize W5.drew = W9 at *
       refine ay rfl (fun K hK => ?_)
       go_wp2_with fail
       go_at_call 38
       refine (P1.out _ hr9).mono ?_
       rintro e y1 ⟨z1, rfl, ho1, hb1⟩
       have hc1 := ym hr9 hb1
       have hT1 := hS5.step hc1 ho1
       go_wp2_with fail
       rw [cN]
       refine hK _ _ (fun _ => iE hc1) ?_
       clear hK K P1
       have P2 := hT1.putf (by simp only [List.length_append, aA]; omega) d.on
       refine ay rfl (fun K hK => ?_)
       go_wp2_with fail
       go_at_call 91
       refine (P2.out _ (Below.refl _ _)).mono ?_
       rintro e y2 ⟨z2, rfl, ho2, hb2⟩
       have hc2 := ym hc1 hb2
       have hT2 := hT1.step hb2 ho2
       go_wp2_with fail
       rw [cN]
       refine hK _ _ (fun _ => iE hc2) ?_
       clear hK K P2
       have P3 := hT2.putf (by simp only [List.length_append, aA, zd]; omega) d.off
       refine ay rfl (fun K hK => ?_)
       go_wp2_with fail
       go_at_call 91
       refine (P3.out _ (Below.refl _ _)).mono ?_
       rintro e y3 ⟨z3, rfl, ho3, hb3⟩
       have hc3 := ym hc2 hb3
       have hT3 := hT2.step hb3 ho3
       go_wp2_with fail
       rw [cN]
       refine hK _ _ (fun _ => iE hc3) ?_
       clear hK K P3
       have P4 := hT3.putf (by simp only [List.length_append, aA, zd]; omega) d.dl
       refine ay rfl (fun K hK => ?_)
       go_wp2_with fail
       go_at_call 91
       refine (P4.out _ (Below.refl _ _)).mono ?_
       rintro e y4 ⟨z4, rfl, ho4, hb4⟩
       have hc4 := ym hc3 hb4
       have hT4 := hT3.step hb4 ho4
       go_wp2_with fail
       rw [cN]
       refine hK _ _ (fun _ => iE hc4) ?_
       clear hK K P4
       have P5 := hT4.putf (by simp only [List.length_append, aA, zd]; omega) d.ex
       refine ay rfl (fun K hK => ?_)
       go_wp2_with fail
       go_at_call 91
       refine (P5.out _ (Below.refl _ _)).mono ?_
       rintro e y5 ⟨z5, rfl, ho5, hb5⟩
       have hc5 := ym hc4 hb5
       have hT5 := hT4.step hb5 ho5
       go_wp2_with fail
       rw [cN]
       refine hK _ _ (fun _ => iE hc5) ?_
       clear hK K P5
       refine ay rfl (fun K hK => ?_)
       go_wp2_with fail
       rw [cN]
       refine hK _ _ (fun h => absurd rfl h) ?_
       unfold cC
       have i6 := zx i5 hc5
       have l6 : LeSize (wr.heap.size + 1) y5 := ⟨Nat.le_trans l5.out hc5.size⟩
       haveI : LeSize w.heap.size y5 := ⟨hT5.bel.size⟩
       have P6 := hT5.puts (by simp only [List.length_append, aA, zd]; omega) 2 (by omega) [d.mon, d.mof] (by simp)
       clear hT1 hT2 hT3 hT4 i5 l5 hS5 h5 hc1 hc2 hc3 hc4 hc5 hb1 hb2 hb3 hb4 hb5 ho1 ho2 ho3 ho4 ho5 hr9
       go_wp2_with (first | (go_at_call 90; refine (P6.out _ _ _ ?_ (cU _ (by simp) rfl)).mono ?_; (focus exact yd); rintro e y6 ⟨z6, rfl, ho6, hb6⟩))
       have hb6c := ym (cur := y5) (by exact yd) hb6
       have hS6 := (hT5.step hb6c ho6).eq (acc' := A7 ++ (t.de.take (n + 1)).flatMap et) (by rw [← HE.out]; simp [et, List.append_assoc])
       go_roundw
       case rel => exact ⟨n + 1, by omega, by go_num, hS6⟩
       case measure => simp [intOf]; omega
      ·obtain rfl : n = t.de.length := by omega
       have hSd := hS.eq (acc' := A7 ++ t.de.flatMap et) (by rw [List.take_length])
       have lA8 : (A7 ++ t.de.flatMap et).length ≤ 3000 := by rwa [List.take_length] at hlen
       clear hS iTb hB1 hN1 hlen
       generalize (A7 ++ (t.de.take t.de.length).flatMap et).length = n6 at *
       generalize hA9 : A7 ++ t.de.flatMap et = A9 at *
       have HA9 := Lib.hid hA9
       clear hA9
       haveI iTb := hSd.blk
       haveI : LeSize w.heap.size wr := ⟨hSd.bel.size⟩
       have lra := HBD.out.la
       have P1 := hSd.put (by omega) 1 (by omega) (t.ra.length : Int)
       go_upto_region 25 with (first | (go_at_call 38; refine (P1.out _ (by exact yd)).mono ?_; rintro e w9 ⟨v9, rfl, ho9, hb9⟩))
       have hS9 := hSd.step hb9 ho9
       clear P1 hSd iTb hb9 ho9
       have lAa : (A9 ++ an 1 (t.ra.length : Int)).length ≤ 3010 := by rw [List.length_append, aA]; omega
       generalize hAa : A9 ++ an 1 (t.ra.length : Int) = Aa at *
       have HAa := Lib.hid hAa
       clear hAa lA8
       go_wp2
       go_loopw [3, 10] (fun bv i wr => ∃ n : Nat, n ≤ t.ra.length ∧ i = .int .i64 n ∧ BoS w T (Aa ++ (t.ra.take n).flatMap eu) wr bv) (fun _ i _ => t.ra.length - (intOf i).toNat)
       case atStart => exact ⟨0, by omega, rfl, by simpa using hS9⟩
       case round =>
        clear hS9
        obtain ⟨n, hn, rfl, hS⟩ := hrel
        obtain ⟨aa4, cc4, rfl, hB1, hN1⟩ := hS.rd
        have hS := BoS.mk hS.bel hS.blk (⟨aa4, cc4, rfl, hB1, hN1⟩ : ug wr _ _)
        have hlen : (Aa ++ (t.ra.take n).flatMap eu).length ≤ 5000 := by
         have := pc eu 20 (t.ra.take n) (fun x _ => by rw [lh]; exact Nat.le_refl _)
         rw [List.length_take] at this
         rw [List.length_append]; omega
        haveI iTb := hS.blk
        haveI : LeSize w.heap.size wr := ⟨hS.bel.size⟩
        by_cases hlt : n < t.ra.length
        ·have hnI : (n : Int) < t.ra.length := by omega
         have HE : Hid ((Aa ++ (t.ra.take n).flatMap eu) ++ eu t.ra[n] = Aa ++ (t.ra.take (n + 1)).flatMap eu) := Lib.hid (by
          rw [List.take_add_one, List.getElem?_eq_getElem hlt, List.flatMap_append, List.append_assoc]; simp)
         obtain ⟨gb, goff, rfl, hgb, hgc⟩ := HRX.out.resolve_left (by omega)
         have hd : t.ra[n]? = some t.ra[n] := List.getElem?_eq_getElem hlt
         have ck : ∀ j, j < 11 → wr.cell? ⟨gb, goff + n * 11 + j, none⟩ = some (((dq t.ra[n])[j]?).getD undef) := fun j hj => by
          rw [hS.bel.cell (p := ⟨gb, goff + n * 11 + j, none⟩) hgb, hgc n hlt j hj]; unfold aF; rw [hd]; rfl
         generalize t.ra[n] = d at *
         generalize Aa ++ (t.ra.take n).flatMap eu = A8 at *
         generalize hn8 : A8.length = n8 at *
         have HN8 := Lib.hid hn8
         clear hn8
         have x0 := ck 0 (by omega)
         have x1 := ck 1 (by omega)
         have x2 := ck 2 (by omega)
         have x3 := ck 3 (by omega)
         have x4 := ck 4 (by omega)
         have x5 := ck 5 (by omega)
         have x6 := ck 6 (by omega)
         have x7 := ck 7 (by omega)
         have x8 := ck 8 (by omega)
         have x9 := ck 9 (by omega)
         have x10 := ck 10 (by omega)
         simp only [dq, Nat.add_zero, List.getElem?_cons_zero, List.getElem?_cons_succ, Option.getD_some] at x0 x1 x2 x3 x4 x5 x6 x7 x8 x9 x10
         clear ck hgc hd hB1 hN1
         go_upto_region 29 with fail
         refine eQ (fun W' => Below wr.heap.size wr W' ∧ IsBlk W' wr.heap.size #[.int .i64 d.bars, .int .i64 d.clr, .int .i64 d.dwl, .int .i64 d.ext, .int .i64 d.dly, .int .i64 d.grn, .int .i64 d.foot, .int .i64 d.hold, .int .i64 d.stay, .int .i64 d.most, .int .i64 d.lim] 100) ⟨by exact yd, inferInstance⟩ ?_
         rintro W5 ⟨h5, i5⟩
         have hS5 := hS.step h5 (hS.rd.below h5)
         have l5 : LeSize (wr.heap.size + 1) W5 := ⟨(Array.getElem?_eq_some_iff.1 i5.out).1⟩
         have hal : A8.length ≤ 5000 := by rw [HN8.out]; omega
         clear hS iTb x0 x1 x2 x3 x4 x5 x6 x7 x8 x9 x10
         haveI : LeSize w.heap.size W5 := ⟨hS5.bel.size⟩
         have P1 := hS5.puts (by omega) 1 (by omega) [d.bars, d.clr, d.dwl, d.ext] (by simp)
         go_upto_region 30 with (first | (go_at_call 90; refine (P1.out _ _ _ ?_ (cU _ (by simp) rfl)).mono ?_; (focus exact yd); rintro e y1 ⟨z1, rfl, ho1, hb1⟩))
         have hc1 := ym (cur := W5) (by exact yd) hb1
         have hT1 := hS5.step hc1 ho1
         have i6 := zx i5 hc1
         have l6 : LeSize (wr.heap.size + 1) y1 := ⟨Nat.le_trans l5.out hc1.size⟩
         haveI : LeSize w.heap.size y1 := ⟨hT1.bel.size⟩
         clear P1 hS5 hb1 ho1 i5 l5 h5
         have P2 := hT1.puts (by simp only [List.length_append, yM, List.length_cons, List.length_nil]; omega) 2 (by omega) [d.dly, d.grn, d.foot, d.hold, d.stay, d.most] (by simp)
         go_upto_region 31 with (first | (go_at_call 90; refine (P2.out _ _ _ ?_ (cU _ (by simp) rfl)).mono ?_; (focus exact yd); rintro e y2 ⟨z2, rfl, ho2, hb2⟩))
         have hc2 := ym (cur := y1) (by exact yd) hb2
         have hT2 := hT1.step hc2 ho2
         have i7 := zx i6 hc2
         have l7 : LeSize (wr.heap.size + 1) y2 := ⟨Nat.le_trans l6.out hc2.size⟩
         haveI : LeSize w.heap.size y2 := ⟨hT2.bel.size⟩
         clear P2 hT1 hb2 ho2 i6 l6 hc1
         have P3 := hT2.put (by simp only [List.length_append, yM, List.length_cons, List.length_nil]; omega) 4 (by omega) d.lim
         go_wp2_with (first | (go_at_call 38; refine (P3.out _ (by exact yd)).mono ?_; rintro e y3 ⟨z3, rfl, ho3, hb3⟩))
         have hS6 := (hT2.step hb3 ho3).eq (acc' := Aa ++ (t.ra.take (n + 1)).flatMap eu) (by rw [← HE.out]; simp [eu, List.append_assoc])
         go_roundw
         case rel => exact ⟨n + 1, by omega, by go_num, hS6⟩
         case measure => simp [intOf]; omega
        ·obtain rfl : n = t.ra.length := by omega
         have hSd := hS.eq (acc' := Aa ++ t.ra.flatMap eu) (by rw [List.take_length])
         have lAb : (Aa ++ t.ra.flatMap eu).length ≤ 5000 := by rwa [List.take_length] at hlen
         clear hS iTb hB1 hN1 hlen
         generalize (Aa ++ (t.ra.take t.ra.length).flatMap eu).length = n7 at *
         generalize hAb : Aa ++ t.ra.flatMap eu = Ab at *
         have HAb := Lib.hid hAb
         clear hAb
         haveI iTb := hSd.blk
         haveI : LeSize w.heap.size wr := ⟨hSd.bel.size⟩
         have lbu := HBD.out.lb
         have P1 := hSd.put (by omega) 1 (by omega) (t.bu.length : Int)
         go_upto_region 33 with (first | (go_at_call 38; refine (P1.out _ (by exact yd)).mono ?_; rintro e w9 ⟨v9, rfl, ho9, hb9⟩))
         have hS9 := hSd.step hb9 ho9
         clear P1 hSd iTb hb9 ho9
         have lAc : (Ab ++ an 1 (t.bu.length : Int)).length ≤ 5010 := by rw [List.length_append, aA]; omega
         generalize hAc : Ab ++ an 1 (t.bu.length : Int) = Ac at *
         have HAc := Lib.hid hAc
         clear hAc lAb
         go_wp2
         go_loopw [3, 12] (fun bv i wr => ∃ n : Nat, n ≤ t.bu.length ∧ i = .int .i64 n ∧ BoS w T (Ac ++ (t.bu.take n).flatMap fd) wr bv) (fun _ i _ => t.bu.length - (intOf i).toNat)
         case atStart => exact ⟨0, by omega, rfl, by simpa using hS9⟩
         case round =>
          clear hS9
          obtain ⟨n, hn, rfl, hS⟩ := hrel
          obtain ⟨aa5, cc5, rfl, hB1, hN1⟩ := hS.rd
          have hS := BoS.mk hS.bel hS.blk (⟨aa5, cc5, rfl, hB1, hN1⟩ : ug wr _ _)
          have hlen : (Ac ++ (t.bu.take n).flatMap fd).length ≤ 6000 := by
           have := pc fd 3 (t.bu.take n) (fun x _ => by rw [lu]; exact Nat.le_refl _)
           rw [List.length_take] at this
           rw [List.length_append]; omega
          haveI iTb := hS.blk
          haveI : LeSize w.heap.size wr := ⟨hS.bel.size⟩
          by_cases hlt : n < t.bu.length
          ·have hnI : (n : Int) < t.bu.length := by omega
           have HE : Hid ((Ac ++ (t.bu.take n).flatMap fd) ++ fd t.bu[n] = Ac ++ (t.bu.take (n + 1)).flatMap fd) := Lib.hid (by
            rw [List.take_add_one, List.getElem?_eq_getElem hlt, List.flatMap_append, List.append_assoc]; simp)
           obtain ⟨gb, goff, rfl, hgb, hgc⟩ := HRB.out.resolve_left (by omega)
           have hd : t.bu[n]? = some t.bu[n] := List.getElem?_eq_getElem hlt
           have ck : ∀ j, j < 2 → wr.cell? ⟨gb, goff + n * 2 + j, none⟩ = some (((dm t.bu[n])[j]?).getD undef) := fun j hj => by
            rw [hS.bel.cell (p := ⟨gb, goff + n * 2 + j, none⟩) hgb, hgc n hlt j hj]; unfold aF; rw [hd]; rfl
           generalize t.bu[n] = d at *
           generalize Ac ++ (t.bu.take n).flatMap fd = A8 at *
           generalize hn8 : A8.length = n8 at *
           have HN8 := Lib.hid hn8
           clear hn8
           have x0 := ck 0 (by omega)
           have x1 := ck 1 (by omega)
           simp only [dm, Nat.add_zero, List.getElem?_cons_zero, List.getElem?_cons_succ, Option.getD_some] at x0 x1
           clear ck hgc hd hB1 hN1
           have hal : A8.length ≤ 6000 := by rw [HN8.out]; omega
           haveI : LeSize (gb + 1) wr := ⟨Nat.le_trans hgb hS.bel.size⟩
           haveI : LeSize (w.heap.size + 1) wr := ⟨(Array.getElem?_eq_some_iff.1 iTb.out).1⟩
           have P1 := hS.put (by omega) 1 (by omega) d.set
           go_wp2
           refine dr (fun w' => ∃ u : Up wr, w' = u.w) [0, 1, 2, 3, 4, 5, 6, 8, 9, 10, 11, 12, 13] [7, 14, 15] 15 (by kernel_rfl) (by kernel_rfl) (by intro d v c a w h; cases d <;> exact h) ⟨⟨_, (Below.refl _ _).drew⟩, rfl⟩ ?_
           simp only [bD, List.filterMap_cons, List.filterMap_nil, List.getElem?_cons_succ, List.getElem?_cons_zero]
           iterate 13 (apply Exists.intro; refine ⟨Or.inl ⟨rfl, fun w hS => ?_⟩, ?_⟩; (focus (obtain ⟨u, rfl⟩ := hS; first | (simp [go_sem, *]; rfl) | (simp [go_sem]; rfl))); simp only [Act.put, List.setIfInBounds_toArray, List.set_cons_succ, List.set_cons_zero])
           refine cP ?_
           have hr9 : Below wr.heap.size wr wr.drew := (Below.refl _ _).drew
           generalize wr.drew = W9 at *
           refine ay rfl (fun K hK => ?_)
           go_wp2_with fail
           go_at_call 38
           refine (P1.out _ hr9).mono ?_
           rintro e wA ⟨vA, rfl, hoA, hbA⟩
           have hbAc := ym hr9 hbA
           have hSA := hS.step hbAc hoA
           clear P1
           have P2 := hSA.put (by rw [List.length_append, aA]; omega) 2 (by omega) d.lock
           go_wp2_with fail
           rw [cN]
           refine hK _ _ (fun _ => iE hbAc) ?_
           clear hK K
           refine ay rfl (fun K hK => ?_)
           go_wp2_with fail
           go_at_call 38
           refine (P2.out _ (Below.refl _ _)).mono ?_
           rintro e wB ⟨vB, rfl, hoB, hbB⟩
           have hSB := (hSA.step hbB hoB).eq (acc' := Ac ++ (t.bu.take (n + 1)).flatMap fd) (by rw [← HE.out]; simp [fd, List.append_assoc])
           go_wp2_with fail
           rw [cN]
           refine hK _ _ (fun _ => iE (ym hbAc hbB)) ?_
           clear hK K
           refine ay rfl (fun K hK => ?_)
           go_wp2_with fail
           rw [cN]
           refine hK _ _ (fun h => absurd rfl h) ?_
           unfold cC
           go_wp2
           go_roundw
           case rel => exact ⟨n + 1, by omega, by go_num, hSB⟩
           case measure => simp [intOf]; omega
          ·obtain rfl : n = t.bu.length := by omega
           have hSd := hS.eq (acc' := Ac ++ t.bu.flatMap fd) (by rw [List.take_length])
           have lAd : (Ac ++ t.bu.flatMap fd).length ≤ 6000 := by rwa [List.take_length] at hlen
           clear hS iTb hB1 hN1 hlen
           generalize (Ac ++ (t.bu.take t.bu.length).flatMap fd).length = n9 at *
           generalize hAd : Ac ++ t.bu.flatMap fd = Ad at *
           have HAd := Lib.hid hAd
           clear hAd
           haveI iTb := hSd.blk
           haveI : LeSize w.heap.size wr := ⟨hSd.bel.size⟩
           haveI : LeSize (w.heap.size + 1) wr := ⟨(Array.getElem?_eq_some_iff.1 iTb.out).1⟩
           have P1 := hSd.puts (by omega) 2 (by omega) [t.ext, t.bud, t.start, t.rev, t.least] (by simp)
           go_upto_region 38 with (first | (go_at_call 90; refine (P1.out _ _ _ ?_ (cU _ (by simp) rfl)).mono ?_; (focus exact yd); rintro e y1 ⟨z1, rfl, ho1, hb1⟩))
           have hc1 := ym (cur := wr) (by exact yd) hb1
           have hT1 := hSd.step hc1 ho1
           haveI iT1 := hT1.blk
           haveI : LeSize w.heap.size y1 := ⟨hT1.bel.size⟩
           haveI : LeSize (w.heap.size + 1) y1 := ⟨(Array.getElem?_eq_some_iff.1 iT1.out).1⟩
           clear P1 hSd hb1 ho1 iTb
           have hFL : bQ y1 (some ⟨w.heap.size, 121, none⟩) ((List.range 8).map t.fl) := abb iT1 HT.out.fl
           have lFL : ((List.range 8).map t.fl).length = 8 := by simp
           generalize hFLe : (List.range 8).map t.fl = FL at *
           have HFL := Lib.hid hFLe
           clear hFLe
           have P2 := hT1.puts (by simp only [List.length_append, yM, List.length_cons, List.length_nil]; omega) 1 (by omega) FL (by omega)
           rw [lFL] at P2
           go_upto_region 39 with (first | (go_at_call 90; refine (P2.out _ _ _ (Below.refl _ _) hFL).mono ?_; rintro e y2 ⟨z2, rfl, ho2, hb2⟩))
           have hT2 := hT1.step hb2 ho2
           have lAe : (Ad ++ [t.ext, t.bud, t.start, t.rev, t.least].flatMap (an 2) ++ FL.flatMap (an 1)).length ≤ 7000 := by
            simp only [List.length_append, yM, List.length_cons, List.length_nil, lFL]; omega
           haveI iT2 := hT2.blk
           haveI : LeSize w.heap.size y2 := ⟨hT2.bel.size⟩
           have hfin : Hid (∀ W, Below y2.heap.size y2 W → ∀ b c, bQ W b [t.win, t.share] → Calls Tryz.prog 90 #[z2, .int .i64 (4 : Nat), .slice b [t.win, t.share].length c] W fun e w' => ∃ v', e = .returned v' ∧ yn w' w.heap.size v' (dw t) ∧ Below W.heap.size W w') := Lib.hid fun W hW b c hi => by
            refine (aeI 4 b c [t.win, t.share] W (by omega) (by simp) (by omega) (hT2.rd.below hW) hi (by simp)).mono ?_
            rintro e w' ⟨v', rfl, ho, hb⟩
            refine ⟨v', rfl, ?_, hb⟩
            have e2 : Ad ++ [t.ext, t.bud, t.start, t.rev, t.least].flatMap (an 2) ++ FL.flatMap (an 1) ++ [t.win, t.share].flatMap (an 4) = dw t := by
             rw [← HAd.out, ← HAc.out, ← HAb.out, ← HAa.out, ← HA9.out, ← HA7.out, ← HA6.out, ← HA5.out, ← HA2.out, ← HA1.out, ← HFL.out, ← HCL.out]
             unfold dw
             simp only [List.flatMap_map, List.append_assoc]
            rw [← e2]
            exact ho.less (Nat.le_trans hT2.bel.size hW.size)
           clear P2 hT1 hb2 ho2 iT1 hc1 hFL
           go_wp2_with (first | (go_at_call 90; refine (hfin.out _ ?_ _ _ (cU _ (by simp) rfl)).mono ?_; (focus exact yd); rintro e y3 ⟨z3, rfl, ho3, hb3⟩))
           have hb3c := ym (cur := y2) (by exact yd) hb3
           go_ret
           exact ⟨_, rfl, ho3, hT2.bel.trans (hb3c.mono hT2.bel.size)⟩
end
end Go.Proofs.YtodgfjgljcinlaaGreat
