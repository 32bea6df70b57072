/- Part Qi of the proof: ChA, ChB, ChC, ChD, ChE, ChF, ChG. -/
import Derived.Test.YtodgfjgljcinlaaGreatQe
import Derived.Test.YtodgfjgljcinlaaGreatQa
import Derived.Test.YtodgfjgljcinlaaGreatQc
import Derived.Sort.BigQuietIn
namespace Go.Proofs.YtodgfjgljcinlaaGreat
set_option maxHeartbeats 8000000
set_option maxRecDepth 100000
set_option linter.unusedVariables false
section
open Go.RowKit Go.Shelf
attribute [local go_sem] IsBlk.cell IsBlk.frozen
def fh (f : Int × Int) : Value := .agg #[.int .i64 f.1, .int .i64 f.2]
theorem aeb (f : Int × Int) : fh f = .agg #[.int .i64 f.1, .int .i64 f.2] := rfl
attribute [go_sem] aeb
theorem dM (c a : Int) (w : World) : Calls Tryz.prog 59 #[.int .i64 c, .int .i64 a] w fun e w' => e = .returned (fh (c, a)) ∧ Below w.heap.size w w' := by
 go_enter Tryz.func59, Tryz.ntmps59
 go_wp2
 go_returns
 exact ⟨rfl, by exact yd⟩
theorem dI (w : World) : Calls Tryz.prog 82 #[] w fun e w' => e = .returned (fh (0, 0)) ∧ Below w.heap.size w w' := by
 go_enter Tryz.func82, Tryz.ntmps82
 go_wp2
 go_returns
 exact ⟨rfl, by exact yd⟩
theorem ow (T : Array Value) (t : Tab) (p q : Nat) (w : World) (hT : ag w T t) (hp : p < 8) (hq : q < 8) :
  Calls Tryz.prog 196 #[.agg T, .int .i64 p, .int .i64 q] w fun e w' => e = .returned (.bool (lK t p q)) ∧ Below w.heap.size w w' := by
 haveI : Sz131 T := ⟨hT.size⟩
 have c1 := hT.cf p hp
 have c2 := hT.cf q hq
 have p1 : (p : Int) < 8 := by omega
 have q1 : (q : Int) < 8 := by omega
 unfold lK
 simp only [Int.toNat_natCast]
 have H1 : Hid (∀ w, Calls Tryz.prog 63 #[.int .i64 (t.cf p), .int .i64 q] w fun e w' => e = .returned (.bool (aT (t.cf p) q)) ∧ w = w') := Lib.hid fun w => bA _ _ w
 have H2 : Hid (∀ w, Calls Tryz.prog 63 #[.int .i64 (t.cf q), .int .i64 p] w fun e w' => e = .returned (.bool (aT (t.cf q) p)) ∧ w = w') := Lib.hid fun w => bA _ _ w
 generalize aT (t.cf p) q = b1 at *
 generalize aT (t.cf q) p = b2 at *
 generalize t.cf p = cp at *
 generalize t.cf q = cq at *
 clear hT
 go_enter Tryz.func196, Tryz.ntmps196
 cases b1
 ·go_wp2_with (first | ((with_reducible refine (H1.out _).mono ?_); rintro e w' ⟨rfl, rfl⟩) | ((with_reducible refine (H2.out _).mono ?_); rintro e w' ⟨rfl, rfl⟩))
  go_ret
  exact ⟨rfl, by exact yd⟩
 ·go_wp2_with (first | ((with_reducible refine (H1.out _).mono ?_); rintro e w' ⟨rfl, rfl⟩) | ((with_reducible refine (H2.out _).mono ?_); rintro e w' ⟨rfl, rfl⟩))
  go_ret
  exact ⟨rfl, by exact yd⟩
theorem oo (p : Phs) (w : World) : Calls Tryz.prog 66 #[fO p] w fun e w' => e = .returned (.bool (gW p)) ∧ Below w.heap.size w w' := by
  obtain ⟨on, a1, a2, a3, a4, a5, a6, a7, a8, a9, a10, lk, rs⟩ := p
  unfold fO
  simp only [cy]
  obtain ⟨V, hV⟩ : ∃ V, gW ⟨on, a1, a2, a3, a4, a5, a6, a7, a8, a9, a10, lk, rs⟩ = V := ⟨_, rfl⟩
  have HV := Lib.hid hV
  rw [hV]
  clear hV
  have key : Hid (∀ v : Bool, v = gW ⟨on, a1, a2, a3, a4, a5, a6, a7, a8, a9, a10, lk, rs⟩ → v = V) := Lib.hid fun v h => h.trans HV.out
  go_enter Tryz.func66, Tryz.ntmps66
  go_wp2
  all_goals
    go_ret
    refine ⟨aK (key.out _ ?_), by exact yd⟩
    clear key HV
    unfold gW
    simp only
    first
      | (simp [*]; done)
      | (have e1 : decide (a5 < 1) = false := decide_eq_false (by omega)
         simp [*]; done)
      | (have e1 : decide (a5 < 1) = false := decide_eq_false (by omega)
         have e2 : (a10 == 3) = false := beq_eq_false_iff_ne.2 (by assumption)
         simp [*]; done)
end
section
open Go.RowKit Go.Shelf
attribute [local go_sem] IsBlk.cell IsBlk.frozen
theorem nY {code : Int} {n k : Nat} {wrong : Nat → Bool} (h0 : ∀ j, j < k → wrong j = false) (hk : k < n) (h1 : wrong k = true) : bL code n wrong = (code, (k : Int)) := by
 unfold bL
 have : (List.range n).find? wrong = some k := by
  rw [List.find?_range_eq_some]
  exact ⟨h1, by simpa using hk, fun j hj => by rw [h0 j hj]; rfl⟩
 rw [this]
theorem mF {code : Int} {n : Nat} {wrong : Nat → Bool} (h0 : ∀ j, j < n → wrong j = false) : bL code n wrong = (0, 0) := by
 unfold bL
 have : (List.range n).find? wrong = none := by
  rw [List.find?_eq_none]
  intro x hx
  rw [h0 x (by simpa using hx)]; simp
 rw [this]
theorem eX (code : Int) (n : Nat) (g : Nat) (caps : Array Value) (wrong : Nat → Bool) (w : World) (eg : Enters Tryz.prog g) (hn : n ≤ 1000) (hp : ∀ i, i < n → ∀ W, Below w.heap.size w W → Calls Tryz.prog g (#[.int .i64 i] ++ caps) W fun e W' => e = .returned (.bool (wrong i)) ∧ Below W.heap.size W W') :
  Calls Tryz.prog 61 #[.int .i64 code, .int .i64 n, .func (.func g) #[] caps] w fun e w' => e = .returned (fh (bL code n wrong)) ∧ Below w.heap.size w w' := by
 have HP := Lib.hid hp
 have HH : Hid (∀ k, (∀ j, j < k → wrong j = false) → k < n → wrong k = true → bL code n wrong = (code, (k : Int))) := Lib.hid fun k h0 hk h1 => nY h0 hk h1
 have HN : Hid ((∀ j, j < n → wrong j = false) → bL code n wrong = (0, 0)) := Lib.hid mF
 clear hp
 unfold Enters at eg
 obtain ⟨F, hF⟩ : ∃ F, bL code n wrong = F := ⟨_, rfl⟩
 rw [hF] at HH HN ⊢
 clear hF
 go_enter Tryz.func61, Tryz.ntmps61
 go_wp2
 go_loopw [9] (fun i wr => ∃ k : Nat, k ≤ n ∧ i = .int .i64 k ∧ Hid (∀ j, j < k → wrong j = false) ∧ Below w.heap.size w wr ∧ IsBlk wr w.heap.size #[.int .i64 0, .int .i64 0] 37) (fun i _ => n - (intOf i).toNat)
 case atStart => exact ⟨0, Nat.zero_le _, rfl, Lib.hid fun j hj => absurd hj (Nat.not_lt_zero _), by exact yd, inferInstance⟩
 case round =>
  obtain ⟨k, hk, rfl, hN, hb, iB⟩ := hrel
  haveI : LeSize w.heap.size wr := ⟨hb.size⟩
  have lB := iB.le
  by_cases hlt : k < n
  ·have hkI : (k : Int) < n := by omega
   have HC : Hid (Calls Tryz.prog g (#[.int .i64 k] ++ caps) wr fun e W' => e = .returned (.bool (wrong k)) ∧ ∃ u : Up wr, W' = u.w) := Lib.hid (Up.run (HP.out k hlt wr hb))
   have HK : Hid (wrong k = false → ∀ j, j < k + 1 → wrong j = false) := Lib.hid fun h j hj => by
    rcases Nat.lt_succ_iff_lt_or_eq.1 hj with h2 | rfl
    ·exact hN.out j h2
    ·exact h
   have HT : Hid (wrong k = true → F = (code, (k : Int))) := Lib.hid fun h => HH.out k hN.out hlt h
   cases hpz : wrong k
   ·rw [hpz] at HC
    have HK2 := Lib.hid (HK.out hpz)
    clear HK HT
    go_wp2_with (refine HC.out.mono ?_; rintro e w' ⟨rfl, u, rfl⟩)
    go_roundw
    case rel => exact ⟨k + 1, by omega, by go_num, HK2, by exact yd, inferInstance⟩
    case measure => simp [intOf]; omega
   ·rw [hpz] at HC
    have HT2 := Lib.hid (HT.out hpz)
    clear HK HT
    go_wp2_with (first | (go_at_call 59; refine (Up.run (dM _ _ _)).mono ?_; rintro e w' ⟨rfl, u, rfl⟩) | (refine HC.out.mono ?_; rintro e w' ⟨rfl, u, rfl⟩))
    go_returns
    exact ⟨by rw [HT2.out]; rfl, by exact yd⟩
  ·obtain rfl : k = n := by omega
   have HE := Lib.hid (HN.out hN.out)
   go_wp2_with (go_at_call 82; refine (Up.run (dI _)).mono ?_; rintro e w' ⟨rfl, u, rfl⟩)
   go_returns
   exact ⟨by rw [HE.out]; rfl, by exact yd⟩
end
section
open Go.RowKit Go.Shelf
attribute [local go_sem] IsBlk.cell IsBlk.frozen
def yZ (on : Int) (g : Nat) (rest : List (List Int × List Int)) (seen : Int) (rem : List Int) : Int × Int := match pq on seen rem with | none => (8, (g : Int)) | some s => dd on s (g + 1) rest
theorem oN (on : Int) (g : Nat) (rest : List (List Int × List Int)) (seen p : Int) (l : List Int) : yZ on g rest seen (p :: l) = if (!aT on p || aT seen p) = true then (8, (g : Int)) else yZ on g rest (iI seen p) l := by
 unfold yZ
 conv => lhs; unfold pq
 by_cases h : (!aT on p || aT seen p) = true
 ·rw [if_pos h, if_pos h]
 ·rw [if_neg h, if_neg h]
theorem lR (on seen : Int) (g : Nat) (r : List Int × List Int) (l : List (List Int × List Int)) : dd on seen g (r :: l) = if r.1.length + r.2.length = 0 then (8, (g : Int)) else yZ on g l seen (r.1 ++ r.2) := rfl
def gR (r : List Int × List Int) (k : Nat) : List Int := if k = 0 then r.1 else r.2
def fW (r : List Int × List Int) (k : Nat) : List Int := if k = 0 then r.1 ++ r.2 else if k = 1 then r.2 else []
theorem nA (r : List Int × List Int) {k : Nat} (h : k < 2) : fW r k = gR r k ++ fW r (k + 1) := by
 rcases (show k = 0 ∨ k = 1 by omega) with rfl | rfl <;> simp [fW, gR]
theorem jE {s0 s1 : Value} {k : Nat} (hk : k < 2) (w : World) : Sem.run Tryz.prog (Instr.index 60 (.agg #[s0, s1]) (.int .i64 (k : Nat))) w = .ok (if k = 0 then s0 else s1) w := by
 rcases (show k = 0 ∨ k = 1 by omega) with rfl | rfl <;> simp [Instr.index, go_sem, run_underlying Tryz.underlying60]
theorem oV (T : Array Value) (t : Tab) (on : Int) (w : World) (hT : ag w T t) :
  Calls Tryz.prog 68 #[.agg T, .int .i64 on] w fun e w' => e = .returned (fh (ka t on)) ∧ Below w.heap.size w w' := by
 haveI : Sz131 T := ⟨hT.size⟩
 obtain ⟨gv, d, r, b, hTe, hI⟩ := hT
 obtain ⟨ga, gcap, H, rfl, hrow, hints⟩ := hI.gr
 have t104 : T[104]? = some (.slice ga t.gr.length gcap) := by rw [hTe, ab _ _ _ (by omega)]; rfl
 have lg := hI.lg
 have LR := Lib.hid hI.lr
 have HR := Lib.hid hrow
 have HI := Lib.hid hints
 have HB : Hid (∀ c, (fh c) = .agg #[.int .i64 c.1, .int .i64 c.2]) := Lib.hid fun c => rfl
 obtain ⟨F, hF⟩ : ∃ F, ka t on = F := ⟨_, rfl⟩
 have HF := Lib.hid hF
 rw [hF]
 clear hrow hints hI hTe hF
 unfold ka at HF
 generalize hgr : t.gr = gr at *
 go_enter Tryz.func68, Tryz.ntmps68
 by_cases h0 : gr.length = 0
 ·have h0b : ((gr.length : Int) == 0) = true := by simp [h0]
  have HE : Hid (F = (8, 0)) := Lib.hid (by rw [← HF.out, if_pos h0])
  go_wp2_with (go_at_call 59; refine (Up.run (dM _ _ _)).mono ?_; rintro e w' ⟨rfl, u, rfl⟩)
  go_returns
  exact ⟨by rw [HE.out]; rfl, by exact yd⟩
 ·have h0b : ((gr.length : Int) == 0) = false := beq_eq_false_iff_ne.2 (by omega)
  have HE : Hid (dd on 0 0 gr = F) := Lib.hid (by rw [← HF.out, if_neg h0])
  clear h0 HF
  go_wp2
  go_loopw [5, 20] (fun s i wr => ∃ (n : Nat) (seen : Int), n ≤ gr.length ∧ i = .int .i64 n ∧ s = .int .i64 seen ∧ Hid (dd on seen n (gr.drop n) = F) ∧ Below w.heap.size w wr ∧ IsBlk wr w.heap.size T 34 ∧ IsBlk wr (w.heap.size + 1) #[.int .i64 0, .int .i64 0] 37) (fun _ i _ => gr.length - (intOf i).toNat)
  case atStart => exact ⟨0, 0, Nat.zero_le _, rfl, rfl, HE, by exact yd, inferInstance, inferInstance⟩
  case round =>
   clear HE
   obtain ⟨n, seen, hn, rfl, rfl, hG, hb, iT, iB⟩ := hrel
   haveI : LeSize w.heap.size wr := ⟨hb.size⟩
   have lB := iB.le
   by_cases hlt : n < gr.length
   ·have hnI : (n : Int) < gr.length := by omega
    obtain ⟨gb, goff, rfl, hgb, hgc⟩ := HR.out.resolve_left (by omega)
    obtain ⟨r, hr⟩ : ∃ r, gr[n] = r := ⟨_, rfl⟩
    have hdrop : gr.drop n = r :: gr.drop (n + 1) := by rw [List.drop_eq_getElem_cons hlt, hr]
    have hr0 : ak gr n 0 = r.1 := by unfold ak; rw [List.getElem?_eq_getElem hlt, hr]; rfl
    have hr1 : ak gr n 1 = r.2 := by unfold ak; rw [List.getElem?_eq_getElem hlt, hr]; rfl
    have hl0 := LR.out n 0
    have hl1 := LR.out n 1
    have hi0 := HI.out n hlt 0 (by omega)
    have hi1 := HI.out n hlt 1 (by omega)
    have hc0 := hgc n hlt 0 (by omega)
    have hc1 := hgc n hlt 1 (by omega)
    simp only at hc0 hc1
    rw [hr0] at hl0 hi0 hc0
    rw [hr1] at hl1 hi1 hc1
    generalize (H n 0).1 = a0 at *
    generalize (H n 0).2 = p0 at *
    generalize (H n 1).1 = a1 at *
    generalize (H n 1).2 = p1 at *
    have el : Sem.run Tryz.prog (Instr.loadAt 60 (.pointer (some ⟨gb, goff + n * 2, none⟩))) wr = .ok (.agg #[.slice a0 r.1.length p0, .slice a1 r.2.length p1]) wr :=
     run_loadAt_mid (P := Tryz.prog) wr gb (goff + n * 2) 60 [.slice a0 r.1.length p0, .slice a1 r.2.length p1] _ (fun j v hv => by
      have hj : j < 2 := by have := (List.getElem?_eq_some_iff.1 hv).1; simpa using this
      rw [hb.cell (p := ⟨gb, goff + n * 2 + j, none⟩) hgb]
      rcases (show j = 0 ∨ j = 1 by omega) with rfl | rfl
      ·rw [hc0]; simpa using hv
      ·rw [hc1]; simpa using hv) Tryz.underlying60 rfl (by kernel_rfl)
    have HRI : Hid (∀ k, k < 2 → bQ w (if k = 0 then a0 else a1) (gR r k)) := Lib.hid fun k hk => by
     rcases (show k = 0 ∨ k = 1 by omega) with rfl | rfl
     ·exact hi0
     ·exact hi1
    have HRL : Hid (∀ k, (gR r k).length ≤ 8) := Lib.hid fun k => by unfold gR; split <;> omega
    have HIX : Hid (∀ k, k < 2 → ∀ w, Sem.run Tryz.prog (Instr.index 60 (.agg #[.slice a0 r.1.length p0, .slice a1 r.2.length p1]) (.int .i64 (k : Nat))) w = .ok (.slice (if k = 0 then a0 else a1) (gR r k).length (if k = 0 then p0 else p1)) w) := Lib.hid fun k hk w => by
     rw [jE hk w]
     rcases (show k = 0 ∨ k = 1 by omega) with rfl | rfl <;> rfl
    have HG2 : Hid ((if r.1.length + r.2.length = 0 then (8, (n : Int)) else yZ on n (gr.drop (n + 1)) seen (fW r 0)) = F) := Lib.hid (by rw [← hG.out, hdrop, lR]; rfl)
    clear hc0 hc1 hi0 hi1 hgc hG hdrop hr0 hr1 hr
    by_cases hz : r.1.length + r.2.length = 0
    ·have hzb : ((r.1.length : Int) + (r.2.length : Int) == 0) = true := by rw [beq_iff_eq]; omega
     have HE : Hid (F = (8, (n : Int))) := Lib.hid (by rw [← HG2.out, if_pos hz])
     clear HG2
     go_wp2_with (first | (refine au rfl rfl rfl el ?_; go_simp) | (go_at_call 59; refine (Up.run (dM _ _ _)).mono ?_; rintro e w' ⟨rfl, u, rfl⟩))
     go_returns
     exact ⟨by rw [HE.out]; rfl, by exact yd⟩
    ·have hzb : ((r.1.length : Int) + (r.2.length : Int) == 0) = false := beq_eq_false_iff_ne.2 (by omega)
     have HG3 : Hid (yZ on n (gr.drop (n + 1)) seen (fW r 0) = F) := Lib.hid (by rw [← HG2.out, if_neg hz])
     clear HG2
     go_wp2_with (refine au rfl rfl rfl el ?_; go_simp)
     clear el
     go_loopw [5, 36] (fun s i wr => ∃ (k : Nat) (seen : Int), k ≤ 2 ∧ i = .int .i64 k ∧ s = .int .i64 seen ∧ Hid (yZ on n (gr.drop (n + 1)) seen (fW r k) = F) ∧ Below w.heap.size w wr ∧ IsBlk wr w.heap.size T 34 ∧ IsBlk wr (w.heap.size + 1) #[.int .i64 0, .int .i64 0] 37) (fun _ i _ => 2 - (intOf i).toNat)
     case atStart => exact ⟨0, seen, by omega, rfl, rfl, HG3, by exact yd, inferInstance, inferInstance⟩
     case round =>
      clear HG3 hb iT iB lB
      obtain ⟨k, seen2, hk, rfl, rfl, hK, hb, iT, iB⟩ := hrel
      haveI : LeSize w.heap.size wr := ⟨hb.size⟩
      have lB := iB.le
      by_cases hk2 : k < 2
      ·have hkI : (k : Int) < 2 := by omega
       have hix := HIX.out k hk2
       have hri := HRI.out k hk2
       have hrl := HRL.out k
       have HK2 : Hid (yZ on n (gr.drop (n + 1)) seen2 (gR r k ++ fW r (k + 1)) = F) := Lib.hid (by rw [← nA r hk2]; exact hK.out)
       clear hK
       have HRW := Lib.hid hri
       generalize gR r k = row at *
       generalize (if k = 0 then a0 else a1) = ra at *
       generalize (if k = 0 then p0 else p1) = rp at *
       clear hri
       go_wp2
       go_loopw [5, 41] (fun s i wr => ∃ (j : Nat) (seen : Int), j ≤ row.length ∧ i = .int .i64 j ∧ s = .int .i64 seen ∧ Hid (yZ on n (gr.drop (n + 1)) seen (row.drop j ++ fW r (k + 1)) = F) ∧ Below w.heap.size w wr ∧ IsBlk wr w.heap.size T 34 ∧ IsBlk wr (w.heap.size + 1) #[.int .i64 0, .int .i64 0] 37) (fun _ i _ => row.length - (intOf i).toNat)
       case atStart => exact ⟨0, seen2, by omega, rfl, rfl, HK2, hb, iT, iB⟩
       case round =>
        clear HK2 hb iT iB lB
        obtain ⟨j, seen3, hj, rfl, rfl, hJ, hb, iT, iB⟩ := hrel
        haveI : LeSize w.heap.size wr := ⟨hb.size⟩
        have lB := iB.le
        by_cases hjl : j < row.length
        ·have hjI : (j : Int) < row.length := by omega
         obtain ⟨rb, roff, rfl, hrb, hrc⟩ := bk.cell HRW.out (by omega)
         have hcell : wr.cell? ⟨rb, roff + j, none⟩ = some (.int .i64 (row.getD j 0)) := by
          rw [hb.cell (p := ⟨rb, roff + j, none⟩) hrb]; exact hrc j hjl
         have HJ2 : Hid ((if (!aT on (row.getD j 0) || aT seen3 (row.getD j 0)) = true then (8, (n : Int)) else yZ on n (gr.drop (n + 1)) (iI seen3 (row.getD j 0)) (row.drop (j + 1) ++ fW r (k + 1))) = F) := Lib.hid (by
          rw [← hJ.out, List.drop_eq_getElem_cons hjl, List.cons_append, oN]
          simp [List.getD_eq_getElem?_getD, List.getElem?_eq_getElem hjl])
         clear hrc hJ
         generalize row.getD j 0 = p at *
         cases h1 : aT on p
         ·have HE : Hid (F = (8, (n : Int))) := Lib.hid (by rw [← HJ2.out, h1]; rfl)
          clear HJ2
          go_wp2_with (first | (go_at_call 63; refine (bA _ _ _).mono ?_; rintro e w' ⟨rfl, rfl⟩) | (go_at_call 59; refine (Up.run (dM _ _ _)).mono ?_; rintro e w' ⟨rfl, u, rfl⟩))
          go_returns
          exact ⟨by rw [HE.out]; rfl, by exact yd⟩
         ·cases h2 : aT seen3 p
          ·have HE : Hid (yZ on n (gr.drop (n + 1)) (iI seen3 p) (row.drop (j + 1) ++ fW r (k + 1)) = F) := Lib.hid (by have := HJ2.out; rw [h1, h2] at this; exact this)
           clear HJ2
           go_wp2_with (first | (go_at_call 63; refine (bA _ _ _).mono ?_; rintro e w' ⟨rfl, rfl⟩) | (go_at_call 144; refine (lm _ _ _).mono ?_; rintro e w' ⟨rfl, rfl⟩))
           go_roundw
           case rel => exact ⟨j + 1, _, by omega, by go_num, rfl, HE, by exact yd, inferInstance, inferInstance⟩
           case measure => simp [intOf]; omega
          ·have HE : Hid (F = (8, (n : Int))) := Lib.hid (by rw [← HJ2.out, h1, h2]; rfl)
           clear HJ2
           go_wp2_with (first | (go_at_call 63; refine (bA _ _ _).mono ?_; rintro e w' ⟨rfl, rfl⟩) | (go_at_call 59; refine (Up.run (dM _ _ _)).mono ?_; rintro e w' ⟨rfl, u, rfl⟩))
           go_returns
           exact ⟨by rw [HE.out]; rfl, by exact yd⟩
        ·obtain rfl : j = row.length := by omega
         have HE : Hid (yZ on n (gr.drop (n + 1)) seen3 (fW r (k + 1)) = F) := Lib.hid (by rw [← hJ.out, List.drop_length, List.nil_append])
         clear hJ
         go_wp2
         go_roundw
         case rel => exact ⟨k + 1, seen3, by omega, by go_num, rfl, HE, hb, iT, iB⟩
         case measure => simp [intOf]; omega
      ·obtain rfl : k = 2 := by omega
       have HE : Hid (dd on seen2 (n + 1) (gr.drop (n + 1)) = F) := Lib.hid hK.out
       clear hK
       go_wp2
       go_roundw
       case rel => exact ⟨n + 1, seen2, by omega, by go_num, rfl, HE, hb, iT, iB⟩
       case measure => simp [intOf]; omega
   ·obtain rfl : n = gr.length := by omega
    have HE : Hid ((if seen = on then (0, 0) else (8, 0)) = F) := Lib.hid (by rw [← hG.out, List.drop_length]; rfl)
    clear hG
    by_cases hs : seen = on
    ·have HE2 : Hid (F = (0, 0)) := Lib.hid (by rw [← HE.out, if_pos hs])
     have hsb : (seen != on) = false := by simp [hs]
     clear HE hs
     go_wp2_with (go_at_call 82; refine (Up.run (dI _)).mono ?_; rintro e w' ⟨rfl, u, rfl⟩)
     go_returns
     exact ⟨by rw [HE2.out]; rfl, by exact yd⟩
    ·have HE2 : Hid (F = (8, 0)) := Lib.hid (by rw [← HE.out, if_neg hs])
     have hsb : (seen != on) = true := by simp [hs]
     clear HE hs
     go_wp2_with (go_at_call 59; refine (Up.run (dM _ _ _)).mono ?_; rintro e w' ⟨rfl, u, rfl⟩)
     go_returns
     exact ⟨by rw [HE2.out]; rfl, by exact yd⟩
end
section
open Go.RowKit Go.Shelf
attribute [local go_sem] Oper.semAt_some IsBlk.cell IsBlk.frozen
theorem em (s : Int) (f : Int → Bool) : (ci s).any f = (aX s 8).any fun q => f (q.val : Int) := by
 have h := gK s 8 (Nat.le_refl _)
 have h2 : ci s = lE s 8 := rfl
 rw [h2, ← h, List.any_map]; rfl
theorem oe (T : Array Value) (t : Tab) (on : Int) (p : Nat) (w : World) (hT : ag w T t) (hp : p < 8) :
  Calls Tryz.prog 81 #[.agg T, .int .i64 on, .int .i64 p] w fun e w' => e = .returned (.bool (jq t on p)) ∧ Below w.heap.size w w' := by
 haveI : Sz131 T := ⟨hT.size⟩
 have hcf := hT.cf p hp
 have hfl := hT.fl p hp
 have HFL : Hid (∀ q, q < 8 → T[121 + q]? = some (.int .i64 (t.fl q))) := Lib.hid fun q hq => hT.fl q hq
 have hpI : (p : Int) < 8 := by omega
 obtain ⟨V, hV⟩ : ∃ V, jq t on p = V := ⟨_, rfl⟩
 rw [hV]
 unfold jq at hV
 rw [em] at hV
 simp only [Int.toNat_natCast] at hV
 clear hT
 obtain ⟨f, hf⟩ : ∃ f, t.fl p = f := ⟨_, rfl⟩
 obtain ⟨fl, hfl2⟩ : ∃ fl, t.fl = fl := ⟨_, rfl⟩
 rw [hf] at hV hfl
 rw [hfl2] at HFL hV
 generalize t.cf p = cf at *
 clear hf hfl2
 cases h1 : (f == 0)
 ·rw [h1, Bool.false_or] at hV
  obtain ⟨s, hs⟩ : ∃ s, bits .and .i64 cf on = s := ⟨_, rfl⟩
  rw [hs] at hV
  obtain ⟨tst, htst⟩ : ∃ tst : Nat → Bool, tst = fun q : Nat => ((q : Int) != (p : Int)) && (f == 2) && (fl q == 2) := ⟨_, rfl⟩
  have HTS : Hid (∀ q : Nat, tst q = (((q : Int) != (p : Int)) && (f == 2) && (fl q == 2))) := Lib.hid fun q => by rw [htst]
  have HV : Hid (((aX s 8).any fun q => tst q.val) = V) := Lib.hid (by rw [htst]; exact hV)
  clear hV htst
  refine (callsIn_wide (n := 5)).1 ?_
  refine callsIn_of_wp_marks Tryz.func81 rfl trivial ?_ rfl
  simp only [Tryz.ntmps81, List.size_toArray, List.length_cons, List.length_nil, Nat.reduceAdd, Nat.reduceSub, Array.replicate_succ, Array.replicate_zero, List.push_toArray, List.append_toArray, List.nil_append, List.cons_append]
  refine wpIn_wide.2 ?_
  go_wp2_with (go_at_call 55; refine (dz _ _).mono ?_; rintro e w' ⟨rfl, rfl⟩)
  clear hs
  obtain ⟨X, hX⟩ : ∃ X, (((w.alloc (.cells T 34)).alloc (.cells #[.int .i64 (p : Int)] 3)).alloc (.cells #[.bool false] 4)).alloc (.cells #[.int .i64 s] 3) = X := ⟨_, rfl⟩
  have iT : IsBlk X w.heap.size T 34 := by rw [← hX]; infer_instance
  have iP : IsBlk X (w.heap.size + 1) #[.int .i64 (p : Int)] 3 := by rw [← hX]; infer_instance
  have iO : IsBlk X (w.heap.size + 1 + 1) #[.bool false] 4 := by rw [← hX]; infer_instance
  have bN : Boxed X (w.heap.size + 1 + 1 + 1) 3 (.int .i64 s) := by rw [← hX]; exact (inferInstance : IsBlk _ _ _ _).out
  have hXs : X.heap.size = w.heap.size + 4 := by rw [← hX]; simp
  have hX0 : Below w.heap.size w X := by rw [← hX]; all_goals try exact yd
  rw [hX]
  clear hX
  have h1' : (1 : Nat) ≤ 5 := by omega
  have hstops := ce 4 (by omega) (w.heap.size + 1 + 1 + 1) s X (by omega) bN.cell
  have HBI : Hid (∀ W, Below X.heap.size X W → IsBlk W w.heap.size T 34 ∧ IsBlk W (w.heap.size + 1) #[.int .i64 (p : Int)] 3 ∧ IsBlk W (w.heap.size + 1 + 1) #[.bool false] 4) := Lib.hid fun W hb => ⟨⟨(hb.block _ (by omega)).trans iT.out⟩, ⟨(hb.block _ (by omega)).trans iP.out⟩, ⟨(hb.block _ (by omega)).trans iO.out⟩⟩
  refine (wpIn_wide (n := 5)).1 ?_
  clear iT iP iO bN
  refine wpIn_rangeFunc_ownG rfl h1' (gf := 143) (lb := #[.pointer (some ⟨w.heap.size + 1 + 1 + 1, 0, none⟩)]) rfl trivial (enters_of Tryz.func143 (by kernel_rfl) rfl)
   hstops dV (d7 (by omega)) (Below.refl _ _) (fun _ => rfl)
   (fun pre W => (pre.any fun q : Fin 8 => tst q.val) = false ∧ Below X.heap.size X W)
   (fun c pre W => (c = .ret ∧ ∃ q ∈ pre, tst q.val = true) ∧ (W.cell? ⟨w.heap.size + 1 + 1, 0, none⟩ = some (.bool true) ∧ Below w.heap.size w W))
   (OwnFrom.and (ownFrom_pure _ _) (ownFrom_below (Nat.le_refl _) (Nat.le_refl _)))
   (fun c => OwnFrom.and (ownFrom_pure _ _) (OwnFrom.and (Own.from (fun s A B row hs hg hr => cell_kept hs hg hr) _) (ownFrom_below (Nat.le_refl _) (by omega))))
   ⟨rfl, Below.refl _ _⟩
   (fun k => { tmps := #[.agg T, .int .i64 on, .int .i64 (p : Int), .pointer (some ⟨w.heap.size, 0, none⟩), undef, .pointer (some ⟨w.heap.size + 1, 0, none⟩), .pointer (some ⟨w.heap.size + 1 + 1, 0, none⟩), .int .i64 (k.val : Nat), .int .i64 (p : Int), .pointer (some ⟨w.heap.size, 121, none⟩), .pointer (some ⟨w.heap.size, 121 + p, none⟩), .int .i64 f, .bool false, .int .i64 (p : Int), .pointer (some ⟨w.heap.size, 105, none⟩), .pointer (some ⟨w.heap.size, 105 + p, none⟩), .int .i64 cf, .int .i64 on, .int .i64 s, (.func (.func 143) #[] #[.pointer (some ⟨w.heap.size + 1 + 1 + 1, 0, none⟩)]), .int .i64 (k.val : Nat), undef, undef, undef, undef, undef, undef, undef, undef, undef, undef, undef, undef, undef, undef, undef, undef, undef], defers := [] }) ?assign ?body ?done ?stop
  case assign =>
   intro l x W K hK
   gi_wp2
   exact hK
  case body =>
   rintro l pre ⟨k, hk⟩ W ⟨hall, hB⟩ hlt
   obtain ⟨iT2, iP2, iO2⟩ := HBI.out W hB
   have hkI : (k : Int) < 8 := by omega
   have hfk := HFL.out k hk
   have hfp := hfl
   generalize vV : fl k = fk at *
   have hjc : HasCell W (w.heap.size + 1 + 1) 0 := HasCell.of (v := .bool false) (by rw [IsBlk.cell]; rfl)
   have HB := Lib.hid hB
   have HFIN : Hid (KeepsFrom X.heap.size W (W.setCell ⟨w.heap.size + 1 + 1, 0, none⟩ (.bool true)) ∧ (W.setCell ⟨w.heap.size + 1 + 1, 0, none⟩ (.bool true)).cell? ⟨w.heap.size + 1 + 1, 0, none⟩ = some (.bool true) ∧ Below w.heap.size w (W.setCell ⟨w.heap.size + 1 + 1, 0, none⟩ (.bool true))) :=
    Lib.hid ⟨(KeepsOthers.setCell _ _ _).from _, by simp only [fQ], (hX0.trans (hB.mono (by omega))).setCell (p := ⟨w.heap.size + 1 + 1, 0, none⟩) (Nat.le_trans (Nat.le_succ _) (Nat.le_succ _)) _⟩
   have HTK : Hid (tst k = (((k : Int) != (p : Int)) && (f == 2) && (fk == 2))) := Lib.hid (by rw [HTS.out, vV])
   have HNO : Hid (tst k = false → KeepsFrom X.heap.size W W ∧ fe (w.heap.size + 1 + 1 + 1) W W ∧ ((pre ++ [(⟨k, hk⟩ : Fin 8)]).any fun q : Fin 8 => tst q.val) = false ∧ Below X.heap.size X W) := Lib.hid fun h => ⟨KeepsFrom.refl _ _, rfl, by rw [List.any_append, hall, List.any_cons, List.any_nil]; simp only; rw [h]; rfl, HB.out⟩
   have HYES : Hid (tst k = true → ∃ q ∈ pre ++ [(⟨k, hk⟩ : Fin 8)], tst q.val = true) := Lib.hid fun h => ⟨⟨k, hk⟩, by simp, h⟩
   cases e1 : ((k : Int) != (p : Int))
   ·have HE := Lib.hid (HNO.out (by rw [HTK.out, e1]; rfl))
    clear HNO HYES HFIN HTK
    gi_wp2
    exact HE.out
   ·cases e2 : (f == 2)
    ·have HE := Lib.hid (HNO.out (by rw [HTK.out, e1, e2]; rfl))
     clear HNO HYES HFIN HTK
     gi_wp2
     exact HE.out
    ·cases e3 : (fk == 2)
     ·have HE := Lib.hid (HNO.out (by rw [HTK.out, e1, e2, e3]; rfl))
      clear HNO HYES HFIN HTK
      gi_wp2
      exact HE.out
     ·have HE := Lib.hid (HYES.out (by rw [HTK.out, e1, e2, e3]; rfl))
      clear HNO HYES HTK
      gi_wp2
      exact ⟨HFIN.out.1, ⟨rfl, HE.out⟩, HFIN.out.2⟩
  case done =>
   rintro D ys W hD rfl ⟨hall, hB⟩ hK
   obtain ⟨iT2, iP2, iO2⟩ := HBI.out W hB
   have c6 : W.cell? ⟨w.heap.size + 1 + 1, 0, none⟩ = some (.bool false) := by rw [IsBlk.cell]; rfl
   have hjc := HasCell.of c6
   go_wp2
   have hK' := (KeepsOthers.setCell W ⟨w.heap.size + 1 + 1, 0, none⟩ (.bool false)).same D _ hK rfl
   refine ⟨by simp, .inl ⟨_, _, rfl, run_takeDeferred hK', ?_⟩⟩
   have hc5 := cell_kept (World.cell?_setCell_same' W ⟨w.heap.size + 1 + 1, 0, none⟩ (.bool false) (by rw [c6]; rfl)) (grownBy_putObj' _ D (.deferred none)) (fun r e => by cases e; exact ⟨_, hK', rfl⟩)
   refine ⟨.bool false, ?_, by rw [← HV.out, hall], ((hX0.trans (hB.mono (by omega))).setCell (p := ⟨w.heap.size + 1 + 1, 0, none⟩) (Nat.le_trans (Nat.le_succ _) (Nat.le_succ _)) _).trans (belowK_b (w := w) (Nat.le_refl _) _ D _ _ (by omega) hK' rfl rfl)⟩
   simp [results, Tryz.f81, go_sem, hc5]
  case stop =>
   rintro D c pre W hD hpre ⟨⟨rfl, q, hq, hqr⟩, hc, hB⟩ hK
   have htrue : V = true := by
    rw [← HV.out, List.any_eq_true]
    exact ⟨q, hpre.subset hq, hqr⟩
   gi_wp2
   refine ⟨by simp, .inl ⟨_, _, rfl, run_takeDeferred hK, ?_⟩⟩
   have hc5 := cell_kept hc (grownBy_putObj' _ D (.deferred none)) (fun r e => by cases e; exact ⟨_, hK, rfl⟩)
   refine ⟨.bool true, ?_, by rw [htrue], hB.trans (belowK_b (w := w) (Nat.le_refl _) W D _ _ (by omega) hK rfl rfl)⟩
   simp [results, Tryz.f81, go_sem, hc5]
 ·rw [h1, Bool.true_or] at hV
  subst hV
  go_enter Tryz.func81, Tryz.ntmps81
  go_wp2
  go_returns
  exact ⟨rfl, by exact yd⟩
end
section
open Go.RowKit Go.Shelf
attribute [local go_sem] Oper.semAt_some IsBlk.cell IsBlk.frozen
theorem fX {F : Fence} {n : Nat} {P : Program} {id : Nat} {Q : Exit → Act → World → Prop} {a : Act} {w : World} {l : List Oper} (hd : l.all fz = true) (hm : P.follows .mixedOrders = true) (hB : Region.lexB .any l.toArray = true)
  (h : wpQuietIn F n P l.toArray (fun w' => ∃ u : Up w, w' = u.w) (fun a' => ∀ w', (∃ u : Up w, w' = u.w) → Q .normal a' w') l a) : (Code.region id l.toArray true).wpIn F n P Q a w := by
 simp only [Region.lexB, Bool.and_eq_true] at hB
 refine wpIn_region_any hm (dW (C := fun w' => ∃ u : Up w, w' = u.w) (Q := fun a' => ∀ w', (∃ u : Up w, w' = u.w) → Q .normal a' w') (by simpa using hd) (fun _ w' hw' h => h w' hw') _ _ _ _ ⟨⟨_, (Below.refl _ w).drew⟩, rfl⟩ ?_)
 have := wpAnyQIn_lex (F := F) (n := n) (C := fun w' => ∃ u : Up w, w' = u.w) (md := .any) hB.1 l 0 (Array.replicate l.toArray.size false) a (by simp) (by simpa using hB.2) h
 simpa using this
theorem i9 {F : Fence} {n : Nat} {W : World} {K : Act → Prop} {o : Oper} {a : Act} {x : Operand} {ty : TypeId} {ptr v : Value} (ho : o.op = .load ty x) (hx : a.eval x = ptr)
  (hrun : ∀ u : Up W, Sem.run Tryz.prog (Instr.loadAt ty ptr) u.w = .ok v u.w) (hk : K (a.put o.dst v)) : o.quietIn F n Tryz.prog a (fun w' => ∃ u : Up W, w' = u.w) K := by
 refine ⟨v, ?_, hk⟩
 rintro w ⟨u, rfl⟩
 have e := hrun u
 simp only [Oper.quietAtIn, execOp, ho, hx]
 generalize Instr.loadAt ty ptr = L at e ⊢
 simp [go_sem, e, Oper.quietUponIn]
theorem g6 {B : Nat} {W : World} (u : Up W) : KeepsFrom B W u.w := ⟨u.bel.size, fun j o _ h1 _ => by rw [u.bel.block j (Array.getElem?_eq_some_iff.1 h1).1]; exact h1⟩
theorem tZ (T : Array Value) [hz : Sz131 T] (on : Int) (p : Nat) (cf : Nat → Int) (h0 : Bool) (h1 h2 be : Nat → Bool) (V : Bool) (w : World) (hp : p < 8) (hcf : T[105 + p]? = some (.int .i64 (cf p))) (HCF : Hid (∀ q, q < 8 → T[105 + q]? = some (.int .i64 (cf q))))
  (HH0 : Hid (∀ w, Calls Tryz.prog 63 #[.int .i64 (cf p), .int .i64 (p : Nat)] w fun e w' => e = .returned (.bool h0) ∧ w = w'))
  (HH1 : Hid (∀ q : Nat, ∀ w, Calls Tryz.prog 63 #[.int .i64 (cf p), .int .i64 q] w fun e w' => e = .returned (.bool (h1 q)) ∧ w = w'))
  (HH2 : Hid (∀ q : Nat, ∀ w, Calls Tryz.prog 63 #[.int .i64 (cf q), .int .i64 (p : Nat)] w fun e w' => e = .returned (.bool (h2 q)) ∧ w = w'))
  (HBE : Hid (∀ q : Nat, ∀ W, Below w.heap.size w W → Calls Tryz.prog 147 #[.agg T, .int .i64 (p : Nat), .int .i64 q] W fun e w' => e = .returned (.bool (be q)) ∧ Below W.heap.size W w'))
  (hV : (h0 || (aX on 8).any fun q => (h1 q.val != h2 q.val) || (h1 q.val && be q.val)) = V) :
  Calls Tryz.prog 71 #[.agg T, .int .i64 on, .int .i64 (p : Nat)] w fun e w' => e = .returned (.bool V) ∧ Below w.heap.size w w' := by
 have hpI : (p : Int) < 8 := by omega
 cases h0
 ·rw [Bool.false_or] at hV
  obtain ⟨tst, htst⟩ : ∃ tst : Nat → Bool, tst = fun q : Nat => (h1 q != h2 q) || (h1 q && be q) := ⟨_, rfl⟩
  have HTS : Hid (∀ q : Nat, tst q = ((h1 q != h2 q) || (h1 q && be q))) := Lib.hid fun q => by rw [htst]
  have HV : Hid (((aX on 8).any fun q => tst q.val) = V) := Lib.hid (by rw [htst]; exact hV)
  clear hV htst
  refine (callsIn_wide (n := 5)).1 ?_
  refine callsIn_of_wp_marks Tryz.func71 rfl trivial ?_ rfl
  simp only [Tryz.ntmps71, List.size_toArray, List.length_cons, List.length_nil, Nat.reduceAdd, Nat.reduceSub, Array.replicate_succ, Array.replicate_zero, List.push_toArray, List.append_toArray, List.nil_append, List.cons_append]
  refine wpIn_wide.2 ?_
  go_wp2
  (refine ai (by kernel_rfl) (by kernel_rfl) ?_; (repeat (first | go_big_quiet_step ((first | (go_at_call 63; (with_reducible refine Up.pure (HH0.out _)); all_goals try exact yd) | fail)))); refine wpQuiet_nil ?_; rintro _ ⟨u, rfl⟩)
  go_wp2_with (go_at_call 55; refine (dz _ _).mono ?_; rintro e w' ⟨rfl, rfl⟩)
  obtain ⟨U, hU⟩ : ∃ U, u.w.heap.size = U := ⟨_, rfl⟩
  have hsu := u.bel.size
  simp only [World.size_alloc] at hsu
  obtain ⟨X, hX⟩ : ∃ X, u.w.alloc (.cells #[.int .i64 on] 3) = X := ⟨_, rfl⟩
  have iT : IsBlk X w.heap.size T 34 := by rw [← hX]; infer_instance
  have iP : IsBlk X (w.heap.size + 1) #[.int .i64 (p : Int)] 3 := by rw [← hX]; infer_instance
  have iO : IsBlk X (w.heap.size + 1 + 1) #[.bool false] 4 := by rw [← hX]; infer_instance
  have bN : Boxed X U 3 (.int .i64 on) := by rw [← hX, ← hU]; exact (inferInstance : IsBlk _ _ _ _).out
  have hXs : X.heap.size = U + 1 := by rw [← hX, ← hU]; simp
  have hX0 : Below w.heap.size w X := by rw [← hX]; all_goals try exact yd
  rw [hX, hU]
  rw [hU] at hsu
  clear hX hU
  have h1' : (1 : Nat) ≤ 5 := by omega
  have hstops := ce 4 (by omega) U on X (by omega) bN.cell
  have HBI : Hid (∀ W, Below X.heap.size X W → IsBlk W w.heap.size T 34 ∧ IsBlk W (w.heap.size + 1) #[.int .i64 (p : Int)] 3 ∧ IsBlk W (w.heap.size + 1 + 1) #[.bool false] 4) := Lib.hid fun W hb => ⟨⟨(hb.block _ (by omega)).trans iT.out⟩, ⟨(hb.block _ (by omega)).trans iP.out⟩, ⟨(hb.block _ (by omega)).trans iO.out⟩⟩
  refine (wpIn_wide (n := 5)).1 ?_
  clear iT iP iO bN HH0
  refine wpIn_rangeFunc_ownG rfl h1' (gf := 143) (lb := #[.pointer (some ⟨U, 0, none⟩)]) rfl trivial (enters_of Tryz.func143 (by kernel_rfl) rfl)
   hstops dV (d7 (by omega)) (Below.refl _ _) (fun _ => rfl)
   (fun pre W => (pre.any fun q : Fin 8 => tst q.val) = false ∧ Below X.heap.size X W)
   (fun c pre W => (c = .ret ∧ ∃ q ∈ pre, tst q.val = true) ∧ (W.cell? ⟨w.heap.size + 1 + 1, 0, none⟩ = some (.bool true) ∧ Below w.heap.size w W))
   (OwnFrom.and (ownFrom_pure _ _) (ownFrom_below (Nat.le_refl _) (Nat.le_refl _)))
   (fun c => OwnFrom.and (ownFrom_pure _ _) (OwnFrom.and (Own.from (fun s A B row hs hg hr => cell_kept hs hg hr) _) (ownFrom_below (Nat.le_refl _) (by omega))))
   ⟨rfl, Below.refl _ _⟩
   (fun k => { tmps := #[.agg T, .int .i64 on, .int .i64 (p : Int), .pointer (some ⟨w.heap.size, 0, none⟩), undef, .pointer (some ⟨w.heap.size + 1, 0, none⟩), .pointer (some ⟨w.heap.size + 1 + 1, 0, none⟩), .int .i64 (k.val : Nat), undef, .int .i64 (p : Int), .pointer (some ⟨w.heap.size, 105, none⟩), .pointer (some ⟨w.heap.size, 105 + p, none⟩), .int .i64 (cf p), .int .i64 (p : Int), .bool false, .int .i64 on, (.func (.func 143) #[] #[.pointer (some ⟨U, 0, none⟩)]), .int .i64 (k.val : Nat), undef, undef, undef, undef, undef, undef, undef, undef, undef, undef, undef, undef, undef, undef, undef, undef, undef, undef, undef, undef, undef, undef, undef], defers := [] }) ?assign ?body ?done ?stop
  case assign =>
   intro l x W K hK
   gi_wp2
   exact hK
  case body =>
   rintro l pre ⟨k, hk⟩ W ⟨hall, hB⟩ hlt
   obtain ⟨iT2, iP2, iO2⟩ := HBI.out W hB
   have hkI : (k : Int) < 8 := by omega
   have hck := HCF.out k hk
   have hsz := hB.size
   have hjc : HasCell W (w.heap.size + 1 + 1) 0 := HasCell.of (v := .bool false) (by rw [IsBlk.cell]; rfl)
   have HB := Lib.hid hB
   have H1 := Lib.hid (HH1.out k)
   have H2 := Lib.hid (HH2.out k)
   have el : ∀ u : Up W, Sem.run Tryz.prog (Instr.loadAt 34 (.pointer (some ⟨w.heap.size, 0, none⟩))) u.w = .ok (.agg T) u.w := fun u => cA
   have HBK : Hid (∀ u : Up W, Calls Tryz.prog 147 #[.agg T, .int .i64 (p : Nat), .int .i64 (k : Nat)] u.w fun e w' => e = .returned (.bool (be k)) ∧ Below u.w.heap.size u.w w') := Lib.hid fun u => HBE.out k u.w ((hX0.trans (HB.out.mono (by omega))).trans (u.bel.mono (by omega)))
   have HFIN : Hid (∀ u : Up W, KeepsFrom X.heap.size W (u.w.setCell ⟨w.heap.size + 1 + 1, 0, none⟩ (.bool true)) ∧ (u.w.setCell ⟨w.heap.size + 1 + 1, 0, none⟩ (.bool true)).cell? ⟨w.heap.size + 1 + 1, 0, none⟩ = some (.bool true) ∧ Below w.heap.size w (u.w.setCell ⟨w.heap.size + 1 + 1, 0, none⟩ (.bool true))) :=
    Lib.hid fun u => ⟨(g6 u).trans ((KeepsOthers.setCell _ _ _).from _), by simp only [fQ], ((hX0.trans (hB.mono (by omega))).trans (u.bel.mono (by omega))).setCell (p := ⟨w.heap.size + 1 + 1, 0, none⟩) (Nat.le_trans (Nat.le_succ _) (Nat.le_succ _)) _⟩
   have HTK : Hid (tst k = ((h1 k != h2 k) || (h1 k && be k))) := Lib.hid (by rw [HTS.out])
   have HNO : Hid (tst k = false → ∀ u : Up W, KeepsFrom X.heap.size W u.w ∧ fe U W u.w ∧ ((pre ++ [(⟨k, hk⟩ : Fin 8)]).any fun q : Fin 8 => tst q.val) = false ∧ Below X.heap.size X u.w) := Lib.hid fun h u => ⟨g6 u, u.bel.block _ (by omega), by rw [List.any_append, hall, List.any_cons, List.any_nil]; simp only; rw [h]; rfl, HB.out.trans (u.bel.mono hsz)⟩
   have HYES : Hid (tst k = true → ∃ q ∈ pre ++ [(⟨k, hk⟩ : Fin 8)], tst q.val = true) := Lib.hid fun h => ⟨⟨k, hk⟩, by simp, h⟩
   generalize h1 k = b1 at *
   generalize h2 k = b2 at *
   generalize be k = b3 at *
   cases b1 <;> cases b2 <;> cases b3
   all_goals
    simp at HTK
    gi_wp2_with (refine ⟨trivial, ?_⟩; gi_at_call 63; refine (CallsIn.inRound l (callsIn_wide.2 (H1.out _))).mono ?_; rintro e w' ⟨rfl, rfl⟩)
    refine fX rfl (by kernel_rfl) (by kernel_rfl) ?_
    have hwf : ∀ k, Fence.wide.fn k := fun k => trivial
    repeat (first | (gi_big_quiet_want; refine i9 rfl rfl el ?_; simp only [Act.put, List.setIfInBounds_toArray, List.set_cons_succ, List.set_cons_zero]; go_big_quiet_on) | gi_big_quiet_step ((first | (gi_at_call 63; exact CallsIn.inRound l (callsIn_wide.2 (Up.pure (H2.out _)))) | (gi_at_call 147; exact CallsIn.inRound l (callsIn_wide.2 (Up.calls (HBK.out _)))))))
    refine wpQuietIn_nil ?_
    rintro _ ⟨u, rfl⟩
    gi_wp2
    first
     | exact HNO.out HTK.out u
     | exact ⟨(HFIN.out u).1, ⟨rfl, HYES.out HTK.out⟩, (HFIN.out u).2⟩
  case done =>
   rintro D ys W hD rfl ⟨hall, hB⟩ hK
   obtain ⟨iT2, iP2, iO2⟩ := HBI.out W hB
   have c6 : W.cell? ⟨w.heap.size + 1 + 1, 0, none⟩ = some (.bool false) := by rw [IsBlk.cell]; rfl
   have hjc := HasCell.of c6
   go_wp2
   have hK' := (KeepsOthers.setCell W ⟨w.heap.size + 1 + 1, 0, none⟩ (.bool false)).same D _ hK rfl
   refine ⟨by simp, .inl ⟨_, _, rfl, run_takeDeferred hK', ?_⟩⟩
   have hc5 := cell_kept (World.cell?_setCell_same' W ⟨w.heap.size + 1 + 1, 0, none⟩ (.bool false) (by rw [c6]; rfl)) (grownBy_putObj' _ D (.deferred none)) (fun r e => by cases e; exact ⟨_, hK', rfl⟩)
   refine ⟨.bool false, ?_, by rw [← HV.out, hall], ((hX0.trans (hB.mono (by omega))).setCell (p := ⟨w.heap.size + 1 + 1, 0, none⟩) (Nat.le_trans (Nat.le_succ _) (Nat.le_succ _)) _).trans (belowK_b (w := w) (Nat.le_refl _) _ D _ _ (by omega) hK' rfl rfl)⟩
   simp [results, Tryz.f71, go_sem, hc5]
  case stop =>
   rintro D c pre W hD hpre ⟨⟨rfl, q, hq, hqr⟩, hc, hB⟩ hK
   have htrue : V = true := by
    rw [← HV.out, List.any_eq_true]
    exact ⟨q, hpre.subset hq, hqr⟩
   gi_wp2
   refine ⟨by simp, .inl ⟨_, _, rfl, run_takeDeferred hK, ?_⟩⟩
   have hc5 := cell_kept hc (grownBy_putObj' _ D (.deferred none)) (fun r e => by cases e; exact ⟨_, hK, rfl⟩)
   refine ⟨.bool true, ?_, by rw [htrue], hB.trans (belowK_b (w := w) (Nat.le_refl _) W D _ _ (by omega) hK rfl rfl)⟩
   simp [results, Tryz.f71, go_sem, hc5]
 ·rw [Bool.true_or] at hV
  subst hV
  go_enter Tryz.func71, Tryz.ntmps71
  go_wp2
  (refine ai (by kernel_rfl) (by kernel_rfl) ?_; (repeat (first | go_big_quiet_step ((first | (go_at_call 63; (with_reducible refine Up.pure (HH0.out _)); all_goals try exact yd) | fail)))); refine wpQuiet_nil ?_; rintro _ ⟨u, rfl⟩)
  go_wp2
  go_returns
  exact ⟨rfl, by exact yd⟩
end
section
open Go.RowKit Go.Shelf
attribute [local go_sem] Oper.semAt_some IsBlk.cell IsBlk.frozen
theorem cr {B : Nat} {W W2 : World} (h : Below W.heap.size W W2) : KeepsFrom B W W2 := ⟨h.size, fun j o _ h1 _ => by rw [h.block j (Array.getElem?_eq_some_iff.1 h1).1]; exact h1⟩
theorem kL {β : Type} (B b : Nat) (t : TypeId) (f : β → Array Value) : OwnFrom B (fun s W => W.heap[b]? = some (.cells (f s) t)) := fun s W W' row hs hg hr =>
 (hg.block b (Array.getElem?_eq_some_iff.1 hs).1 (fun e => by obtain ⟨_, o, ho, hc⟩ := hr b e.symm; rw [hs] at ho; cases ho; cases hc)).trans hs
theorem cD {F : Fence} {n : Nat} {P : Program} {ops : Array Oper} {rest : List Oper} {op : Oper} {a : Act} {w : World} {Q : Exit → Act → World → Prop} {x : Operand} {ty : TypeId} {b o : Nat} {v : Value} (hw : Region.wanted op (yielded ops a.tmps) = true) (ho : op.op = .load ty x) (hx : a.eval x = .pointer (some ⟨b, o, none⟩))
  (hrun : Sem.run P (Instr.loadAt ty (.pointer (some ⟨b, o, none⟩))) w = .ok v w) (h : wpListIn F n P ops Q rest (a.put op.dst v) w) : wpListIn F n P ops Q (op :: rest) a w := by
 unfold wpListIn
 simp only [hw, if_true]
 unfold Oper.wpIn
 refine ⟨by simp [Oper.about, ho], ?_⟩
 rw [Oper.semAt_plain F _ _ (by rw [ho]; intro c hc'; cases hc')]
 unfold execOp
 simp only [ho, hx]
 generalize Instr.loadAt ty (Value.pointer (some ⟨b, o, none⟩)) = L at hrun ⊢
 simp [go_sem, hrun]
 exact h
theorem mQ (T : Array Value) [hz : Sz131 T] (s : Int) (be : Nat → Nat → Bool) (V : Bool) (w : World)
  (HBE : Hid (∀ p q : Nat, p < 8 → q < 8 → ∀ W, Below w.heap.size w W → Calls Tryz.prog 196 #[.agg T, .int .i64 p, .int .i64 q] W fun e w' => e = .returned (.bool (be p q)) ∧ Below W.heap.size W w'))
  (hV : ((aX s 8).any fun p => (aX s 8).any fun q => ((p.val : Int) != (q.val : Int)) && be p.val q.val) = V) :
  Calls Tryz.prog 148 #[.agg T, .int .i64 s] w fun e w' => e = .returned (.bool V) ∧ Below w.heap.size w w' := by
 obtain ⟨tst, htst⟩ : ∃ tst : Nat → Nat → Bool, tst = fun p q : Nat => ((p : Int) != (q : Int)) && be p q := ⟨_, rfl⟩
 have HTS : Hid (∀ p q : Nat, tst p q = (((p : Int) != (q : Int)) && be p q)) := Lib.hid fun p q => by rw [htst]
 obtain ⟨anq, hanq⟩ : ∃ anq : Nat → Bool, anq = fun p : Nat => (aX s 8).any fun q => tst p q.val := ⟨_, rfl⟩
 have HAQ : Hid (∀ p : Nat, anq p = (aX s 8).any fun q => tst p q.val) := Lib.hid fun p => by rw [hanq]
 have HV : Hid (((aX s 8).any fun p => anq p.val) = V) := Lib.hid (by rw [hanq, htst]; exact hV)
 clear hV htst hanq
 refine (callsIn_wide (n := 9)).1 ?_
 refine callsIn_of_wp_marks Tryz.func148 rfl trivial ?_ rfl
 simp only [Tryz.ntmps148, List.size_toArray, List.length_cons, List.length_nil, Nat.reduceAdd, Nat.reduceSub, Array.replicate_succ, Array.replicate_zero, List.push_toArray, List.append_toArray, List.nil_append, List.cons_append]
 refine wpIn_wide.2 ?_
 go_wp2_with (go_at_call 55; refine (dz _ _).mono ?_; rintro e w' ⟨rfl, rfl⟩)
 obtain ⟨X, hX⟩ : ∃ X, (((w.alloc (.cells T 34)).alloc (.cells #[.int .i64 s] 3)).alloc (.cells #[.bool false] 4)).alloc (.cells #[.int .i64 s] 3) = X := ⟨_, rfl⟩
 have iT : IsBlk X w.heap.size T 34 := by rw [← hX]; infer_instance
 have iS : IsBlk X (w.heap.size + 1) #[.int .i64 s] 3 := by rw [← hX]; infer_instance
 have iO : IsBlk X (w.heap.size + 1 + 1) #[.bool false] 4 := by rw [← hX]; infer_instance
 have bN : Boxed X (w.heap.size + 1 + 1 + 1) 3 (.int .i64 s) := by rw [← hX]; exact (inferInstance : IsBlk _ _ _ _).out
 have hXs : w.heap.size + 4 ≤ X.heap.size ∧ X.heap.size ≤ w.heap.size + 4 := by rw [← hX]; simp
 have hX0 : Below w.heap.size w X := by rw [← hX]; all_goals try exact yd
 rw [hX]
 clear hX
 have h1' : (1 : Nat) ≤ 9 := by omega
 have hstops := ce 8 (by omega) (w.heap.size + 1 + 1 + 1) s X (by omega) bN.cell
 have HBI : Hid (∀ W, Below X.heap.size X W → IsBlk W w.heap.size T 34 ∧ IsBlk W (w.heap.size + 1) #[.int .i64 s] 3 ∧ IsBlk W (w.heap.size + 1 + 1) #[.bool false] 4) := Lib.hid fun W hb => ⟨⟨(hb.block _ (by omega)).trans iT.out⟩, ⟨(hb.block _ (by omega)).trans iS.out⟩, ⟨(hb.block _ (by omega)).trans iO.out⟩⟩
 refine (wpIn_wide (n := 9)).1 ?_
 clear iT iS iO bN
 refine wpIn_rangeFunc_ownH rfl h1' (gf := 143) (lb := #[.pointer (some ⟨w.heap.size + 1 + 1 + 1, 0, none⟩)]) rfl trivial (enters_of Tryz.func143 (by kernel_rfl) rfl)
  hstops dV (d7 (by omega)) (Below.refl _ _) (fun _ => rfl)
  (fun pre W => (pre.any fun p : Fin 8 => anq p.val) = false ∧ Below X.heap.size X W)
  (fun c pre W => (c = .ret ∧ ∃ p ∈ pre, anq p.val = true) ∧ (W.cell? ⟨w.heap.size + 1 + 1, 0, none⟩ = some (.bool true) ∧ Below w.heap.size w W))
  (OwnFrom.and (ownFrom_pure _ _) (ownFrom_below (Nat.le_refl _) (Nat.le_refl _)))
  (fun c => OwnFrom.and (ownFrom_pure _ _) (OwnFrom.and (Own.from (fun s A B row hs hg hr => cell_kept hs hg hr) _) (ownFrom_below (Nat.le_refl _) (by omega))))
  ⟨rfl, Below.refl _ _⟩
  (fun p a' W => ∃ Bx, X.heap.size ≤ Bx ∧ W.heap[Bx]? = some (.cells #[.int .i64 (p.val : Nat)] 3) ∧ a' = { tmps := #[.agg T, .int .i64 s, .pointer (some ⟨w.heap.size, 0, none⟩), .pointer (some ⟨w.heap.size + 1, 0, none⟩), .pointer (some ⟨w.heap.size + 1 + 1, 0, none⟩), .pointer (some ⟨Bx, 0, none⟩), undef, .int .i64 s, (.func (.func 143) #[] #[.pointer (some ⟨w.heap.size + 1 + 1 + 1, 0, none⟩)]), .int .i64 (p.val : Nat), undef, undef, undef, undef, undef, undef, undef, undef, undef, undef, undef, undef], defers := [] })
  (fun p a' _ Y Z row hs hg hr => by obtain ⟨Bx, h1, h2, h3⟩ := hs; exact ⟨Bx, h1, kL 0 Bx 3 (fun (_ : Unit) => #[.int .i64 (p.val : Nat)]) () Y Z row h2 hg (fun r e => ⟨Nat.zero_le _, (hr r e).2⟩), h3⟩)
  ?assign ?body ?done ?stop
 case assign =>
  rintro l pre p W K2 ⟨hall, hB⟩ hK2
  have hWs := hB.size
  gi_wp2
  exact hK2 _ _ ((KeepsOthers.alloc _ _).from _) (Below.heap_alloc _ _ _ (by omega)) ⟨hall, hB.alloc (by omega) _⟩ ⟨W.heap.size, hWs, aq _ _, rfl⟩
 case body =>
  rintro l pre p a' W hl ⟨rec, hrec⟩ ⟨hall, hB⟩ ⟨Bx, hBx, hP, rfl⟩ hlt
  obtain ⟨iT, iS, iO⟩ := HBI.out W hB
  haveI iP : IsBlk W Bx #[.int .i64 (p.val : Nat)] 3 := ⟨hP⟩
  have hWs := hB.size
  gi_wp2_with (refine ⟨trivial, ?_⟩; gi_at_call 55; refine (CallsIn.inRound l (callsIn_wide.2 (dz _ _))).mono ?_; rintro e w' ⟨rfl, rfl⟩)
  obtain ⟨Y, hY⟩ : ∃ Y, W.alloc (.cells #[.int .i64 s] 3) = Y := ⟨_, rfl⟩
  have jP : IsBlk Y Bx #[.int .i64 (p.val : Nat)] 3 := by rw [← hY]; infer_instance
  have jT : IsBlk Y w.heap.size T 34 := by rw [← hY]; infer_instance
  have jO : IsBlk Y (w.heap.size + 1 + 1) #[.bool false] 4 := by rw [← hY]; infer_instance
  have bN2 : Boxed Y W.heap.size 3 (.int .i64 s) := by rw [← hY]; exact (inferInstance : IsBlk _ _ _ _).out
  have hYs : W.heap.size + 1 ≤ Y.heap.size ∧ Y.heap.size ≤ W.heap.size + 1 := by rw [← hY]; simp
  have hYb : Below W.heap.size W Y := by rw [← hY]; all_goals try exact yd
  have hYl : Y.heap[l]? = some (.loop rec) := (hYb.block _ (Array.getElem?_eq_some_iff.1 hrec).1).trans hrec
  rw [hY]
  clear hY
  have hBxl : Bx < W.heap.size := (Array.getElem?_eq_some_iff.1 hP).1
  have h2' : (1 : Nat) ≤ 9 - 1 - 1 := by omega
  have hXY : Below X.heap.size X Y := hB.trans (hYb.mono hWs)
  have HBJ : Hid (∀ W2, Below Y.heap.size Y W2 → IsBlk W2 w.heap.size T 34 ∧ IsBlk W2 Bx #[.int .i64 (p.val : Nat)] 3 ∧ IsBlk W2 (w.heap.size + 1 + 1) #[.bool false] 4) := Lib.hid fun W2 hb => ⟨⟨(hb.block _ (by omega)).trans jT.out⟩, ⟨(hb.block _ (by omega)).trans jP.out⟩, ⟨(hb.block _ (by omega)).trans jO.out⟩⟩
  have HKX : Hid (∀ W2, Below Y.heap.size Y W2 → KeepsFrom X.heap.size W W2) := Lib.hid fun W2 hb => cr (hYb.trans (hb.mono hYb.size))
  obtain ⟨p, hp⟩ := p
  have HNP : Hid (anq p = false → ((pre ++ [(⟨p, hp⟩ : Fin 8)]).any fun p : Fin 8 => anq p.val) = false) := Lib.hid fun h => by rw [List.any_append, hall, List.any_cons, List.any_nil]; simp only; rw [h]; rfl
  clear iT iS iO jP jT jO iP
  refine wpIn_rangeFunc_ownN (l₀ := l) (r₀ := rec) rfl hYl h2' (gf := 143) (lb := #[.pointer (some ⟨W.heap.size, 0, none⟩)]) rfl trivial (enters_of Tryz.func143 (by kernel_rfl) rfl)
   ((ce 6 (by omega) W.heap.size s Y (by omega) bN2.cell).inRound l) dV (d7 (by omega)) (Below.refl _ _) (fun _ => rfl)
   (fun pre2 W2 => (pre2.any fun q : Fin 8 => tst p q.val) = false ∧ Below Y.heap.size Y W2)
   (fun c pre2 W2 => (c = .ret ∧ ∃ q ∈ pre2, tst p q.val = true) ∧ (W2.cell? ⟨w.heap.size + 1 + 1, 0, none⟩ = some (.bool true) ∧ (Below w.heap.size w W2 ∧ KeepsFrom X.heap.size W W2)))
   (OwnFrom.and (ownFrom_pure _ _) (ownFrom_below (Nat.le_refl _) (Nat.le_refl _)))
   (fun c => OwnFrom.and (ownFrom_pure _ _) (OwnFrom.and (Own.from (fun s A B row hs hg hr => cell_kept hs hg hr) _) (OwnFrom.and (ownFrom_below (Nat.le_refl _) (by omega)) (ownFrom_keepsFrom (by omega)))))
   ⟨rfl, Below.refl _ _⟩
   (fun q a' _ => a' = { tmps := #[.agg T, .int .i64 s, .pointer (some ⟨w.heap.size, 0, none⟩), .pointer (some ⟨w.heap.size + 1, 0, none⟩), .pointer (some ⟨w.heap.size + 1 + 1, 0, none⟩), .pointer (some ⟨Bx, 0, none⟩), .int .i64 (q.val : Nat), .int .i64 s, (.func (.func 143) #[] #[.pointer (some ⟨w.heap.size + 1 + 1 + 1, 0, none⟩)]), .int .i64 (p : Nat), .int .i64 s, (.func (.func 143) #[] #[.pointer (some ⟨W.heap.size, 0, none⟩)]), .int .i64 (q.val : Nat), undef, undef, undef, undef, undef, undef, undef, undef, undef], defers := [] })
   (fun _ _ _ _ _ _ hs _ _ => hs)
   ?assign2 ?body2 ?done2 ?stop2
  case assign2 =>
   intro l2 pre2 q W2 K2 hi hK2
   gi_wp2
   exact hK2 _ _ (KeepsFrom.refl _ _) rfl hi rfl
  case body2 =>
   rintro l2 pre2 ⟨q, hq⟩ a2 W2 hl2 _ ⟨hall2, hB2⟩ rfl hlt2
   obtain ⟨iT, iP, iO⟩ := HBJ.out W2 hB2
   have el : Sem.run Tryz.prog (Instr.loadAt 34 (.pointer (some ⟨w.heap.size, 0, none⟩))) W2 = .ok (.agg T) W2 := cA
   have hsz := hB2.size
   have hBw2 : Below w.heap.size w W2 := hX0.trans ((hXY.trans (hB2.mono hXY.size)).mono (by omega))
   have HC : Hid (Calls Tryz.prog 196 #[.agg T, .int .i64 p, .int .i64 q] W2 fun e w' => e = .returned (.bool (be p q)) ∧ ∃ u : Up W2, w' = u.w) := Lib.hid (Up.run (HBE.out p q hp hq W2 hBw2))
   have hjc : HasCell W2 (w.heap.size + 1 + 1) 0 := HasCell.of (v := .bool false) (by rw [IsBlk.cell]; rfl)
   have HB2 := Lib.hid hB2
   have HBW := Lib.hid hBw2
   have HFIN : Hid (∀ W3, Below W2.heap.size W2 W3 → (W3.cell? ⟨w.heap.size + 1 + 1, 0, none⟩).isSome = true → KeepsFrom Y.heap.size W2 (W3.setCell ⟨w.heap.size + 1 + 1, 0, none⟩ (.bool true)) ∧ (W3.setCell ⟨w.heap.size + 1 + 1, 0, none⟩ (.bool true)).cell? ⟨w.heap.size + 1 + 1, 0, none⟩ = some (.bool true) ∧ Below w.heap.size w (W3.setCell ⟨w.heap.size + 1 + 1, 0, none⟩ (.bool true)) ∧ KeepsFrom X.heap.size W (W3.setCell ⟨w.heap.size + 1 + 1, 0, none⟩ (.bool true))) := Lib.hid fun W3 hb hs =>
    ⟨(cr hb).trans ((KeepsOthers.setCell _ _ _).from _), World.cell?_setCell_same' W3 ⟨w.heap.size + 1 + 1, 0, none⟩ (.bool true) hs, (hBw2.trans (hb.mono (by omega))).setCell (p := ⟨w.heap.size + 1 + 1, 0, none⟩) (Nat.le_trans (Nat.le_succ _) (Nat.le_succ _)) _, ((HKX.out _ (HB2.out.trans (hb.mono hsz)))).trans ((KeepsOthers.setCell _ _ _).from _)⟩
   have HTK : Hid (tst p q = (((p : Int) != (q : Int)) && be p q)) := Lib.hid (HTS.out p q)
   have HNO : Hid (tst p q = false → ∀ W3, Below W2.heap.size W2 W3 → KeepsFrom Y.heap.size W2 W3 ∧ fe W.heap.size W2 W3 ∧ ((pre2 ++ [(⟨q, hq⟩ : Fin 8)]).any fun q : Fin 8 => tst p q.val) = false ∧ Below Y.heap.size Y W3) := Lib.hid fun h W3 hb => ⟨cr hb, hb.block _ (by omega), by rw [List.any_append, hall2, List.any_cons, List.any_nil]; simp only; rw [h]; rfl, HB2.out.trans (hb.mono hsz)⟩
   have HYES : Hid (tst p q = true → ∃ q' ∈ pre2 ++ [(⟨q, hq⟩ : Fin 8)], tst p q'.val = true) := Lib.hid fun h => ⟨⟨q, hq⟩, by simp, h⟩
   generalize be p q = b at *
   clear hBw2 hB2
   cases e1 : ((p : Int) != (q : Int))
   ·have HE := Lib.hid (HNO.out (by rw [HTK.out, e1]; rfl))
    clear HNO HYES HFIN HTK HC
    gi_wp2
    refine ⟨trivial, ?_⟩
    gi_wp2
    exact HE.out _ (Below.refl _ _)
   ·cases b
    ·have HTE : Hid (tst p q = false) := Lib.hid (by rw [HTK.out, e1]; rfl)
     gi_wp2_with (first | (refine cD rfl rfl rfl el ?_; go_simp) | (refine ⟨trivial, ?_⟩; gi_at_call 196; refine (CallsIn.inRound l2 (CallsIn.inRound l (callsIn_wide.2 HC.out))).mono ?_; rintro e w' ⟨rfl, u, rfl⟩))
     exact HNO.out HTE.out _ u.bel
    ·have HTE : Hid (tst p q = true) := Lib.hid (by rw [HTK.out, e1]; rfl)
     gi_wp2_with (first | (refine cD rfl rfl rfl el ?_; go_simp) | (refine ⟨trivial, ?_⟩; gi_at_call 196; refine (CallsIn.inRound l2 (CallsIn.inRound l (callsIn_wide.2 HC.out))).mono ?_; rintro e w' ⟨rfl, u, rfl⟩))
     exact ⟨(HFIN.out _ u.bel (HasCell.out)).1, ⟨rfl, HYES.out HTE.out⟩, (HFIN.out _ u.bel (HasCell.out)).2⟩
  case done2 =>
   rintro qs W2 rfl ⟨hall2, hB2⟩
   gi_wp2
   exact ⟨HKX.out _ hB2, hB2.block (w.heap.size + 1 + 1 + 1) (by omega) |>.trans (hYb.block _ (by omega)), fun x hx => (by have := List.any_eq_false.1 (HNP.out (by rw [HAQ.out]; exact hall2)) x hx; simpa using this), hXY.trans (hB2.mono hXY.size)⟩
  case stop2 =>
   rintro c pre2 W2 hpre ⟨⟨rfl, q, hq, hqr⟩, hc, hBw, hKX⟩
   gi_wp2
   exact ⟨hKX, ⟨rfl, ⟨p, hp⟩, by simp, by show anq p = true; rw [HAQ.out]; exact List.any_eq_true.2 ⟨q, hpre.subset hq, hqr⟩⟩, hc, hBw⟩
 case done =>
  rintro D ys W hD rfl ⟨hall, hB⟩ hK
  obtain ⟨iT2, iS2, iO2⟩ := HBI.out W hB
  have c6 : W.cell? ⟨w.heap.size + 1 + 1, 0, none⟩ = some (.bool false) := by rw [IsBlk.cell]; rfl
  have hjc := HasCell.of c6
  go_wp2
  have hK' := (KeepsOthers.setCell W ⟨w.heap.size + 1 + 1, 0, none⟩ (.bool false)).same D _ hK rfl
  refine ⟨by simp, .inl ⟨_, _, rfl, run_takeDeferred hK', ?_⟩⟩
  have hc5 := cell_kept (World.cell?_setCell_same' W ⟨w.heap.size + 1 + 1, 0, none⟩ (.bool false) (by rw [c6]; rfl)) (grownBy_putObj' _ D (.deferred none)) (fun r e => by cases e; exact ⟨_, hK', rfl⟩)
  refine ⟨.bool false, ?_, by rw [← HV.out, hall], ((hX0.trans (hB.mono (by omega))).setCell (p := ⟨w.heap.size + 1 + 1, 0, none⟩) (Nat.le_trans (Nat.le_succ _) (Nat.le_succ _)) _).trans (belowK_b (w := w) (Nat.le_refl _) _ D _ _ (by omega) hK' rfl rfl)⟩
  simp [results, Tryz.f148, go_sem, hc5]
 case stop =>
  rintro D c pre W hD hpre ⟨⟨rfl, p, hp, hpr⟩, hc, hB⟩ hK
  have htrue : V = true := by
   rw [← HV.out, List.any_eq_true]
   exact ⟨p, hpre.subset hp, hpr⟩
  gi_wp2
  refine ⟨by simp, .inl ⟨_, _, rfl, run_takeDeferred hK, ?_⟩⟩
  have hc5 := cell_kept hc (grownBy_putObj' _ D (.deferred none)) (fun r e => by cases e; exact ⟨_, hK, rfl⟩)
  refine ⟨.bool true, ?_, by rw [htrue], hB.trans (belowK_b (w := w) (Nat.le_refl _) W D _ _ (by omega) hK rfl rfl)⟩
  simp [results, Tryz.f148, go_sem, hc5]
theorem qE (T : Array Value) [hz : Sz131 T] (s : Int) (be : Nat → Nat → Bool) (V : Bool) (w : World)
  (HBE : Hid (∀ p q : Nat, p < 8 → q < 8 → ∀ W, Below w.heap.size w W → Calls Tryz.prog 147 #[.agg T, .int .i64 p, .int .i64 q] W fun e w' => e = .returned (.bool (be p q)) ∧ Below W.heap.size W w'))
  (hV : ((aX s 8).any fun p => (aX s 8).any fun q => ((p.val : Int) != (q.val : Int)) && !be p.val q.val) = V) :
  Calls Tryz.prog 149 #[.agg T, .int .i64 s] w fun e w' => e = .returned (.bool V) ∧ Below w.heap.size w w' := by
 obtain ⟨tst, htst⟩ : ∃ tst : Nat → Nat → Bool, tst = fun p q : Nat => ((p : Int) != (q : Int)) && !be p q := ⟨_, rfl⟩
 have HTS : Hid (∀ p q : Nat, tst p q = (((p : Int) != (q : Int)) && !be p q)) := Lib.hid fun p q => by rw [htst]
 obtain ⟨anq, hanq⟩ : ∃ anq : Nat → Bool, anq = fun p : Nat => (aX s 8).any fun q => tst p q.val := ⟨_, rfl⟩
 have HAQ : Hid (∀ p : Nat, anq p = (aX s 8).any fun q => tst p q.val) := Lib.hid fun p => by rw [hanq]
 have HV : Hid (((aX s 8).any fun p => anq p.val) = V) := Lib.hid (by rw [hanq, htst]; exact hV)
 clear hV htst hanq
 refine (callsIn_wide (n := 9)).1 ?_
 refine callsIn_of_wp_marks Tryz.func149 rfl trivial ?_ rfl
 simp only [Tryz.ntmps149, List.size_toArray, List.length_cons, List.length_nil, Nat.reduceAdd, Nat.reduceSub, Array.replicate_succ, Array.replicate_zero, List.push_toArray, List.append_toArray, List.nil_append, List.cons_append]
 refine wpIn_wide.2 ?_
 go_wp2_with (go_at_call 55; refine (dz _ _).mono ?_; rintro e w' ⟨rfl, rfl⟩)
 obtain ⟨X, hX⟩ : ∃ X, (((w.alloc (.cells T 34)).alloc (.cells #[.int .i64 s] 3)).alloc (.cells #[.bool false] 4)).alloc (.cells #[.int .i64 s] 3) = X := ⟨_, rfl⟩
 have iT : IsBlk X w.heap.size T 34 := by rw [← hX]; infer_instance
 have iS : IsBlk X (w.heap.size + 1) #[.int .i64 s] 3 := by rw [← hX]; infer_instance
 have iO : IsBlk X (w.heap.size + 1 + 1) #[.bool false] 4 := by rw [← hX]; infer_instance
 have bN : Boxed X (w.heap.size + 1 + 1 + 1) 3 (.int .i64 s) := by rw [← hX]; exact (inferInstance : IsBlk _ _ _ _).out
 have hXs : w.heap.size + 4 ≤ X.heap.size ∧ X.heap.size ≤ w.heap.size + 4 := by rw [← hX]; simp
 have hX0 : Below w.heap.size w X := by rw [← hX]; all_goals try exact yd
 rw [hX]
 clear hX
 have h1' : (1 : Nat) ≤ 9 := by omega
 have hstops := ce 8 (by omega) (w.heap.size + 1 + 1 + 1) s X (by omega) bN.cell
 have HBI : Hid (∀ W, Below X.heap.size X W → IsBlk W w.heap.size T 34 ∧ IsBlk W (w.heap.size + 1) #[.int .i64 s] 3 ∧ IsBlk W (w.heap.size + 1 + 1) #[.bool false] 4) := Lib.hid fun W hb => ⟨⟨(hb.block _ (by omega)).trans iT.out⟩, ⟨(hb.block _ (by omega)).trans iS.out⟩, ⟨(hb.block _ (by omega)).trans iO.out⟩⟩
 refine (wpIn_wide (n := 9)).1 ?_
 clear iT iS iO bN
 refine wpIn_rangeFunc_ownH rfl h1' (gf := 143) (lb := #[.pointer (some ⟨w.heap.size + 1 + 1 + 1, 0, none⟩)]) rfl trivial (enters_of Tryz.func143 (by kernel_rfl) rfl)
  hstops dV (d7 (by omega)) (Below.refl _ _) (fun _ => rfl)
  (fun pre W => (pre.any fun p : Fin 8 => anq p.val) = false ∧ Below X.heap.size X W)
  (fun c pre W => (c = .ret ∧ ∃ p ∈ pre, anq p.val = true) ∧ (W.cell? ⟨w.heap.size + 1 + 1, 0, none⟩ = some (.bool true) ∧ Below w.heap.size w W))
  (OwnFrom.and (ownFrom_pure _ _) (ownFrom_below (Nat.le_refl _) (Nat.le_refl _)))
  (fun c => OwnFrom.and (ownFrom_pure _ _) (OwnFrom.and (Own.from (fun s A B row hs hg hr => cell_kept hs hg hr) _) (ownFrom_below (Nat.le_refl _) (by omega))))
  ⟨rfl, Below.refl _ _⟩
  (fun p a' W => ∃ Bx, X.heap.size ≤ Bx ∧ W.heap[Bx]? = some (.cells #[.int .i64 (p.val : Nat)] 3) ∧ a' = { tmps := #[.agg T, .int .i64 s, .pointer (some ⟨w.heap.size, 0, none⟩), .pointer (some ⟨w.heap.size + 1, 0, none⟩), .pointer (some ⟨w.heap.size + 1 + 1, 0, none⟩), .pointer (some ⟨Bx, 0, none⟩), undef, .int .i64 s, (.func (.func 143) #[] #[.pointer (some ⟨w.heap.size + 1 + 1 + 1, 0, none⟩)]), .int .i64 (p.val : Nat), undef, undef, undef, undef, undef, undef, undef, undef, undef, undef, undef, undef, undef], defers := [] })
  (fun p a' _ Y Z row hs hg hr => by obtain ⟨Bx, h1, h2, h3⟩ := hs; exact ⟨Bx, h1, kL 0 Bx 3 (fun (_ : Unit) => #[.int .i64 (p.val : Nat)]) () Y Z row h2 hg (fun r e => ⟨Nat.zero_le _, (hr r e).2⟩), h3⟩)
  ?assign ?body ?done ?stop
 case assign =>
  rintro l pre p W K2 ⟨hall, hB⟩ hK2
  have hWs := hB.size
  gi_wp2
  exact hK2 _ _ ((KeepsOthers.alloc _ _).from _) (Below.heap_alloc _ _ _ (by omega)) ⟨hall, hB.alloc (by omega) _⟩ ⟨W.heap.size, hWs, aq _ _, rfl⟩
 case body =>
  rintro l pre p a' W hl ⟨rec, hrec⟩ ⟨hall, hB⟩ ⟨Bx, hBx, hP, rfl⟩ hlt
  obtain ⟨iT, iS, iO⟩ := HBI.out W hB
  haveI iP : IsBlk W Bx #[.int .i64 (p.val : Nat)] 3 := ⟨hP⟩
  have hWs := hB.size
  gi_wp2_with (refine ⟨trivial, ?_⟩; gi_at_call 55; refine (CallsIn.inRound l (callsIn_wide.2 (dz _ _))).mono ?_; rintro e w' ⟨rfl, rfl⟩)
  obtain ⟨Y, hY⟩ : ∃ Y, W.alloc (.cells #[.int .i64 s] 3) = Y := ⟨_, rfl⟩
  have jP : IsBlk Y Bx #[.int .i64 (p.val : Nat)] 3 := by rw [← hY]; infer_instance
  have jT : IsBlk Y w.heap.size T 34 := by rw [← hY]; infer_instance
  have jO : IsBlk Y (w.heap.size + 1 + 1) #[.bool false] 4 := by rw [← hY]; infer_instance
  have bN2 : Boxed Y W.heap.size 3 (.int .i64 s) := by rw [← hY]; exact (inferInstance : IsBlk _ _ _ _).out
  have hYs : W.heap.size + 1 ≤ Y.heap.size ∧ Y.heap.size ≤ W.heap.size + 1 := by rw [← hY]; simp
  have hYb : Below W.heap.size W Y := by rw [← hY]; all_goals try exact yd
  have hYl : Y.heap[l]? = some (.loop rec) := (hYb.block _ (Array.getElem?_eq_some_iff.1 hrec).1).trans hrec
  rw [hY]
  clear hY
  have hBxl : Bx < W.heap.size := (Array.getElem?_eq_some_iff.1 hP).1
  have h2' : (1 : Nat) ≤ 9 - 1 - 1 := by omega
  have hXY : Below X.heap.size X Y := hB.trans (hYb.mono hWs)
  have HBJ : Hid (∀ W2, Below Y.heap.size Y W2 → IsBlk W2 w.heap.size T 34 ∧ IsBlk W2 Bx #[.int .i64 (p.val : Nat)] 3 ∧ IsBlk W2 (w.heap.size + 1 + 1) #[.bool false] 4) := Lib.hid fun W2 hb => ⟨⟨(hb.block _ (by omega)).trans jT.out⟩, ⟨(hb.block _ (by omega)).trans jP.out⟩, ⟨(hb.block _ (by omega)).trans jO.out⟩⟩
  have HKX : Hid (∀ W2, Below Y.heap.size Y W2 → KeepsFrom X.heap.size W W2) := Lib.hid fun W2 hb => cr (hYb.trans (hb.mono hYb.size))
  obtain ⟨p, hp⟩ := p
  have HNP : Hid (anq p = false → ((pre ++ [(⟨p, hp⟩ : Fin 8)]).any fun p : Fin 8 => anq p.val) = false) := Lib.hid fun h => by rw [List.any_append, hall, List.any_cons, List.any_nil]; simp only; rw [h]; rfl
  clear iT iS iO jP jT jO iP
  refine wpIn_rangeFunc_ownN (l₀ := l) (r₀ := rec) rfl hYl h2' (gf := 143) (lb := #[.pointer (some ⟨W.heap.size, 0, none⟩)]) rfl trivial (enters_of Tryz.func143 (by kernel_rfl) rfl)
   ((ce 6 (by omega) W.heap.size s Y (by omega) bN2.cell).inRound l) dV (d7 (by omega)) (Below.refl _ _) (fun _ => rfl)
   (fun pre2 W2 => (pre2.any fun q : Fin 8 => tst p q.val) = false ∧ Below Y.heap.size Y W2)
   (fun c pre2 W2 => (c = .ret ∧ ∃ q ∈ pre2, tst p q.val = true) ∧ (W2.cell? ⟨w.heap.size + 1 + 1, 0, none⟩ = some (.bool true) ∧ (Below w.heap.size w W2 ∧ KeepsFrom X.heap.size W W2)))
   (OwnFrom.and (ownFrom_pure _ _) (ownFrom_below (Nat.le_refl _) (Nat.le_refl _)))
   (fun c => OwnFrom.and (ownFrom_pure _ _) (OwnFrom.and (Own.from (fun s A B row hs hg hr => cell_kept hs hg hr) _) (OwnFrom.and (ownFrom_below (Nat.le_refl _) (by omega)) (ownFrom_keepsFrom (by omega)))))
   ⟨rfl, Below.refl _ _⟩
   (fun q a' _ => a' = { tmps := #[.agg T, .int .i64 s, .pointer (some ⟨w.heap.size, 0, none⟩), .pointer (some ⟨w.heap.size + 1, 0, none⟩), .pointer (some ⟨w.heap.size + 1 + 1, 0, none⟩), .pointer (some ⟨Bx, 0, none⟩), .int .i64 (q.val : Nat), .int .i64 s, (.func (.func 143) #[] #[.pointer (some ⟨w.heap.size + 1 + 1 + 1, 0, none⟩)]), .int .i64 (p : Nat), .int .i64 s, (.func (.func 143) #[] #[.pointer (some ⟨W.heap.size, 0, none⟩)]), .int .i64 (q.val : Nat), undef, undef, undef, undef, undef, undef, undef, undef, undef, undef], defers := [] })
   (fun _ _ _ _ _ _ hs _ _ => hs)
   ?assign2 ?body2 ?done2 ?stop2
  case assign2 =>
   intro l2 pre2 q W2 K2 hi hK2
   gi_wp2
   exact hK2 _ _ (KeepsFrom.refl _ _) rfl hi rfl
  case body2 =>
   rintro l2 pre2 ⟨q, hq⟩ a2 W2 hl2 _ ⟨hall2, hB2⟩ rfl hlt2
   obtain ⟨iT, iP, iO⟩ := HBJ.out W2 hB2
   have el : Sem.run Tryz.prog (Instr.loadAt 34 (.pointer (some ⟨w.heap.size, 0, none⟩))) W2 = .ok (.agg T) W2 := cA
   have hsz := hB2.size
   have hBw2 : Below w.heap.size w W2 := hX0.trans ((hXY.trans (hB2.mono hXY.size)).mono (by omega))
   have HC : Hid (Calls Tryz.prog 147 #[.agg T, .int .i64 p, .int .i64 q] W2 fun e w' => e = .returned (.bool (be p q)) ∧ ∃ u : Up W2, w' = u.w) := Lib.hid (Up.run (HBE.out p q hp hq W2 hBw2))
   have hjc : HasCell W2 (w.heap.size + 1 + 1) 0 := HasCell.of (v := .bool false) (by rw [IsBlk.cell]; rfl)
   have HB2 := Lib.hid hB2
   have HBW := Lib.hid hBw2
   have HFIN : Hid (∀ W3, Below W2.heap.size W2 W3 → (W3.cell? ⟨w.heap.size + 1 + 1, 0, none⟩).isSome = true → KeepsFrom Y.heap.size W2 (W3.setCell ⟨w.heap.size + 1 + 1, 0, none⟩ (.bool true)) ∧ (W3.setCell ⟨w.heap.size + 1 + 1, 0, none⟩ (.bool true)).cell? ⟨w.heap.size + 1 + 1, 0, none⟩ = some (.bool true) ∧ Below w.heap.size w (W3.setCell ⟨w.heap.size + 1 + 1, 0, none⟩ (.bool true)) ∧ KeepsFrom X.heap.size W (W3.setCell ⟨w.heap.size + 1 + 1, 0, none⟩ (.bool true))) := Lib.hid fun W3 hb hs =>
    ⟨(cr hb).trans ((KeepsOthers.setCell _ _ _).from _), World.cell?_setCell_same' W3 ⟨w.heap.size + 1 + 1, 0, none⟩ (.bool true) hs, (hBw2.trans (hb.mono (by omega))).setCell (p := ⟨w.heap.size + 1 + 1, 0, none⟩) (Nat.le_trans (Nat.le_succ _) (Nat.le_succ _)) _, ((HKX.out _ (HB2.out.trans (hb.mono hsz)))).trans ((KeepsOthers.setCell _ _ _).from _)⟩
   have HTK : Hid (tst p q = (((p : Int) != (q : Int)) && !be p q)) := Lib.hid (HTS.out p q)
   have HNO : Hid (tst p q = false → ∀ W3, Below W2.heap.size W2 W3 → KeepsFrom Y.heap.size W2 W3 ∧ fe W.heap.size W2 W3 ∧ ((pre2 ++ [(⟨q, hq⟩ : Fin 8)]).any fun q : Fin 8 => tst p q.val) = false ∧ Below Y.heap.size Y W3) := Lib.hid fun h W3 hb => ⟨cr hb, hb.block _ (by omega), by rw [List.any_append, hall2, List.any_cons, List.any_nil]; simp only; rw [h]; rfl, HB2.out.trans (hb.mono hsz)⟩
   have HYES : Hid (tst p q = true → ∃ q' ∈ pre2 ++ [(⟨q, hq⟩ : Fin 8)], tst p q'.val = true) := Lib.hid fun h => ⟨⟨q, hq⟩, by simp, h⟩
   generalize be p q = b at *
   clear hBw2 hB2
   cases e1 : ((p : Int) != (q : Int))
   ·have HE := Lib.hid (HNO.out (by rw [HTK.out, e1]; rfl))
    clear HNO HYES HFIN HTK HC
    gi_wp2
    refine ⟨trivial, ?_⟩
    gi_wp2
    exact HE.out _ (Below.refl _ _)
   ·cases b
    ·have HTE : Hid (tst p q = true) := Lib.hid (by rw [HTK.out, e1]; rfl)
     gi_wp2_with (first | (refine cD rfl rfl rfl el ?_; go_simp) | (refine ⟨trivial, ?_⟩; gi_at_call 147; refine (CallsIn.inRound l2 (CallsIn.inRound l (callsIn_wide.2 HC.out))).mono ?_; rintro e w' ⟨rfl, u, rfl⟩))
     exact ⟨(HFIN.out _ u.bel (HasCell.out)).1, ⟨rfl, HYES.out HTE.out⟩, (HFIN.out _ u.bel (HasCell.out)).2⟩
    ·have HTE : Hid (tst p q = false) := Lib.hid (by rw [HTK.out, e1]; rfl)
     gi_wp2_with (first | (refine cD rfl rfl rfl el ?_; go_simp) | (refine ⟨trivial, ?_⟩; gi_at_call 147; refine (CallsIn.inRound l2 (CallsIn.inRound l (callsIn_wide.2 HC.out))).mono ?_; rintro e w' ⟨rfl, u, rfl⟩))
     exact HNO.out HTE.out _ u.bel
  case done2 =>
   rintro qs W2 rfl ⟨hall2, hB2⟩
   gi_wp2
   exact ⟨HKX.out _ hB2, hB2.block (w.heap.size + 1 + 1 + 1) (by omega) |>.trans (hYb.block _ (by omega)), fun x hx => (by have := List.any_eq_false.1 (HNP.out (by rw [HAQ.out]; exact hall2)) x hx; simpa using this), hXY.trans (hB2.mono hXY.size)⟩
  case stop2 =>
   rintro c pre2 W2 hpre ⟨⟨rfl, q, hq, hqr⟩, hc, hBw, hKX⟩
   gi_wp2
   exact ⟨hKX, ⟨rfl, ⟨p, hp⟩, by simp, by show anq p = true; rw [HAQ.out]; exact List.any_eq_true.2 ⟨q, hpre.subset hq, hqr⟩⟩, hc, hBw⟩
 case done =>
  rintro D ys W hD rfl ⟨hall, hB⟩ hK
  obtain ⟨iT2, iS2, iO2⟩ := HBI.out W hB
  have c6 : W.cell? ⟨w.heap.size + 1 + 1, 0, none⟩ = some (.bool false) := by rw [IsBlk.cell]; rfl
  have hjc := HasCell.of c6
  go_wp2
  have hK' := (KeepsOthers.setCell W ⟨w.heap.size + 1 + 1, 0, none⟩ (.bool false)).same D _ hK rfl
  refine ⟨by simp, .inl ⟨_, _, rfl, run_takeDeferred hK', ?_⟩⟩
  have hc5 := cell_kept (World.cell?_setCell_same' W ⟨w.heap.size + 1 + 1, 0, none⟩ (.bool false) (by rw [c6]; rfl)) (grownBy_putObj' _ D (.deferred none)) (fun r e => by cases e; exact ⟨_, hK', rfl⟩)
  refine ⟨.bool false, ?_, by rw [← HV.out, hall], ((hX0.trans (hB.mono (by omega))).setCell (p := ⟨w.heap.size + 1 + 1, 0, none⟩) (Nat.le_trans (Nat.le_succ _) (Nat.le_succ _)) _).trans (belowK_b (w := w) (Nat.le_refl _) _ D _ _ (by omega) hK' rfl rfl)⟩
  simp [results, Tryz.f149, go_sem, hc5]
 case stop =>
  rintro D c pre W hD hpre ⟨⟨rfl, p, hp, hpr⟩, hc, hB⟩ hK
  have htrue : V = true := by
   rw [← HV.out, List.any_eq_true]
   exact ⟨p, hpre.subset hp, hpr⟩
  gi_wp2
  refine ⟨by simp, .inl ⟨_, _, rfl, run_takeDeferred hK, ?_⟩⟩
  have hc5 := cell_kept hc (grownBy_putObj' _ D (.deferred none)) (fun r e => by cases e; exact ⟨_, hK, rfl⟩)
  refine ⟨.bool true, ?_, by rw [htrue], hB.trans (belowK_b (w := w) (Nat.le_refl _) W D _ _ (by omega) hK rfl rfl)⟩
  simp [results, Tryz.f149, go_sem, hc5]
end
section
open Go.RowKit Go.Shelf
attribute [local go_sem] IsBlk.cell IsBlk.frozen
theorem pQ (T : Array Value) (t : Tab) (on : Int) (p : Nat) (w : World) (hT : ag w T t) (hp : p < 8) :
  Calls Tryz.prog 71 #[.agg T, .int .i64 on, .int .i64 p] w fun e w' => e = .returned (.bool (jW t on p)) ∧ Below w.heap.size w w' := by
 haveI : Sz131 T := ⟨hT.size⟩
 refine tZ T on p t.cf (aT (t.cf p) p) (fun q => aT (t.cf p) q) (fun q => aT (t.cf q) p) (fun q => gk t.gr p q) (jW t on p) w hp (hT.cf p hp) (Lib.hid fun q hq => hT.cf q hq) (Lib.hid fun w => bA _ _ w) (Lib.hid fun q w => bA _ _ w) (Lib.hid fun q w => bA _ _ w)
  (Lib.hid fun q W hW => iH T t p q W (hT.below hW (Nat.le_refl _))) ?_
 unfold jW
 rw [em]
 simp only [Int.toNat_natCast]
theorem eW (T : Array Value) (t : Tab) (s : Int) (w : World) (hT : ag w T t) : Calls Tryz.prog 148 #[.agg T, .int .i64 s] w fun e w' => e = .returned (.bool (eh t s)) ∧ Below w.heap.size w w' := by
 haveI : Sz131 T := ⟨hT.size⟩
 refine mQ T s (fun p q => lK t p q) (eh t s) w (Lib.hid fun p q hp hq W hW => ow T t p q W (hT.below hW (Nat.le_refl _)) hp hq) ?_
 unfold eh
 rw [em]
 simp only [em s]
theorem aci (T : Array Value) (t : Tab) (s : Int) (w : World) (hT : ag w T t) : Calls Tryz.prog 149 #[.agg T, .int .i64 s] w fun e w' => e = .returned (.bool (mo t s)) ∧ Below w.heap.size w w' := by
 haveI : Sz131 T := ⟨hT.size⟩
 refine qE T s (fun p q => gk t.gr p q) (mo t s) w (Lib.hid fun p q hp hq W hW => iH T t p q W (hT.below hW (Nat.le_refl _))) ?_
 unfold mo
 rw [em]
 simp only [em s]
theorem aN {ops : Array Oper} {rest : List Oper} {op : Oper} {a : Act} {w : World} {Q : Exit → Act → World → Prop} {x : Operand} {b : Nat} {C : Array Value} {t : TypeId} (ho : op.op = .load 34 x) (hx : a.eval x = .pointer (some ⟨b, 0, none⟩)) (hw : Region.wanted op (yielded ops a.tmps) = true) [h : IsBlk w b C t] [hz : Sz131 C]
  (hk : wpList Tryz.prog ops Q rest (a.put op.dst (.agg C)) w) : wpList Tryz.prog ops Q (op :: rest) a w := dp hw ho hx cA hk
theorem aM {op : Oper} {a : Act} {w : World} {K : Act → World → Prop} {Q : Exit → Act → World → Prop} {x : Operand} {b : Nat} {C : Array Value} {t : TypeId} (ho : op.op = .load 34 x) (hx : a.eval x = .pointer (some ⟨b, 0, none⟩)) [h : IsBlk w b C t] [hz : Sz131 C]
  (hk : K (a.put op.dst (.agg C)) w) : Oper.wp Tryz.prog op a w K Q := by
 have hrun : Sem.run Tryz.prog (Instr.loadAt 34 (.pointer (some ⟨b, 0, none⟩))) w = .ok (.agg C) w := cA
 unfold Oper.wp execOp
 simp only [ho, hx]
 generalize Instr.loadAt 34 (Value.pointer (some ⟨b, 0, none⟩)) = L at hrun ⊢
 simp [go_sem, hrun]
 exact hk
theorem sM (T : Array Value) [hz : Sz131 T] (on a1 a2 a3 a4 a5 a6 a7 a8 a9 a10 a11 : Int) (b1 b2 b3 b4 : Bool) (w : World)
  (H1 : Hid (∀ W, Below w.heap.size w W → Calls Tryz.prog 148 #[.agg T, .int .i64 a2] W fun e w' => e = .returned (.bool b1) ∧ Below W.heap.size W w'))
  (H2 : Hid (∀ W, Below w.heap.size w W → Calls Tryz.prog 148 #[.agg T, .int .i64 a3] W fun e w' => e = .returned (.bool b2) ∧ Below W.heap.size W w'))
  (H3 : Hid (∀ W, Below w.heap.size w W → Calls Tryz.prog 148 #[.agg T, .int .i64 a4] W fun e w' => e = .returned (.bool b3) ∧ Below W.heap.size W w'))
  (H4 : Hid (∀ W, Below w.heap.size w W → Calls Tryz.prog 149 #[.agg T, .int .i64 a4] W fun e w' => e = .returned (.bool b4) ∧ Below W.heap.size W w'))
  (h1 : (bits .andNot .i64 (bits .or .i64 (bits .or .i64 (bits .or .i64 a1 a2) a3) a4) on != 0) = true) :
  Calls Tryz.prog 76 #[.agg T, .int .i64 on, .agg #[.int .i64 a1, .int .i64 a2, .int .i64 a3, .int .i64 a4, .int .i64 a5, .int .i64 a6, .int .i64 a7, .int .i64 a8, .int .i64 a9, .int .i64 a10, .int .i64 a11]] w fun e w' => e = .returned (.bool true) ∧ Below w.heap.size w w' := by
 go_enter Tryz.func76, Tryz.ntmps76
 go_wp2
 all_goals first
  | (go_ret; exact ⟨rfl, by exact yd⟩)
  | (exfalso; rename_i hu _; cases hu)
theorem sc (T : Array Value) [hz : Sz131 T] (on a1 a2 a3 a4 a5 a6 a7 a8 a9 a10 a11 : Int) (b1 b2 b3 b4 : Bool) (w : World)
  (H1 : Hid (∀ W, Below w.heap.size w W → Calls Tryz.prog 148 #[.agg T, .int .i64 a2] W fun e w' => e = .returned (.bool b1) ∧ Below W.heap.size W w'))
  (H2 : Hid (∀ W, Below w.heap.size w W → Calls Tryz.prog 148 #[.agg T, .int .i64 a3] W fun e w' => e = .returned (.bool b2) ∧ Below W.heap.size W w'))
  (H3 : Hid (∀ W, Below w.heap.size w W → Calls Tryz.prog 148 #[.agg T, .int .i64 a4] W fun e w' => e = .returned (.bool b3) ∧ Below W.heap.size W w'))
  (H4 : Hid (∀ W, Below w.heap.size w W → Calls Tryz.prog 149 #[.agg T, .int .i64 a4] W fun e w' => e = .returned (.bool b4) ∧ Below W.heap.size W w'))
  (h1 : (bits .andNot .i64 (bits .or .i64 (bits .or .i64 (bits .or .i64 a1 a2) a3) a4) on != 0) = false) (e2 : (a3 == 0) = true) :
  Calls Tryz.prog 76 #[.agg T, .int .i64 on, .agg #[.int .i64 a1, .int .i64 a2, .int .i64 a3, .int .i64 a4, .int .i64 a5, .int .i64 a6, .int .i64 a7, .int .i64 a8, .int .i64 a9, .int .i64 a10, .int .i64 a11]] w fun e w' => e = .returned (.bool true) ∧ Below w.heap.size w w' := by
 go_enter Tryz.func76, Tryz.ntmps76
 go_wp2
 all_goals first
  | (go_ret; exact ⟨rfl, by exact yd⟩)
  | (exfalso; rename_i hu _; cases hu)
theorem rr (T : Array Value) [hz : Sz131 T] (on a1 a2 a3 a4 a5 a6 a7 a8 a9 a10 a11 : Int) (b1 b2 b3 b4 : Bool) (w : World)
  (H1 : Hid (∀ W, Below w.heap.size w W → Calls Tryz.prog 148 #[.agg T, .int .i64 a2] W fun e w' => e = .returned (.bool b1) ∧ Below W.heap.size W w'))
  (H2 : Hid (∀ W, Below w.heap.size w W → Calls Tryz.prog 148 #[.agg T, .int .i64 a3] W fun e w' => e = .returned (.bool b2) ∧ Below W.heap.size W w'))
  (H3 : Hid (∀ W, Below w.heap.size w W → Calls Tryz.prog 148 #[.agg T, .int .i64 a4] W fun e w' => e = .returned (.bool b3) ∧ Below W.heap.size W w'))
  (H4 : Hid (∀ W, Below w.heap.size w W → Calls Tryz.prog 149 #[.agg T, .int .i64 a4] W fun e w' => e = .returned (.bool b4) ∧ Below W.heap.size W w'))
  (h1 : (bits .andNot .i64 (bits .or .i64 (bits .or .i64 (bits .or .i64 a1 a2) a3) a4) on != 0) = false) (e2 : (a3 == 0) = false) (e3 : (a4 == 0) = true) :
  Calls Tryz.prog 76 #[.agg T, .int .i64 on, .agg #[.int .i64 a1, .int .i64 a2, .int .i64 a3, .int .i64 a4, .int .i64 a5, .int .i64 a6, .int .i64 a7, .int .i64 a8, .int .i64 a9, .int .i64 a10, .int .i64 a11]] w fun e w' => e = .returned (.bool true) ∧ Below w.heap.size w w' := by
 go_enter Tryz.func76, Tryz.ntmps76
 go_wp2
 all_goals first
  | (go_ret; exact ⟨rfl, by exact yd⟩)
  | (exfalso; rename_i hu _; cases hu)
theorem rQ (T : Array Value) [hz : Sz131 T] (on a1 a2 a3 a4 a5 a6 a7 a8 a9 a10 a11 : Int) (b1 b2 b3 b4 : Bool) (w : World)
  (H1 : Hid (∀ W, Below w.heap.size w W → Calls Tryz.prog 148 #[.agg T, .int .i64 a2] W fun e w' => e = .returned (.bool b1) ∧ Below W.heap.size W w'))
  (H2 : Hid (∀ W, Below w.heap.size w W → Calls Tryz.prog 148 #[.agg T, .int .i64 a3] W fun e w' => e = .returned (.bool b2) ∧ Below W.heap.size W w'))
  (H3 : Hid (∀ W, Below w.heap.size w W → Calls Tryz.prog 148 #[.agg T, .int .i64 a4] W fun e w' => e = .returned (.bool b3) ∧ Below W.heap.size W w'))
  (H4 : Hid (∀ W, Below w.heap.size w W → Calls Tryz.prog 149 #[.agg T, .int .i64 a4] W fun e w' => e = .returned (.bool b4) ∧ Below W.heap.size W w'))
  (h1 : (bits .andNot .i64 (bits .or .i64 (bits .or .i64 (bits .or .i64 a1 a2) a3) a4) on != 0) = false) (e2 : (a3 == 0) = false) (e3 : (a4 == 0) = false) (h4 : (bits .and .i64 a3 a1 != 0) = true) :
  Calls Tryz.prog 76 #[.agg T, .int .i64 on, .agg #[.int .i64 a1, .int .i64 a2, .int .i64 a3, .int .i64 a4, .int .i64 a5, .int .i64 a6, .int .i64 a7, .int .i64 a8, .int .i64 a9, .int .i64 a10, .int .i64 a11]] w fun e w' => e = .returned (.bool true) ∧ Below w.heap.size w w' := by
 go_enter Tryz.func76, Tryz.ntmps76
 go_wp2
 all_goals first
  | (go_ret; exact ⟨rfl, by exact yd⟩)
  | (exfalso; rename_i hu _; cases hu)
theorem sn (T : Array Value) [hz : Sz131 T] (on a1 a2 a3 a4 a5 a6 a7 a8 a9 a10 a11 : Int) (b1 b2 b3 b4 : Bool) (w : World)
  (H1 : Hid (∀ W, Below w.heap.size w W → Calls Tryz.prog 148 #[.agg T, .int .i64 a2] W fun e w' => e = .returned (.bool b1) ∧ Below W.heap.size W w'))
  (H2 : Hid (∀ W, Below w.heap.size w W → Calls Tryz.prog 148 #[.agg T, .int .i64 a3] W fun e w' => e = .returned (.bool b2) ∧ Below W.heap.size W w'))
  (H3 : Hid (∀ W, Below w.heap.size w W → Calls Tryz.prog 148 #[.agg T, .int .i64 a4] W fun e w' => e = .returned (.bool b3) ∧ Below W.heap.size W w'))
  (H4 : Hid (∀ W, Below w.heap.size w W → Calls Tryz.prog 149 #[.agg T, .int .i64 a4] W fun e w' => e = .returned (.bool b4) ∧ Below W.heap.size W w'))
  (h1 : (bits .andNot .i64 (bits .or .i64 (bits .or .i64 (bits .or .i64 a1 a2) a3) a4) on != 0) = false) (e2 : (a3 == 0) = false) (e3 : (a4 == 0) = false) (h4 : (bits .and .i64 a3 a1 != 0) = false) (hb1 : b1 = true) :
  Calls Tryz.prog 76 #[.agg T, .int .i64 on, .agg #[.int .i64 a1, .int .i64 a2, .int .i64 a3, .int .i64 a4, .int .i64 a5, .int .i64 a6, .int .i64 a7, .int .i64 a8, .int .i64 a9, .int .i64 a10, .int .i64 a11]] w fun e w' => e = .returned (.bool true) ∧ Below w.heap.size w w' := by
 subst hb1
 go_enter Tryz.func76, Tryz.ntmps76
 go_wp2_with fail
 first | refine aN rfl rfl rfl ?_ | refine aM rfl rfl ?_
 go_simp
 go_wp2_with (go_at_call 148; (with_reducible refine (Up.run (H1.out _ ?_)).mono ?_); (focus exact yd); rintro e w' ⟨rfl, u1, rfl⟩)
 all_goals first
  | (go_ret; exact ⟨rfl, by exact yd⟩)
  | (exfalso; rename_i hu _; cases hu)
theorem tF (T : Array Value) [hz : Sz131 T] (on a1 a2 a3 a4 a5 a6 a7 a8 a9 a10 a11 : Int) (b1 b2 b3 b4 : Bool) (w : World)
  (H1 : Hid (∀ W, Below w.heap.size w W → Calls Tryz.prog 148 #[.agg T, .int .i64 a2] W fun e w' => e = .returned (.bool b1) ∧ Below W.heap.size W w'))
  (H2 : Hid (∀ W, Below w.heap.size w W → Calls Tryz.prog 148 #[.agg T, .int .i64 a3] W fun e w' => e = .returned (.bool b2) ∧ Below W.heap.size W w'))
  (H3 : Hid (∀ W, Below w.heap.size w W → Calls Tryz.prog 148 #[.agg T, .int .i64 a4] W fun e w' => e = .returned (.bool b3) ∧ Below W.heap.size W w'))
  (H4 : Hid (∀ W, Below w.heap.size w W → Calls Tryz.prog 149 #[.agg T, .int .i64 a4] W fun e w' => e = .returned (.bool b4) ∧ Below W.heap.size W w'))
  (h1 : (bits .andNot .i64 (bits .or .i64 (bits .or .i64 (bits .or .i64 a1 a2) a3) a4) on != 0) = false) (e2 : (a3 == 0) = false) (e3 : (a4 == 0) = false) (h4 : (bits .and .i64 a3 a1 != 0) = false) (hb1 : b1 = false) (hb2 : b2 = true) :
  Calls Tryz.prog 76 #[.agg T, .int .i64 on, .agg #[.int .i64 a1, .int .i64 a2, .int .i64 a3, .int .i64 a4, .int .i64 a5, .int .i64 a6, .int .i64 a7, .int .i64 a8, .int .i64 a9, .int .i64 a10, .int .i64 a11]] w fun e w' => e = .returned (.bool true) ∧ Below w.heap.size w w' := by
 subst hb1
 subst hb2
 go_enter Tryz.func76, Tryz.ntmps76
 go_wp2_with fail
 first | refine aN rfl rfl rfl ?_ | refine aM rfl rfl ?_
 go_simp
 go_wp2_with (go_at_call 148; (with_reducible refine (Up.run (H1.out _ ?_)).mono ?_); (focus exact yd); rintro e w' ⟨rfl, u1, rfl⟩)
 go_wp2_with fail
 first | refine aN rfl rfl rfl ?_ | refine aM rfl rfl ?_
 go_simp
 go_wp2_with (go_at_call 148; (with_reducible refine (Up.run (H2.out _ ?_)).mono ?_); (focus exact yd); rintro e w' ⟨rfl, u2, rfl⟩)
 all_goals first
  | (go_ret; exact ⟨rfl, by exact yd⟩)
  | (exfalso; rename_i hu _; cases hu)
theorem sF (T : Array Value) [hz : Sz131 T] (on a1 a2 a3 a4 a5 a6 a7 a8 a9 a10 a11 : Int) (b1 b2 b3 b4 : Bool) (w : World)
  (H1 : Hid (∀ W, Below w.heap.size w W → Calls Tryz.prog 148 #[.agg T, .int .i64 a2] W fun e w' => e = .returned (.bool b1) ∧ Below W.heap.size W w'))
  (H2 : Hid (∀ W, Below w.heap.size w W → Calls Tryz.prog 148 #[.agg T, .int .i64 a3] W fun e w' => e = .returned (.bool b2) ∧ Below W.heap.size W w'))
  (H3 : Hid (∀ W, Below w.heap.size w W → Calls Tryz.prog 148 #[.agg T, .int .i64 a4] W fun e w' => e = .returned (.bool b3) ∧ Below W.heap.size W w'))
  (H4 : Hid (∀ W, Below w.heap.size w W → Calls Tryz.prog 149 #[.agg T, .int .i64 a4] W fun e w' => e = .returned (.bool b4) ∧ Below W.heap.size W w'))
  (h1 : (bits .andNot .i64 (bits .or .i64 (bits .or .i64 (bits .or .i64 a1 a2) a3) a4) on != 0) = false) (e2 : (a3 == 0) = false) (e3 : (a4 == 0) = false) (h4 : (bits .and .i64 a3 a1 != 0) = false) (hb1 : b1 = false) (hb2 : b2 = false) (hb3 : b3 = true) :
  Calls Tryz.prog 76 #[.agg T, .int .i64 on, .agg #[.int .i64 a1, .int .i64 a2, .int .i64 a3, .int .i64 a4, .int .i64 a5, .int .i64 a6, .int .i64 a7, .int .i64 a8, .int .i64 a9, .int .i64 a10, .int .i64 a11]] w fun e w' => e = .returned (.bool true) ∧ Below w.heap.size w w' := by
 subst hb1
 subst hb2
 subst hb3
 go_enter Tryz.func76, Tryz.ntmps76
 go_wp2_with fail
 first | refine aN rfl rfl rfl ?_ | refine aM rfl rfl ?_
 go_simp
 go_wp2_with (go_at_call 148; (with_reducible refine (Up.run (H1.out _ ?_)).mono ?_); (focus exact yd); rintro e w' ⟨rfl, u1, rfl⟩)
 go_wp2_with fail
 first | refine aN rfl rfl rfl ?_ | refine aM rfl rfl ?_
 go_simp
 go_wp2_with (go_at_call 148; (with_reducible refine (Up.run (H2.out _ ?_)).mono ?_); (focus exact yd); rintro e w' ⟨rfl, u2, rfl⟩)
 go_wp2_with fail
 first | refine aN rfl rfl rfl ?_ | refine aM rfl rfl ?_
 go_simp
 go_wp2_with (go_at_call 148; (with_reducible refine (Up.run (H3.out _ ?_)).mono ?_); (focus exact yd); rintro e w' ⟨rfl, u3, rfl⟩)
 all_goals first
  | (go_ret; exact ⟨rfl, by exact yd⟩)
  | (exfalso; rename_i hu _; cases hu)
theorem sS (T : Array Value) [hz : Sz131 T] (on a1 a2 a3 a4 a5 a6 a7 a8 a9 a10 a11 : Int) (b1 b2 b3 b4 : Bool) (w : World)
  (H1 : Hid (∀ W, Below w.heap.size w W → Calls Tryz.prog 148 #[.agg T, .int .i64 a2] W fun e w' => e = .returned (.bool b1) ∧ Below W.heap.size W w'))
  (H2 : Hid (∀ W, Below w.heap.size w W → Calls Tryz.prog 148 #[.agg T, .int .i64 a3] W fun e w' => e = .returned (.bool b2) ∧ Below W.heap.size W w'))
  (H3 : Hid (∀ W, Below w.heap.size w W → Calls Tryz.prog 148 #[.agg T, .int .i64 a4] W fun e w' => e = .returned (.bool b3) ∧ Below W.heap.size W w'))
  (H4 : Hid (∀ W, Below w.heap.size w W → Calls Tryz.prog 149 #[.agg T, .int .i64 a4] W fun e w' => e = .returned (.bool b4) ∧ Below W.heap.size W w'))
  (h1 : (bits .andNot .i64 (bits .or .i64 (bits .or .i64 (bits .or .i64 a1 a2) a3) a4) on != 0) = false) (e2 : (a3 == 0) = false) (e3 : (a4 == 0) = false) (h4 : (bits .and .i64 a3 a1 != 0) = false) (hb1 : b1 = false) (hb2 : b2 = false) (hb3 : b3 = false) (hb4 : b4 = true) :
  Calls Tryz.prog 76 #[.agg T, .int .i64 on, .agg #[.int .i64 a1, .int .i64 a2, .int .i64 a3, .int .i64 a4, .int .i64 a5, .int .i64 a6, .int .i64 a7, .int .i64 a8, .int .i64 a9, .int .i64 a10, .int .i64 a11]] w fun e w' => e = .returned (.bool true) ∧ Below w.heap.size w w' := by
 subst hb1
 subst hb2
 subst hb3
 subst hb4
 go_enter Tryz.func76, Tryz.ntmps76
 go_wp2_with fail
 first | refine aN rfl rfl rfl ?_ | refine aM rfl rfl ?_
 go_simp
 go_wp2_with (go_at_call 148; (with_reducible refine (Up.run (H1.out _ ?_)).mono ?_); (focus exact yd); rintro e w' ⟨rfl, u1, rfl⟩)
 go_wp2_with fail
 first | refine aN rfl rfl rfl ?_ | refine aM rfl rfl ?_
 go_simp
 go_wp2_with (go_at_call 148; (with_reducible refine (Up.run (H2.out _ ?_)).mono ?_); (focus exact yd); rintro e w' ⟨rfl, u2, rfl⟩)
 go_wp2_with fail
 first | refine aN rfl rfl rfl ?_ | refine aM rfl rfl ?_
 go_simp
 go_wp2_with (go_at_call 148; (with_reducible refine (Up.run (H3.out _ ?_)).mono ?_); (focus exact yd); rintro e w' ⟨rfl, u3, rfl⟩)
 go_wp2_with fail
 first | refine aN rfl rfl rfl ?_ | refine aM rfl rfl ?_
 go_simp
 go_wp2_with (go_at_call 149; (with_reducible refine (Up.run (H4.out _ ?_)).mono ?_); (focus exact yd); rintro e w' ⟨rfl, u4, rfl⟩)
 all_goals first
  | (go_ret; exact ⟨rfl, by exact yd⟩)
  | (exfalso; rename_i hu _; cases hu)
end
end Go.Proofs.YtodgfjgljcinlaaGreat
