/- Repeated calls of Following visit all groups of a table by numbers with a phase of the set, in order, and then begin again. -/
import Derived.Test.YtcgadkkjcbnfjaaPlnG
namespace Go.Proofs.Ytcgadkkjcbnfjaa
open Go.ChangeShapes Go.WideShapes Go.ChangeAt Go.RowKit
set_option linter.unusedVariables false
attribute [local go_sem] IsBlk.cell IsBlk.frozen

/-! ### The rounds -/
def fB (b0 b1 b2 : Bool) : Int → Bool := fun g => if g = 0 then b0 else if g = 1 then b1 else b2
theorem withN_congr {f f' : Int → Bool} : ∀ {n : Nat}, (∀ x : Int, 0 ≤ x → x < n → f x = f' x) → withN f n = withN f' n
  | 0, _ => rfl
  | n + 1, h => by rw [withN_succ, withN_succ, withN_congr (n := n) (fun x h0 h1 => h x h0 (by omega)), h n (by omega) (by omega)]
theorem folN_congr {f f' : Int → Bool} {n G : Int} (hn : 1 ≤ n) (h : ∀ x : Int, 0 ≤ x → x < n → f x = f' x) : ∀ k, folN f n G k = folN f' n G k
  | 0 => rfl
  | k + 1 => by
    unfold folN
    rw [folN_congr hn h k, h _ (Int.emod_nonneg _ (by omega)) (Int.emod_lt_of_pos _ (by omega))]
theorem fB_of {f : Int → Bool} {n : Nat} (hn : n ≤ 3) (x : Int) (h0 : 0 ≤ x) (h1 : x < n) : f x = fB (f 0) (f 1) (f 2) x := by
  rcases (show x = 0 ∨ x = 1 ∨ x = 2 by omega) with rfl | rfl | rfl <;> rfl
/-- The group ahead of call i. -/
def gI (l : List Int) (b : Int) (k : Nat) : Nat → Int
  | 0 => b
  | i + 1 => l.getD ((k + i) % l.length) 0
def rdOk (n : Nat) (f : Int → Bool) (b k i : Nat) : Bool :=
  !(decide (1 ≤ n) && decide (b < n) && decide (k ≤ (withN f n).length) && (List.range k).all (fun j => decide ((withN f n).getD j 0 ≤ b)) && (decide ((withN f n).length ≤ k) || decide ((b : Int) < (withN f n).getD k 0)) && decide (i < 2 * (withN f n).length))
    || (folZ f n (gI (withN f n) b k i) == (withN f n).getD ((k + i) % (withN f n).length) 0)
theorem rd_all : ((List.range 4).all fun n => [false, true].all fun b0 => [false, true].all fun b1 => [false, true].all fun b2 => (List.range 3).all fun b => (List.range 4).all fun k => (List.range 6).all fun i => rdOk n (fB b0 b1 b2) b k i) = true := by decide +kernel
theorem mem_bools (b : Bool) : b ∈ [false, true] := by cases b <;> simp
theorem rounds {n : Nat} {f : Int → Bool} {b k i : Nat} (h1 : 1 ≤ n) (h3 : n ≤ 3) (hb : b < n) (hk : k ≤ (withN f n).length) (hl : ∀ j, j < k → (withN f n).getD j 0 ≤ b) (hr : k < (withN f n).length → (b : Int) < (withN f n).getD k 0) (hi : i < 2 * (withN f n).length) :
    folZ f n (gI (withN f n) b k i) = (withN f n).getD ((k + i) % (withN f n).length) 0 := by
  have hf := fun x h0 h1 => fB_of (f := f) h3 x h0 h1
  have hw := withN_congr hf
  have hfol : ∀ g, folZ f n g = folZ (fB (f 0) (f 1) (f 2)) n g := fun g => folN_congr (by omega) hf _
  have hlen := withN_len f n
  rw [hfol]
  rw [hw] at hk hl hr hi hlen ⊢
  have := rd_all
  simp only [List.all_eq_true, List.mem_range] at this
  have h := this n (by omega) (f 0) (mem_bools _) (f 1) (mem_bools _) (f 2) (mem_bools _) b (by omega) k (by omega) i (by omega)
  unfold rdOk at h
  simp only [Bool.or_eq_true, beq_iff_eq] at h
  rcases h with h | h
  · exfalso
    have e1 : ((List.range k).all fun j => decide ((withN (fB (f 0) (f 1) (f 2)) n).getD j 0 ≤ (b : Int))) = true := by
      rw [List.all_eq_true]; intro j hj; simpa using hl j (by simpa using hj)
    have e2 : (decide ((withN (fB (f 0) (f 1) (f 2)) n).length ≤ k) || decide ((b : Int) < (withN (fB (f 0) (f 1) (f 2)) n).getD k 0)) = true := by
      by_cases hkl : (withN (fB (f 0) (f 1) (f 2)) n).length ≤ k
      · simp [hkl]
      · rw [Bool.or_eq_true]; right; simpa using hr (by omega)
    rw [e1, e2] at h
    simp [h1, hb, hk, hi] at h
  · exact h
theorem fol_none {f : Int → Bool} {n : Nat} (h1 : 1 ≤ n) (h : withN f n = []) (g : Int) : folZ f n g = -1 := by
  have hf : ∀ x : Int, 0 ≤ x → x < n → f x = false := by
    intro x h0 hx
    cases hfx : f x
    · rfl
    · have : x ∈ withN f n := by
        unfold withN
        rw [List.mem_map]
        exact ⟨x.toNat, List.mem_filter.2 ⟨List.mem_range.2 (by omega), by rw [show ((x.toNat : Nat) : Int) = x by omega]; exact hfx⟩, by omega⟩
      rw [h] at this; cases this
  have : ∀ m, folN f n (grpZ n g) m = -1 := by
    intro m
    induction m with
    | zero => rfl
    | succ m ih => exact folN_miss ih (hf _ (Int.emod_nonneg _ (by omega)) (Int.emod_lt_of_pos _ (by omega)))
  exact this _
set_option maxHeartbeats 16000000 in
set_option maxRecDepth 100000 in
theorem planRounds_walk (a0 : Option Addr) (cap0 : Nat) (z0 : List Int) (a1 a2 : Int) (w : World) (hc0 : z0.length ≤ cap0 ∧ cap0 ≤ 9223372036854775807) (_ : Hdr w a0 cap0) (hz0 : Ints w a0 z0) (_ : ∀ i, i < z0.length → InKind .i64 (z0.getD i 0)) (_ : InKind .i64 a1) (_ : InKind .i64 a2) :
    Calls Try.prog 5 #[.slice a0 z0.length cap0, .int .i64 a1, .int .i64 a2] w fun e w' => e = .returned (.bool true) ∧ Below w.heap.size w w' := by
  have HZ : Hid (∀ w', Below w.heap.size w w' → Ints w' a0 z0) := Lib.hid fun w' hb => Row1.below hz0 hb (Nat.le_refl _)
  have HZL : Hid (z0.length ≤ 9223372036854775807) := Lib.hid (by omega)
  have z := zeroTab
  have hgl := tab_gr_len z0
  generalize ht : tabM z0 = t at *
  have hg0 := Int.emod_nonneg a2 (show (t.gr.length : Int) ≠ 0 by omega)
  have hg1 := Int.emod_lt_of_pos a2 (show (0 : Int) < t.gr.length by omega)
  obtain ⟨b, hb⟩ : ∃ b : Nat, a2 % t.gr.length = b := ⟨(a2 % t.gr.length).toNat, by omega⟩
  have hbn : b < t.gr.length := by omega
  have HT0 := Lib.hid ht
  clear hz0 hg0 hg1 ht
  go_enter Try.func5, Try.ntmps5
  go_upto_region 2 with (first | (go_at_call 6; refine (ltable_up _ _ _ _ HZL.out (HZ.out _ (by (repeat' (first | (with_reducible exact Below.refl _ _) | (with_reducible assumption) | (with_reducible refine Below.setCell ?_ ?_ _) | (with_reducible refine Below.alloc ?_ ?_ _) | (with_reducible refine Below.drew ?_) | (with_reducible refine Up.base _ ?_ ?_) | (with_reducible exact LeSize.out) | exact LeSize.out | exact Nat.le_add_right_of_le LeSize.out | exact Nat.le_add_right_of_le (Nat.le_add_right_of_le LeSize.out) | (with_reducible exact Nat.le_refl _) | (simp; done) | (simp; omega)))))).mono ?_; rintro e w' ⟨T, uT, rfl, rfl, hT⟩; rw [HT0.out] at hT) | (refine l_newTab rfl rfl rfl rfl inferInstance hT rfl ?_; go_simp))
  haveI : Sz131 T := ⟨hT.size⟩
  have HM : Hid (∀ g w', Below uT.w.heap.size uT.w w' → Calls Try.prog 14 #[.agg T, .int .i64 g] w' fun e w'' => e = .returned (.int .i64 (memZ t.gr g)) ∧ Below w'.heap.size w' w'') := Lib.hid fun g w' hb => pmem_any T t g w' (hT.below hb (Nat.le_refl _))
  have HF : Hid (∀ g w', InKind .i64 g → Below uT.w.heap.size uT.w w' → Calls Try.prog 15 #[.agg T, .int .i64 g, .int .i64 a1] w' fun e w'' => e = .returned (.int .i64 (folZ (wanZ t.gr a1) t.gr.length g)) ∧ Below w'.heap.size w' w'') := Lib.hid fun g w' hg hb => pfol_any T t g a1 w' hg (hT.below hb (Nat.le_refl _))
  obtain ⟨ga, gcap, t104⟩ : ∃ ga gcap, T[104]? = some (.slice ga t.gr.length gcap) := by
    obtain ⟨gv, d, r, bv, hTe, hI⟩ := hT
    obtain ⟨ga, gcap, H, rfl, _, _⟩ := hI.gr
    exact ⟨ga, gcap, by rw [hTe, arrF_get _ _ _ (by omega)]; rfl⟩
  have HW : Hid (∀ g, wanZ t.gr a1 g = (bits .and .i64 (memZ t.gr g) a1 != 0)) := Lib.hid fun g => rfl
  clear hT HT0
  generalize wanZ t.gr a1 = f at *
  generalize memZ t.gr = mz at *
  generalize t.gr.length = n at *
  go_wp2
  go_loopw [8, 9] (fun l i wr => ∃ j : Nat, j ≤ n ∧ i = .int .i64 j ∧ OwnInts wr (uT.w.heap.size + 1) l (withN f j) ∧ Below (uT.w.heap.size + 1) (uT.w.alloc (.cells T 32)) wr) (fun _ i _ => n - (intOf i).toNat)
  case atStart => exact ⟨0, Nat.zero_le _, rfl, OwnInts.nil _ _, Below.refl _ _⟩
  case round =>
    obtain ⟨j, hj, rfl, hown, hbo⟩ := hrel
    have hB := hbo.size
    rw [World.size_alloc] at hB
    have iB : IsBlk wr uT.w.heap.size T 32 := ⟨by rw [hbo.block _ (by omega)]; exact heap_alloc_here _ _⟩
    have hbT : Below uT.w.heap.size uT.w wr := ((Below.refl uT.w.heap.size uT.w).alloc (Nat.le_refl _) (.cells T 32)).trans (hbo.mono (by omega))
    have hbw : Below w.heap.size w wr := uT.bel.trans (hbT.mono uT.bel.size)
    haveI : LeSize w.heap.size wr := ⟨hbw.size⟩
    haveI : LeSize uT.w.heap.size wr := ⟨hbT.size⟩
    haveI : LeSize (uT.w.heap.size + 1) wr := ⟨hB⟩
    have hlen := withN_len f j
    by_cases hlt : j < n
    · have hs := withN_succ f j
      have hw := HW.out j
      cases hfj : f j
      · have hb0 : (bits .and .i64 (mz j) a1 != 0) = false := by rw [← hw, hfj]
        have HS : Hid (withN f (j + 1) = withN f j) := Lib.hid (by rw [hs, hfj]; simp)
        clear hs hw hfj
        obtain ⟨la, ll, lc, rfl⟩ := hown.slice
        go_wp2_with (first | (refine l_ltab rfl rfl rfl ?_; go_simp) | (go_at_call 14; refine (Up.run (HM.out _ _ (by (repeat' (first | (with_reducible exact Below.refl _ _) | (with_reducible assumption) | (with_reducible refine Below.setCell ?_ ?_ _) | (with_reducible refine Below.alloc ?_ ?_ _) | (with_reducible refine Below.drew ?_) | (with_reducible refine Up.base _ ?_ ?_) | (with_reducible exact LeSize.out) | exact LeSize.out | exact Nat.le_add_right_of_le LeSize.out | exact Nat.le_add_right_of_le (Nat.le_add_right_of_le LeSize.out) | (with_reducible exact Nat.le_refl _) | (simp; done) | (simp; omega)))))).mono ?_; rintro e w' ⟨rfl, upm, rfl⟩))
        go_roundw
        case rel => exact ⟨j + 1, by omega, by go_num, by rw [HS.out]; exact hown.up upm, by (repeat' (first | (with_reducible exact Below.refl _ _) | (with_reducible assumption) | (with_reducible refine Below.setCell ?_ ?_ _) | (with_reducible refine Below.alloc ?_ ?_ _) | (with_reducible refine Below.drew ?_) | (with_reducible refine Up.base _ ?_ ?_) | (with_reducible exact LeSize.out) | exact LeSize.out | exact Nat.le_add_right_of_le LeSize.out | exact Nat.le_add_right_of_le (Nat.le_add_right_of_le LeSize.out) | (with_reducible exact Nat.le_refl _) | (simp; done) | (simp; omega)))⟩
        case measure => simp [intOf]; omega
      · have hb0 : (bits .and .i64 (mz j) a1 != 0) = true := by rw [← hw, hfj]
        have HS : Hid (withN f (j + 1) = withN f j ++ [(j : Int)]) := Lib.hid (by rw [hs, hfj]; simp)
        clear hs hw hfj
        obtain ⟨la, ll, lc, rfl⟩ := hown.slice
        go_upto_region 7 with (first | (refine l_ltab rfl rfl rfl ?_; go_simp) | (go_at_call 14; refine (Up.run (HM.out _ _ (by (repeat' (first | (with_reducible exact Below.refl _ _) | (with_reducible assumption) | (with_reducible refine Below.setCell ?_ ?_ _) | (with_reducible refine Below.alloc ?_ ?_ _) | (with_reducible refine Below.drew ?_) | (with_reducible refine Up.base _ ?_ ?_) | (with_reducible exact LeSize.out) | exact LeSize.out | exact Nat.le_add_right_of_le LeSize.out | exact Nat.le_add_right_of_le (Nat.le_add_right_of_le LeSize.out) | (with_reducible exact Nat.le_refl _) | (simp; done) | (simp; omega)))))).mono ?_; rintro e w' ⟨rfl, upm, rfl⟩))
        have hown2 := hown.up upm
        have hbo2 : Below (uT.w.heap.size + 1) (uT.w.alloc (.cells T 32)) upm.w := by (repeat' (first | (with_reducible exact Below.refl _ _) | (with_reducible assumption) | (with_reducible refine Below.setCell ?_ ?_ _) | (with_reducible refine Below.alloc ?_ ?_ _) | (with_reducible refine Below.drew ?_) | (with_reducible refine Up.base _ ?_ ?_) | (with_reducible exact LeSize.out) | exact LeSize.out | exact Nat.le_add_right_of_le LeSize.out | exact Nat.le_add_right_of_le (Nat.le_add_right_of_le LeSize.out) | (with_reducible exact Nat.le_refl _) | (simp; done) | (simp; omega)))
        have hB2 := upm.bel.size
        go_wp2_with (at_builtin; refine wpList_app_int rfl _ _ rfl (uT.w.heap.size + 1) rfl (hown2.alloc _) (b := upm.w.heap.size) (y := (j : Int)) rfl (by simp) (by omega) (by simp; omega) ?_; intro v' w1 hown' hg)
        go_roundw
        case rel => exact ⟨j + 1, by omega, by go_num, by rw [HS.out]; exact hown', hown2.grown hbo2 (by omega) (Nat.le_refl _) hg⟩
        case measure => simp [intOf]; omega
    · obtain rfl : j = n := by omega
      obtain ⟨la, lc, rfl, hli⟩ := hown.opened
      clear hown hbo hB HM HW
      by_cases hz : (withN f j).length = 0
      · have HFN : Hid (∀ w', Below uT.w.heap.size uT.w w' → Calls Try.prog 15 #[.agg T, .int .i64 b, .int .i64 a1] w' fun e w'' => e = .returned (.int .i64 (-1)) ∧ Below w'.heap.size w' w'') := Lib.hid fun w' hb' => by
          have := HF.out b w' (by unfold InKind; omega) hb'
          rwa [fol_none (by omega) (List.eq_nil_of_length_eq_zero hz)] at this
        have hz0 : (((withN f j).length : Int) == 0) = true := by rw [hz]; rfl
        clear hz
        generalize withN f j = l at *
        go_wp2_with (first | (go_at_call 7; refine (place_any _ _ _ (by omega) (by omega)).mono ?_; rintro e w' ⟨rfl, rfl⟩) | (refine l_ltab rfl rfl rfl ?_; go_simp) | (go_at_call 10; refine (Up.run (awake8_any _)).mono ?_; rintro e w' ⟨rfl, u, rfl⟩) | (go_at_call 15; refine (Up.run (HFN.out _ (by (repeat' (first | (with_reducible exact Below.refl _ _) | (with_reducible assumption) | (with_reducible refine Below.setCell ?_ ?_ _) | (with_reducible refine Below.alloc ?_ ?_ _) | (with_reducible refine Below.drew ?_) | (with_reducible refine Up.base _ ?_ ?_) | (with_reducible exact LeSize.out) | exact LeSize.out | exact Nat.le_add_right_of_le LeSize.out | exact Nat.le_add_right_of_le (Nat.le_add_right_of_le LeSize.out) | (with_reducible exact Nat.le_refl _) | (simp; done) | (simp; omega)))))).mono ?_; rintro e w' ⟨rfl, un, rfl⟩))
        go_ret
        exact ⟨rfl, by (repeat' (first | (with_reducible exact Below.refl _ _) | (with_reducible assumption) | (with_reducible refine Below.setCell ?_ ?_ _) | (with_reducible refine Below.alloc ?_ ?_ _) | (with_reducible refine Below.drew ?_) | (with_reducible refine Up.base _ ?_ ?_) | (with_reducible exact LeSize.out) | exact LeSize.out | exact Nat.le_add_right_of_le LeSize.out | exact Nat.le_add_right_of_le (Nat.le_add_right_of_le LeSize.out) | (with_reducible exact Nat.le_refl _) | (simp; done) | (simp; omega)))⟩
      · have HR := Lib.hid fun k i => @rounds j f b k i (by omega) (by omega) hbn
        have hz0 : (((withN f j).length : Int) == 0) = false := beq_eq_false_iff_ne.2 (by omega)
        have hpos : 1 ≤ (withN f j).length := by omega
        have HLB : Hid (∀ q, q < (withN f j).length → 0 ≤ (withN f j).getD q 0 ∧ (withN f j).getD q 0 < j) := Lib.hid fun q hq => by
          have hm : (withN f j).getD q 0 ∈ withN f j := by simp [List.getD, hq]
          generalize (withN f j).getD q 0 = x at *
          unfold withN at hm
          rw [List.mem_map] at hm
          obtain ⟨x', hx, rfl⟩ := hm
          have := List.mem_range.1 (List.mem_filter.1 hx).1
          omega
        clear hz
        generalize withN f j = l at *
        have HLI := Lib.hid hli
        clear hli
        go_wp2_with (first | (go_at_call 7; refine (place_any _ _ _ (by omega) (by omega)).mono ?_; rintro e w' ⟨rfl, rfl⟩))
        go_loopw [11] (fun x wx => ∃ k : Nat, k ≤ l.length ∧ x = .int .i64 k ∧ Hid (∀ q, q < k → l.getD q 0 ≤ b) ∧ wx = wr) (fun x _ => l.length - (intOf x).toNat)
        case atStart => exact ⟨0, Nat.zero_le _, rfl, Lib.hid (fun q hq => absurd hq (Nat.not_lt_zero _)), rfl⟩
        case round =>
          obtain ⟨k, hk, rfl, HL, rfl⟩ := hrel
          by_cases hkl : k < l.length
          · have hcell : ∃ yb yoff, la = some ⟨yb, yoff, none⟩ ∧ yb < wr.heap.size ∧ wr.cell? ⟨yb, yoff + k, none⟩ = some (.int .i64 (l.getD k 0)) := by
              obtain ⟨yb, yoff, e, hyb, hyc⟩ := HLI.out.cell (by omega)
              exact ⟨yb, yoff, e, hyb, hyc k hkl⟩
            obtain ⟨yb, yoff, rfl, hyb, hcell⟩ := hcell
            by_cases hle : l.getD k 0 ≤ b
            · have HL2 : Hid (∀ q, q < k + 1 → l.getD q 0 ≤ (b : Int)) := Lib.hid fun q hq => by
                rcases Nat.lt_succ_iff_lt_or_eq.1 hq with h | rfl
                · exact HL.out q h
                · exact hle
              generalize l.getD k 0 = x at *
              go_wp2
              go_roundw
              case rel => exact ⟨k + 1, by omega, by go_num, HL2, trivial⟩
              case measure => simp [intOf]; omega
            · have HUP : Hid (k < l.length → (b : Int) < l.getD k 0) := Lib.hid fun _ => by omega
              generalize l.getD k 0 = x at hcell hle
              go_wp2
              have HRK := Lib.hid (fun i hi => HR.out k i hk HL.out (fun h => HUP.out h) hi)
              have HGI : Hid (∀ i, 0 ≤ gI l b k i ∧ gI l b k i < j) := Lib.hid fun i => by
                cases i with
                | zero => show 0 ≤ (b : Int) ∧ (b : Int) < j; omega
                | succ i => exact HLB.out _ (Nat.mod_lt _ (by omega))
              clear HR HUP HL
              generalize wr = W1 at *
              go_loopw [10, 12] (fun x c wx => ∃ i : Nat, i ≤ 2 * l.length ∧ c = .int .i64 i ∧ x = .int .i64 (gI l b k i) ∧ IsBlk wx uT.w.heap.size T 32 ∧ Below W1.heap.size W1 wx) (fun _ c _ => 2 * l.length - (intOf c).toNat)
              case atStart => exact ⟨0, Nat.zero_le _, rfl, rfl, iB, Below.refl _ _⟩
              case round =>
                clear iB
                obtain ⟨i, hi, rfl, rfl, iB, hb1⟩ := hrel
                have hbT2 : Below uT.w.heap.size uT.w wr := hbT.trans (hb1.mono hbT.size)
                have hbw2 : Below w.heap.size w wr := hbw.trans (hb1.mono hbw.size)
                haveI : LeSize w.heap.size wr := ⟨hbw2.size⟩
                haveI : LeSize uT.w.heap.size wr := ⟨hbT2.size⟩; haveI : LeSize W1.heap.size wr := ⟨hb1.size⟩
                by_cases hil : i < 2 * l.length
                · have hkl2 : ((k : Int) + i).tmod (l.length : Int) = (((k + i) % l.length : Nat) : Int) := by
                    rw [Int.tmod_eq_emod_of_nonneg (by omega)]; simp
                  have hm := Nat.mod_lt (k + i) (show 0 < l.length by omega)
                  have HGN : Hid (gI l b k (i + 1) = l.getD ((k + i) % l.length) 0) := Lib.hid rfl
                  have HFI : Hid (∀ w', Below uT.w.heap.size uT.w w' → Calls Try.prog 15 #[.agg T, .int .i64 (gI l b k i), .int .i64 a1] w' fun e w'' => e = .returned (.int .i64 (l.getD ((k + i) % l.length) 0)) ∧ Below w'.heap.size w' w'') := Lib.hid fun w' hb' => by
                    have h2 := HGI.out i
                    have := HF.out (gI l b k i) w' (by unfold InKind; omega) hb'
                    rwa [HRK.out i hil] at this
                  obtain ⟨yb2, yoff2, ela, hyb2, hyc2⟩ := HLI.out.cell (by omega)
                  have hcell : wr.cell? ⟨yb2, yoff2 + (k + i) % l.length, none⟩ = some (.int .i64 (l.getD ((k + i) % l.length) 0)) := by rw [hb1.cell (p := ⟨yb2, yoff2 + (k + i) % l.length, none⟩) hyb2]; exact hyc2 _ hm
                  haveI : LeSize (yb2 + 1) wr := ⟨Nat.le_trans hyb2 hb1.size⟩
                  clear hyc2
                  cases ela
                  generalize l.getD ((k + i) % l.length) 0 = x at *
                  generalize (k + i) % l.length = m at *
                  have HGN2 := Lib.hid HGN.out.symm
                  clear HGN
                  have hmI : (m : Int) < l.length := by omega
                  go_wp2_with (first | (refine l_ltab rfl rfl rfl ?_; go_simp) | (go_at_call 15; refine (Up.run (HFI.out _ (by (repeat' (first | (with_reducible exact Below.refl _ _) | (with_reducible assumption) | (with_reducible refine Below.setCell ?_ ?_ _) | (with_reducible refine Below.alloc ?_ ?_ _) | (with_reducible refine Below.drew ?_) | (with_reducible refine Up.base _ ?_ ?_) | (with_reducible exact LeSize.out) | exact LeSize.out | exact Nat.le_add_right_of_le LeSize.out | exact Nat.le_add_right_of_le (Nat.le_add_right_of_le LeSize.out) | (with_reducible exact Nat.le_refl _) | (simp; done) | (simp; omega)))))).mono ?_; rintro e w' ⟨rfl, un, rfl⟩))
                  go_roundw
                  case rel => exact ⟨i + 1, by omega, by go_num, by rw [HGN2.out], inferInstance, by (repeat' (first | (with_reducible exact Below.refl _ _) | (with_reducible assumption) | (with_reducible refine Below.setCell ?_ ?_ _) | (with_reducible refine Below.alloc ?_ ?_ _) | (with_reducible refine Below.drew ?_) | (with_reducible refine Up.base _ ?_ ?_) | (with_reducible exact LeSize.out) | exact LeSize.out | exact Nat.le_add_right_of_le LeSize.out | exact Nat.le_add_right_of_le (Nat.le_add_right_of_le LeSize.out) | (with_reducible exact Nat.le_refl _) | (simp; done) | (simp; omega)))⟩
                  case measure => simp [intOf]; omega
                · obtain rfl : i = 2 * l.length := by omega
                  go_wp2_with (go_at_call 10; refine (Up.run (awake8_any _)).mono ?_; rintro e w' ⟨rfl, u, rfl⟩)
                  go_ret
                  exact ⟨rfl, by (repeat' (first | (with_reducible exact Below.refl _ _) | (with_reducible assumption) | (with_reducible refine Below.setCell ?_ ?_ _) | (with_reducible refine Below.alloc ?_ ?_ _) | (with_reducible refine Below.drew ?_) | (with_reducible refine Up.base _ ?_ ?_) | (with_reducible exact LeSize.out) | exact LeSize.out | exact Nat.le_add_right_of_le LeSize.out | exact Nat.le_add_right_of_le (Nat.le_add_right_of_le LeSize.out) | (with_reducible exact Nat.le_refl _) | (simp; done) | (simp; omega)))⟩
          · obtain rfl : k = l.length := by omega
            have HUP : Hid (l.length < l.length → (b : Int) < l.getD l.length 0) := Lib.hid fun h => absurd h hkl
            go_wp2
            have HRK := Lib.hid (fun i hi => HR.out l.length i hk HL.out (fun h => HUP.out h) hi)
            have HGI : Hid (∀ i, 0 ≤ gI l b l.length i ∧ gI l b l.length i < j) := Lib.hid fun i => by
              cases i with
              | zero => show 0 ≤ (b : Int) ∧ (b : Int) < j; omega
              | succ i => exact HLB.out _ (Nat.mod_lt _ (by omega))
            clear HR HUP HL
            generalize wr = W1 at *
            go_loopw [10, 12] (fun x c wx => ∃ i : Nat, i ≤ 2 * l.length ∧ c = .int .i64 i ∧ x = .int .i64 (gI l b l.length i) ∧ IsBlk wx uT.w.heap.size T 32 ∧ Below W1.heap.size W1 wx) (fun _ c _ => 2 * l.length - (intOf c).toNat)
            case atStart => exact ⟨0, Nat.zero_le _, rfl, rfl, iB, Below.refl _ _⟩
            case round =>
              clear iB
              obtain ⟨i, hi, rfl, rfl, iB, hb1⟩ := hrel
              have hbT2 : Below uT.w.heap.size uT.w wr := hbT.trans (hb1.mono hbT.size)
              have hbw2 : Below w.heap.size w wr := hbw.trans (hb1.mono hbw.size)
              haveI : LeSize w.heap.size wr := ⟨hbw2.size⟩
              haveI : LeSize uT.w.heap.size wr := ⟨hbT2.size⟩; haveI : LeSize W1.heap.size wr := ⟨hb1.size⟩
              by_cases hil : i < 2 * l.length
              · have hkl2 : ((l.length : Int) + i).tmod (l.length : Int) = (((l.length + i) % l.length : Nat) : Int) := by
                  rw [Int.tmod_eq_emod_of_nonneg (by omega)]; simp
                have hm := Nat.mod_lt (l.length + i) (show 0 < l.length by omega)
                have HGN : Hid (gI l b l.length (i + 1) = l.getD ((l.length + i) % l.length) 0) := Lib.hid rfl
                have HFI : Hid (∀ w', Below uT.w.heap.size uT.w w' → Calls Try.prog 15 #[.agg T, .int .i64 (gI l b l.length i), .int .i64 a1] w' fun e w'' => e = .returned (.int .i64 (l.getD ((l.length + i) % l.length) 0)) ∧ Below w'.heap.size w' w'') := Lib.hid fun w' hb' => by
                  have h2 := HGI.out i
                  have := HF.out (gI l b l.length i) w' (by unfold InKind; omega) hb'
                  rwa [HRK.out i hil] at this
                obtain ⟨yb2, yoff2, ela, hyb2, hyc2⟩ := HLI.out.cell (by omega)
                have hcell : wr.cell? ⟨yb2, yoff2 + (l.length + i) % l.length, none⟩ = some (.int .i64 (l.getD ((l.length + i) % l.length) 0)) := by rw [hb1.cell (p := ⟨yb2, yoff2 + (l.length + i) % l.length, none⟩) hyb2]; exact hyc2 _ hm
                haveI : LeSize (yb2 + 1) wr := ⟨Nat.le_trans hyb2 hb1.size⟩
                clear hyc2
                cases ela
                generalize l.getD ((l.length + i) % l.length) 0 = x at *
                generalize (l.length + i) % l.length = m at *
                have HGN2 := Lib.hid HGN.out.symm
                clear HGN
                have hmI : (m : Int) < l.length := by omega
                go_wp2_with (first | (refine l_ltab rfl rfl rfl ?_; go_simp) | (go_at_call 15; refine (Up.run (HFI.out _ (by (repeat' (first | (with_reducible exact Below.refl _ _) | (with_reducible assumption) | (with_reducible refine Below.setCell ?_ ?_ _) | (with_reducible refine Below.alloc ?_ ?_ _) | (with_reducible refine Below.drew ?_) | (with_reducible refine Up.base _ ?_ ?_) | (with_reducible exact LeSize.out) | exact LeSize.out | exact Nat.le_add_right_of_le LeSize.out | exact Nat.le_add_right_of_le (Nat.le_add_right_of_le LeSize.out) | (with_reducible exact Nat.le_refl _) | (simp; done) | (simp; omega)))))).mono ?_; rintro e w' ⟨rfl, un, rfl⟩))
                go_roundw
                case rel => exact ⟨i + 1, by omega, by go_num, by rw [HGN2.out], inferInstance, by (repeat' (first | (with_reducible exact Below.refl _ _) | (with_reducible assumption) | (with_reducible refine Below.setCell ?_ ?_ _) | (with_reducible refine Below.alloc ?_ ?_ _) | (with_reducible refine Below.drew ?_) | (with_reducible refine Up.base _ ?_ ?_) | (with_reducible exact LeSize.out) | exact LeSize.out | exact Nat.le_add_right_of_le LeSize.out | exact Nat.le_add_right_of_le (Nat.le_add_right_of_le LeSize.out) | (with_reducible exact Nat.le_refl _) | (simp; done) | (simp; omega)))⟩
                case measure => simp [intOf]; omega
              · obtain rfl : i = 2 * l.length := by omega
                go_wp2_with (go_at_call 10; refine (Up.run (awake8_any _)).mono ?_; rintro e w' ⟨rfl, u, rfl⟩)
                go_ret
                exact ⟨rfl, by (repeat' (first | (with_reducible exact Below.refl _ _) | (with_reducible assumption) | (with_reducible refine Below.setCell ?_ ?_ _) | (with_reducible refine Below.alloc ?_ ?_ _) | (with_reducible refine Below.drew ?_) | (with_reducible refine Up.base _ ?_ ?_) | (with_reducible exact LeSize.out) | exact LeSize.out | exact Nat.le_add_right_of_le LeSize.out | exact Nat.le_add_right_of_le (Nat.le_add_right_of_le LeSize.out) | (with_reducible exact Nat.le_refl _) | (simp; done) | (simp; omega)))⟩
set_option maxRecDepth 100000 in
theorem PlanRounds_lifted (os : Os) (started : os.Started) (H : Type) (enc : TypeId × Value → H) :
    ReturnsInHanded {} Try.checked os 5 .any (Rows.planRoundsSpec.pre6 enc Try.prog Try.f5 Rows.planRoundsRow.domain false) (Rows.planRoundsSpec.post enc Try.prog Try.f5 false true false false) := by
  refine returnsInHanded_of_change (C := Try.checked) own started (by kernel_rfl) Try.func5
    (ChangeSpec.witness6 (enc := enc) (C := Try.checked) false ⟨#[], #[.slice none 0 0, .int .i64 0, .int .i64 0], []⟩ 8 (by kernel_rfl) (by kernel_rfl) (by kernel_rfl) (by kernel_rfl)) ?_
  intro W base args ds gs before hval0 hW hcnd _
  have hval : ∀ (j : Nat) t v, Try.f5.params[j]? = some t → args[j]? = some v → Value.okWide Try.prog W .any base t v := hval0
  have hW' := hW
  obtain ⟨p, q, hA0, hV, rfl, hfz, hnd⟩ := hW
  have hA : DataW.TrodAll enc Try.prog W 0 (fun _ => true) true Try.f5.params.toList args.toList ds p := hA0
  rw [Try.params5] at hA hval
  obtain ⟨v0, vs0, d0, ds0, p0, q0, hargs, rfl, rfl, h0, r0⟩ := trodAll_cons hA
  obtain ⟨v1, vs1, d1, ds1, p1, q1, rfl, rfl, rfl, h1, r1⟩ := trodAll_cons r0
  obtain ⟨v2, vs2, d2, ds2, p2, q2, rfl, rfl, rfl, h2, r2⟩ := trodAll_cons r1
  obtain ⟨rfl, rfl, rfl⟩ := trodAll_nil r2
  obtain rfl : args = #[v0, v1, v2] := by cases args; simp_all
  obtain ⟨rfl, rfl⟩ := trodVars_none hV
  have k0 := h0
  have lt0 : ∀ x ∈ p0, x.block < W.heap.size := by obtain ⟨m, hm⟩ := k0; exact DataW.trod_lt m _ _ _ hm
  have k1 := h1
  have lt1 : ∀ x ∈ p1, x.block < W.heap.size := by obtain ⟨m, hm⟩ := k1; exact DataW.trod_lt m _ _ _ hm
  have k2 := h2
  have lt2 : ∀ x ∈ p2, x.block < W.heap.size := by obtain ⟨m, hm⟩ := k2; exact DataW.trod_lt m _ _ _ hm
  obtain ⟨a0, cap0, z0, rfl, hl0, hm0, hh0, hr0, iz0⟩ := open_ints1 Try.underlying22 Try.underlying3 (by kernel_rfl) (hval 0 22 v0 rfl rfl) k0
  obtain ⟨a1, rfl, w1⟩ := open_int1 Try.underlying3 (hval 1 3 v1 rfl rfl)
  obtain ⟨a2, rfl, w2⟩ := open_int1 Try.underlying3 (hval 2 3 v2 rfl rfl)
  clear hA0 hval0
  refine (planRounds_walk a0 cap0 z0 a1 a2 W ⟨hl0, hm0⟩ hh0 hr0 iz0 w1 w2).mono fun e W' ⟨he, bel⟩ => ?_
  subst he
  exact ⟨_, rfl, _, _, _, [], _, [], hW', trodAll_mk1 (shut_bool Try.underlying4 _), (trodAll_cons_mk (Below.trod laidOut (by kernel_rfl) (of_decide_eq_true (by kernel_rfl)) k0 bel lt0) (trodAll_cons_mk (Below.trod laidOut (by kernel_rfl) (of_decide_eq_true (by kernel_rfl)) k1 bel lt1) (trodAll_cons_mk (Below.trod laidOut (by kernel_rfl) (of_decide_eq_true (by kernel_rfl)) k2 bel lt2) trodAll_mk0))), rfl, bel.frame _, fun h => by cases h⟩

theorem PlanRounds_over : Rows.planRoundsRow.holds Try.pinned (OpenSpec.ofChange Rows.planRoundsSpec) :=
  OpenClaim.holds_of_wide 5 Try.f5 rfl rfl rfl rfl rfl rfl rfl ⟨rfl, rfl, rfl, rfl, rfl⟩ rfl rfl rfl rfl rfl (by kernel_rfl) Try.func5 (by kernel_rfl)
    (of_decide_eq_true (by kernel_rfl)) (by unfold Func.isWrapper; first | (rw [if_pos (by decide +kernel)]; kernel_rfl) | (rw [if_neg (by decide +kernel)]; exact ⟨rfl, rfl⟩))
    (fun os started H enc _ => PlanRounds_lifted os started H enc)

/-- The given statement. -/
theorem PlanRounds_holds : Rows.PlanRoundsSaid := PlanRounds_over
#print axioms PlanRounds_holds
end Go.Proofs.Ytcgadkkjcbnfjaa
