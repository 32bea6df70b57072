/- The law BookPlays: the walk. -/
import Derived.Test.YtpmnhieehkjnmaaBkI
import Derived.Test.YtpmnhieehkjnmaaEnvC
namespace Go.Proofs.Ytpmnhieehkjnmaa
open Go.ChangeShapes Go.WideShapes Go.ChangeAt Go.RowKit
set_option linter.unusedVariables false

theorem blk_cell {w : World} {b : Nat} {cs : Array Value} {t : TypeId} (h : w.heap[b]? = some (.cells cs t)) (i : Nat) {v : Value} (hi : cs[i]? = some v) : w.cell? ⟨b, i, none⟩ = some v := by
  simp [World.cell?, h, hi]
theorem src_apart {w wr : World} {a : Option Addr} {L : List Ev} (h : Evs w a L) {B : Bk} {b : Nat} {v : Value} (hk : BookAt wr b v B) (hb : w.heap.size ≤ b) : L ≠ [] → ∀ ad, a = some ad → ad.block ≠ b ∧ v.ownBlock ≠ some ad.block := fun hn ad hd => by
  rcases h with h0 | ⟨b1, o1, rfl, hlt, _⟩
  · exact absurd (List.eq_nil_of_length_eq_zero h0) hn
  · cases hd
    exact ⟨by simp; omega, fun e => by have := hk.own b1 e; omega⟩
theorem src_apartR {w : World} {a : Option Addr} {L : List Ev} (h : Evs w a L) {x : Nat} (hx : w.heap.size ≤ x) : L ≠ [] → ∀ ad, a = some ad → ad.block ≠ x := fun hn ad hd => by
  rcases h with h0 | ⟨b1, o1, rfl, hlt, _⟩
  · exact absurd (List.eq_nil_of_length_eq_zero h0) hn
  · cases hd; simp; omega
def RcAll (n : Nat) (L : List Ev) : RcT := fun f args v w => ∃ a' c', v = .slice a' n c' ∧ Evs w a' L
theorem rcAll_stable (n : Nat) (L : List Ev) : ∀ f args v, Stable (RcAll n L f args v) := fun f args v w w' ⟨a', c', e, h⟩ hb => ⟨a', c', e, h.below hb (Nat.le_refl _)⟩
set_option maxRecDepth 100000 in
set_option maxHeartbeats 2000000 in
theorem bookPlays_walk (n : Int) (a0 : Option Addr) (cap0 : Nat) (S : List Stp) (w : World) (_ : InKind .i64 n) (hlc : S.length ≤ cap0) (hcm : cap0 ≤ 9223372036854775807) (hS : Stps w a0 S) :
    Calls Try.prog 3 #[.int .i64 n, .slice a0 S.length cap0] w fun e w' => e = .returned (.bool true) ∧ Below w.heap.size w w' := by
  have HR := run_ev_neq
  have HR0 : ∀ (x : Ev) (w : World), Sem.run Try.prog (binOp .neq 34 (.agg #[.int .i64 x.1, .int .i64 x.2.1, .int .i64 x.2.2]) (.agg #[.int .i64 0, .int .i64 0, .int .i64 0])) w = .ok (.bool (x != (0, 0, 0))) w := fun x w => run_ev_neq x (0, 0, 0) w
  by_cases hlen : S.length ≤ 100
  · have HN := Lib.hid (duo_new n w)
    have HS := Lib.hid hS
    clear hS
    go_enter Try.func3, Try.ntmps3
    go_wp2_with (first | (go_at_call 6; refine (bnew_any _ _).mono ?_; rintro e w' ⟨rfl, rfl⟩) | (go_at_call 7; refine (rbnew_any _ _).mono ?_; rintro e w' ⟨rfl, rfl⟩))
    go_loopw [7] (fun p wr => ∃ k : Nat, p = .int .i64 k ∧ k ≤ S.length ∧ ∃ v a1 cap1 B, Duo w wr w.heap.size (w.heap.size + 1) v a1 cap1 B ∧ B.lost ≤ 30 * k) (fun p _ => S.length - (intOf p).toNat)
    case atStart => exact ⟨0, rfl, by omega, _, _, _, _, HN.out, by simp [Bk.new]⟩
    case round =>
      clear HN
      obtain ⟨k, rfl, hk, v, a1, cap1, B, hD, hlost⟩ := hrel
      have HD := Lib.hid hD
      have hbw := hD.bel
      have hBl : B.L.length ≤ 256 := by have := hD.K.ok.len; have := hD.K.ok.room; omega
      have hB0 := hD.K.ok.lost
      clear hD
      haveI : LeSize w.heap.size wr := ⟨hbw.size⟩
      by_cases hlt : k < S.length
      · have g1 : S[k]? = some S[k] := List.getElem?_eq_getElem hlt
        have HE : Hid (Evs w S[k].A S[k].L) := Lib.hid (HS.out.ev _ (List.getElem_mem hlt)).1
        obtain ⟨hAt1, hAt2⟩ : InKind .i64 S[k].At := (HS.out.ev _ (List.getElem_mem hlt)).2
        obtain ⟨b0, o0, rfl, hb0, z1, z2, z3⟩ := HS.out.at g1
        clear HS
        generalize S[k] = s at *
        clear g1
        obtain ⟨K, At, A, cap, L⟩ := s
        simp only at HE hAt1 hAt2 z1 z2 z3
        have hb0' := hb0.out
        have HX : Hid (∀ W, Below w.heap.size w W → LeSize (b0 + 1) W ∧ W.cell? ⟨b0, o0 + k * 3, none⟩ = some (.int .i64 K) ∧ W.cell? ⟨b0, o0 + k * 3 + 1, none⟩ = some (.int .i64 At) ∧ W.cell? ⟨b0, o0 + k * 3 + 2, none⟩ = some (.slice A L.length cap)) := Lib.hid fun W hW =>
          ⟨⟨Nat.le_trans hb0' hW.size⟩, by rw [hW.cell (p := ⟨b0, _, none⟩) hb0']; exact z1, by rw [hW.cell (p := ⟨b0, _, none⟩) hb0']; exact z2, by rw [hW.cell (p := ⟨b0, _, none⟩) hb0']; exact z3⟩
        clear z1 z2 z3 hb0
        obtain ⟨hb1, x1, x2, x3⟩ := HX.out wr hbw
        by_cases hL : L.length ≤ 30
        · by_cases hK1 : K = 1
          · subst hK1
            go_wp2_with (first
              | (go_at_call 9; refine (bput_any _ _ B _ _ L _ HD.out.K (HE.out.below hbw (Nat.le_refl _)) (by omega) (src_apart HE.out HD.out.K (Nat.le_refl _))).mono ?_; rintro e w1 ⟨rfl, v1, hk1, hm1⟩; have HH := Lib.hid (HD.out.put hk1 hm1); clear hk1 hm1 HD; have hbw1 := HH.out.bel; obtain ⟨hb2, y1, y2, y3⟩ := HX.out w1 hbw1)
              | (go_at_call 10; refine (rbput_any _ _ _ B _ _ L _ HH.out.R (HE.out.below hbw1 (Nat.le_refl _)) (by omega) (src_apartR HE.out (by omega))).mono ?_; rintro e w2 ⟨rfl, a2, cap2, hrf, hgr, hfr⟩; have HD9 := Lib.hid (HH.out.put hrf hgr hfr); clear hrf hgr hfr HH))
            have hBl9 : (B.puts L).L.length ≤ 256 := by have := HD9.out.K.ok.len; have := HD9.out.K.ok.room; omega
            have HL9 := Lib.hid (B.puts_lost L)
            generalize B.puts L = B9 at *
            haveI : IsBlk _ (w.heap.size + 1) _ _ := ⟨HD9.out.R.blk⟩
            haveI : LeSize (w.heap.size + 1 + 1) _ := ⟨HD9.out.R.lt⟩
            have d1 := blk_cell HD9.out.R.blk 1 rfl
            have d2 := blk_cell HD9.out.R.blk 2 rfl
            (refine wp_region_up (by kernel_rfl) (by kernel_rfl) ?_; (repeat (first | go_big_quiet_step ((first | (go_at_call 14; exact Up.pure (blen_any _ _ _ _ (HD9.out.K.below (by (repeat' (first | (with_reducible exact Below.refl _ _) | (with_reducible assumption) | (with_reducible refine Below.setCell ?_ ?_ _) | (with_reducible refine Below.alloc ?_ ?_ _) | (with_reducible refine Below.drew ?_) | (with_reducible refine Up.base _ ?_ ?_) | (with_reducible exact LeSize.out) | exact LeSize.out | exact Nat.le_add_right_of_le LeSize.out | exact Nat.le_add_right_of_le (Nat.le_add_right_of_le LeSize.out) | (with_reducible exact Nat.le_refl _) | (simp; done) | (simp; omega))))))) | (go_at_call 15; exact Up.pure (blost_any _ _ _ _ (HD9.out.K.below (by (repeat' (first | (with_reducible exact Below.refl _ _) | (with_reducible assumption) | (with_reducible refine Below.setCell ?_ ?_ _) | (with_reducible refine Below.alloc ?_ ?_ _) | (with_reducible refine Below.drew ?_) | (with_reducible refine Up.base _ ?_ ?_) | (with_reducible exact LeSize.out) | exact LeSize.out | exact Nat.le_add_right_of_le LeSize.out | exact Nat.le_add_right_of_le (Nat.le_add_right_of_le LeSize.out) | (with_reducible exact Nat.le_refl _) | (simp; done) | (simp; omega))))))) | fail)))); refine wpQuiet_nil ?_; rintro _ ⟨u, rfl⟩)
            have HDA := Lib.hid (HD9.out.below (w' := Up.w u) (by (repeat' (first | (with_reducible exact Below.refl _ _) | (with_reducible assumption) | (with_reducible refine Below.setCell ?_ ?_ _) | (with_reducible refine Below.alloc ?_ ?_ _) | (with_reducible refine Below.drew ?_) | (with_reducible refine Up.base _ ?_ ?_) | (with_reducible exact LeSize.out) | exact LeSize.out | exact Nat.le_add_right_of_le LeSize.out | exact Nat.le_add_right_of_le (Nat.le_add_right_of_le LeSize.out) | (with_reducible exact Nat.le_refl _) | (simp; done) | (simp; omega)))))
            clear d1 d2 HD9
            go_wp2
            go_roundw
            case rel => exact ⟨k + 1, by go_num, by omega, _, _, _, _, HDA.out, by have := HL9.out; omega⟩
            case measure => simp [intOf]; omega
          · by_cases hK2 : K = 2
            · subst hK2
              clear hK1
              by_cases hin : 0 ≤ At ∧ At < B.L.length
              · obtain ⟨i, rfl⟩ := Int.eq_ofNat_of_zero_le hin.1
                have hi : i < B.L.length := by omega
                clear hin
                have gB : B.L[i]? = some B.L[i] := List.getElem?_eq_getElem hi
                have hg : getM B.L (i : Int) = B.L[i] := by unfold getM; rw [if_pos ⟨by omega, by omega⟩]; simp [gB]
                have hd : inM B.L (i : Int) = true := by unfold inM; simp; omega
                obtain ⟨b3, o3, rfl, hb3, y1, y2, y3⟩ := HD.out.R.row.at gB
                generalize hy : B.L[i] = y at *
                clear gB hy
                haveI : IsBlk _ (w.heap.size + 1) _ _ := ⟨HD.out.R.blk⟩
                haveI : LeSize (w.heap.size + 1 + 1) _ := ⟨HD.out.R.lt⟩
                have d1 := blk_cell HD.out.R.blk 1 rfl
                go_wp2_with (go_at_call 11; refine (Up.run (bget_any _ _ B _ _ HD.out.K)).mono ?_; rintro e w' ⟨rfl, u, rfl⟩; simp only [hg, hd])
                (refine wp_region_up (by kernel_rfl) (by kernel_rfl) ?_; (repeat (first | go_big_quiet_step ((first | fail)))); refine wpQuiet_nil ?_; rintro _ ⟨u, rfl⟩)
                go_wp2
                (refine wp_region_up (by kernel_rfl) (by kernel_rfl) ?_; (repeat (first | go_big_quiet_step ((first | fail)))); refine wpQuiet_nil ?_; rintro _ ⟨u, rfl⟩)
                go_wp2
                have HD9 := Lib.hid (HD.out.below (w' := Up.w u) (by (repeat' (first | (with_reducible exact Below.refl _ _) | (with_reducible assumption) | (with_reducible refine Below.setCell ?_ ?_ _) | (with_reducible refine Below.alloc ?_ ?_ _) | (with_reducible refine Below.drew ?_) | (with_reducible refine Up.base _ ?_ ?_) | (with_reducible exact LeSize.out) | exact LeSize.out | exact Nat.le_add_right_of_le LeSize.out | exact Nat.le_add_right_of_le (Nat.le_add_right_of_le LeSize.out) | (with_reducible exact Nat.le_refl _) | (simp; done) | (simp; omega)))))
                clear d1 y1 y2 y3 HD
                haveI : IsBlk _ (w.heap.size + 1) _ _ := ⟨HD9.out.R.blk⟩
                haveI : LeSize (w.heap.size + 1 + 1) _ := ⟨HD9.out.R.lt⟩
                have d1 := blk_cell HD9.out.R.blk 1 rfl
                have d2 := blk_cell HD9.out.R.blk 2 rfl
                (refine wp_region_up (by kernel_rfl) (by kernel_rfl) ?_; (repeat (first | go_big_quiet_step ((first | (go_at_call 14; exact Up.pure (blen_any _ _ _ _ (HD9.out.K.below (by (repeat' (first | (with_reducible exact Below.refl _ _) | (with_reducible assumption) | (with_reducible refine Below.setCell ?_ ?_ _) | (with_reducible refine Below.alloc ?_ ?_ _) | (with_reducible refine Below.drew ?_) | (with_reducible refine Up.base _ ?_ ?_) | (with_reducible exact LeSize.out) | exact LeSize.out | exact Nat.le_add_right_of_le LeSize.out | exact Nat.le_add_right_of_le (Nat.le_add_right_of_le LeSize.out) | (with_reducible exact Nat.le_refl _) | (simp; done) | (simp; omega))))))) | (go_at_call 15; exact Up.pure (blost_any _ _ _ _ (HD9.out.K.below (by (repeat' (first | (with_reducible exact Below.refl _ _) | (with_reducible assumption) | (with_reducible refine Below.setCell ?_ ?_ _) | (with_reducible refine Below.alloc ?_ ?_ _) | (with_reducible refine Below.drew ?_) | (with_reducible refine Up.base _ ?_ ?_) | (with_reducible exact LeSize.out) | exact LeSize.out | exact Nat.le_add_right_of_le LeSize.out | exact Nat.le_add_right_of_le (Nat.le_add_right_of_le LeSize.out) | (with_reducible exact Nat.le_refl _) | (simp; done) | (simp; omega))))))) | fail)))); refine wpQuiet_nil ?_; rintro _ ⟨u, rfl⟩)
                have HDA := Lib.hid (HD9.out.below (w' := Up.w u) (by (repeat' (first | (with_reducible exact Below.refl _ _) | (with_reducible assumption) | (with_reducible refine Below.setCell ?_ ?_ _) | (with_reducible refine Below.alloc ?_ ?_ _) | (with_reducible refine Below.drew ?_) | (with_reducible refine Up.base _ ?_ ?_) | (with_reducible exact LeSize.out) | exact LeSize.out | exact Nat.le_add_right_of_le LeSize.out | exact Nat.le_add_right_of_le (Nat.le_add_right_of_le LeSize.out) | (with_reducible exact Nat.le_refl _) | (simp; done) | (simp; omega)))))
                clear d1 d2 HD9
                go_wp2
                go_roundw
                case rel => exact ⟨k + 1, by go_num, by omega, _, _, _, _, HDA.out, by omega⟩
                case measure => simp [intOf]; omega
              · have hg : getM B.L At = (0, 0, 0) := by unfold getM; rw [if_neg hin]
                have hd : inM B.L At = false := by unfold inM; simp; omega
                haveI : IsBlk _ (w.heap.size + 1) _ _ := ⟨HD.out.R.blk⟩
                haveI : LeSize (w.heap.size + 1 + 1) _ := ⟨HD.out.R.lt⟩
                have d1 := blk_cell HD.out.R.blk 1 rfl
                by_cases h0 : 0 ≤ At
                · have h1 : (B.L.length : Int) ≤ At := by omega
                  have hdd : decide (At < (B.L.length : Int)) = false := by simp; omega
                  clear hin
                  go_wp2_with (go_at_call 11; refine (Up.run (bget_any _ _ B _ _ HD.out.K)).mono ?_; rintro e w' ⟨rfl, u, rfl⟩; simp only [hg, hd])
                  (refine wp_region_up (by kernel_rfl) (by kernel_rfl) ?_; (repeat (first | go_big_quiet_step ((first | fail)))); refine wpQuiet_nil ?_; rintro _ ⟨u, rfl⟩)
                  go_wp2
                  (try simp only [hdd])
                  (refine wp_region_up (by kernel_rfl) (by kernel_rfl) ?_; (repeat (first | go_big_quiet_step ((first | fail)))); refine wpQuiet_nil ?_; rintro _ ⟨u, rfl⟩)
                  go_wp2
                  have HD9 := Lib.hid (HD.out.below (w' := Up.w u) (by (repeat' (first | (with_reducible exact Below.refl _ _) | (with_reducible assumption) | (with_reducible refine Below.setCell ?_ ?_ _) | (with_reducible refine Below.alloc ?_ ?_ _) | (with_reducible refine Below.drew ?_) | (with_reducible refine Up.base _ ?_ ?_) | (with_reducible exact LeSize.out) | exact LeSize.out | exact Nat.le_add_right_of_le LeSize.out | exact Nat.le_add_right_of_le (Nat.le_add_right_of_le LeSize.out) | (with_reducible exact Nat.le_refl _) | (simp; done) | (simp; omega)))))
                  clear d1 HD
                  haveI : IsBlk _ (w.heap.size + 1) _ _ := ⟨HD9.out.R.blk⟩
                  haveI : LeSize (w.heap.size + 1 + 1) _ := ⟨HD9.out.R.lt⟩
                  have d1 := blk_cell HD9.out.R.blk 1 rfl
                  have d2 := blk_cell HD9.out.R.blk 2 rfl
                  (refine wp_region_up (by kernel_rfl) (by kernel_rfl) ?_; (repeat (first | go_big_quiet_step ((first | (go_at_call 14; exact Up.pure (blen_any _ _ _ _ (HD9.out.K.below (by (repeat' (first | (with_reducible exact Below.refl _ _) | (with_reducible assumption) | (with_reducible refine Below.setCell ?_ ?_ _) | (with_reducible refine Below.alloc ?_ ?_ _) | (with_reducible refine Below.drew ?_) | (with_reducible refine Up.base _ ?_ ?_) | (with_reducible exact LeSize.out) | exact LeSize.out | exact Nat.le_add_right_of_le LeSize.out | exact Nat.le_add_right_of_le (Nat.le_add_right_of_le LeSize.out) | (with_reducible exact Nat.le_refl _) | (simp; done) | (simp; omega))))))) | (go_at_call 15; exact Up.pure (blost_any _ _ _ _ (HD9.out.K.below (by (repeat' (first | (with_reducible exact Below.refl _ _) | (with_reducible assumption) | (with_reducible refine Below.setCell ?_ ?_ _) | (with_reducible refine Below.alloc ?_ ?_ _) | (with_reducible refine Below.drew ?_) | (with_reducible refine Up.base _ ?_ ?_) | (with_reducible exact LeSize.out) | exact LeSize.out | exact Nat.le_add_right_of_le LeSize.out | exact Nat.le_add_right_of_le (Nat.le_add_right_of_le LeSize.out) | (with_reducible exact Nat.le_refl _) | (simp; done) | (simp; omega))))))) | fail)))); refine wpQuiet_nil ?_; rintro _ ⟨u, rfl⟩)
                  have HDA := Lib.hid (HD9.out.below (w' := Up.w u) (by (repeat' (first | (with_reducible exact Below.refl _ _) | (with_reducible assumption) | (with_reducible refine Below.setCell ?_ ?_ _) | (with_reducible refine Below.alloc ?_ ?_ _) | (with_reducible refine Below.drew ?_) | (with_reducible refine Up.base _ ?_ ?_) | (with_reducible exact LeSize.out) | exact LeSize.out | exact Nat.le_add_right_of_le LeSize.out | exact Nat.le_add_right_of_le (Nat.le_add_right_of_le LeSize.out) | (with_reducible exact Nat.le_refl _) | (simp; done) | (simp; omega)))))
                  clear d1 d2 HD9
                  go_wp2
                  go_roundw
                  case rel => exact ⟨k + 1, by go_num, by omega, _, _, _, _, HDA.out, by omega⟩
                  case measure => simp [intOf]; omega
                · have h1 : At < 0 := by omega
                  have hdd : decide (0 ≤ At) = false := by simp; omega
                  clear hin h0
                  go_wp2_with (go_at_call 11; refine (Up.run (bget_any _ _ B _ _ HD.out.K)).mono ?_; rintro e w' ⟨rfl, u, rfl⟩; simp only [hg, hd])
                  (refine wp_region_up (by kernel_rfl) (by kernel_rfl) ?_; (repeat (first | go_big_quiet_step ((first | fail)))); refine wpQuiet_nil ?_; rintro _ ⟨u, rfl⟩)
                  go_wp2
                  (try simp only [hdd])
                  (refine wp_region_up (by kernel_rfl) (by kernel_rfl) ?_; (repeat (first | go_big_quiet_step ((first | fail)))); refine wpQuiet_nil ?_; rintro _ ⟨u, rfl⟩)
                  go_wp2
                  have HD9 := Lib.hid (HD.out.below (w' := Up.w u) (by (repeat' (first | (with_reducible exact Below.refl _ _) | (with_reducible assumption) | (with_reducible refine Below.setCell ?_ ?_ _) | (with_reducible refine Below.alloc ?_ ?_ _) | (with_reducible refine Below.drew ?_) | (with_reducible refine Up.base _ ?_ ?_) | (with_reducible exact LeSize.out) | exact LeSize.out | exact Nat.le_add_right_of_le LeSize.out | exact Nat.le_add_right_of_le (Nat.le_add_right_of_le LeSize.out) | (with_reducible exact Nat.le_refl _) | (simp; done) | (simp; omega)))))
                  clear d1 HD
                  haveI : IsBlk _ (w.heap.size + 1) _ _ := ⟨HD9.out.R.blk⟩
                  haveI : LeSize (w.heap.size + 1 + 1) _ := ⟨HD9.out.R.lt⟩
                  have d1 := blk_cell HD9.out.R.blk 1 rfl
                  have d2 := blk_cell HD9.out.R.blk 2 rfl
                  (refine wp_region_up (by kernel_rfl) (by kernel_rfl) ?_; (repeat (first | go_big_quiet_step ((first | (go_at_call 14; exact Up.pure (blen_any _ _ _ _ (HD9.out.K.below (by (repeat' (first | (with_reducible exact Below.refl _ _) | (with_reducible assumption) | (with_reducible refine Below.setCell ?_ ?_ _) | (with_reducible refine Below.alloc ?_ ?_ _) | (with_reducible refine Below.drew ?_) | (with_reducible refine Up.base _ ?_ ?_) | (with_reducible exact LeSize.out) | exact LeSize.out | exact Nat.le_add_right_of_le LeSize.out | exact Nat.le_add_right_of_le (Nat.le_add_right_of_le LeSize.out) | (with_reducible exact Nat.le_refl _) | (simp; done) | (simp; omega))))))) | (go_at_call 15; exact Up.pure (blost_any _ _ _ _ (HD9.out.K.below (by (repeat' (first | (with_reducible exact Below.refl _ _) | (with_reducible assumption) | (with_reducible refine Below.setCell ?_ ?_ _) | (with_reducible refine Below.alloc ?_ ?_ _) | (with_reducible refine Below.drew ?_) | (with_reducible refine Up.base _ ?_ ?_) | (with_reducible exact LeSize.out) | exact LeSize.out | exact Nat.le_add_right_of_le LeSize.out | exact Nat.le_add_right_of_le (Nat.le_add_right_of_le LeSize.out) | (with_reducible exact Nat.le_refl _) | (simp; done) | (simp; omega))))))) | fail)))); refine wpQuiet_nil ?_; rintro _ ⟨u, rfl⟩)
                  have HDA := Lib.hid (HD9.out.below (w' := Up.w u) (by (repeat' (first | (with_reducible exact Below.refl _ _) | (with_reducible assumption) | (with_reducible refine Below.setCell ?_ ?_ _) | (with_reducible refine Below.alloc ?_ ?_ _) | (with_reducible refine Below.drew ?_) | (with_reducible refine Up.base _ ?_ ?_) | (with_reducible exact LeSize.out) | exact LeSize.out | exact Nat.le_add_right_of_le LeSize.out | exact Nat.le_add_right_of_le (Nat.le_add_right_of_le LeSize.out) | (with_reducible exact Nat.le_refl _) | (simp; done) | (simp; omega)))))
                  clear d1 d2 HD9
                  go_wp2
                  go_roundw
                  case rel => exact ⟨k + 1, by go_num, by omega, _, _, _, _, HDA.out, by omega⟩
                  case measure => simp [intOf]; omega
            · haveI : IsBlk _ (w.heap.size + 1) _ _ := ⟨HD.out.R.blk⟩
              haveI : LeSize (w.heap.size + 1 + 1) _ := ⟨HD.out.R.lt⟩
              have d1 := blk_cell HD.out.R.blk 1 rfl
              go_wp2
              (refine wp_region_noPanic ?_; refine wp_region_envF [] [0, 1, 2, 3, 4, 5, 6, 7] [] [1] [(6, 1)] (RcAll B.L.length B.L) (by kernel_rfl) (by kernel_rfl) (fun _ _ _ _ _ h => (h : False).elim) (rcAll_stable _ _) ?_; simp only [pickO, List.filterMap_cons, List.filterMap_nil, List.getElem?_cons_succ, List.getElem?_cons_zero]; refine wpAddr_nil ?_)
              (repeat (first | (refine wpEH_skip rfl rfl ?_; simp only [Act.put, List.setIfInBounds_toArray, List.set_cons_succ, List.set_cons_zero]) | (refine wpEH_want rfl rfl ?_; intro Z hZs hZi hZn K hK; (first | (go_big_quiet_op; (first | go_big_quiet_on | go_big_quiet_call ((first | fail))))); clear hZs hZi hZn Z)))
              refine wpEH_ocall (f := 13) (args := #[.pointer (some ⟨w.heap.size, 0, none⟩)]) rfl rfl (fun w => by simp [go_sem]) (fun u _ => ?_) ?_
              · refine (lall_up w.heap.size _ B _ (HD.out.K.below u.bel)).mono ?_
                rintro e w' ⟨a4, c4, u4, rfl, rfl, he, _⟩
                exact ⟨_, rfl, ⟨a4, c4, rfl, he⟩, u4.bel⟩
              · rintro v p ⟨u0, a4, c4, rfl, hE0⟩ hp
                have hp1 : ∀ w, p w → Evs w a4 B.L := fun w h => by
                  obtain ⟨a5, c5, e, h5⟩ := hp w h
                  cases e; exact h5
                clear hp hE0 u0
                (try simp only [Act.put, List.setIfInBounds_toArray, List.set_cons_succ, List.set_cons_zero])
                (repeat (first | (refine wpEH_skip rfl rfl ?_; simp only [Act.put, List.setIfInBounds_toArray, List.set_cons_succ, List.set_cons_zero]) | (refine wpEH_want rfl rfl ?_; intro Z hZs hZi hZn K hK; (first | (go_big_quiet_op; (first | go_big_quiet_on | go_big_quiet_call ((first | (go_at_call 12; exact UpZ.calls hZs (same_eq _ _ _ _ _ _ B.L _ rfl rfl (hp1 _ (env_at (h := 1) (hZi _ (UpZ.z _)) rfl rfl)) (HD.out.R.row.below (by (repeat' (first | (with_reducible exact Below.refl _ _) | (with_reducible assumption) | (with_reducible refine Below.setCell ?_ ?_ _) | (with_reducible refine Below.alloc ?_ ?_ _) | (with_reducible refine Below.drew ?_) | (with_reducible refine Up.base _ ?_ ?_) | (with_reducible exact LeSize.out) | exact LeSize.out | exact Nat.le_add_right_of_le LeSize.out | exact Nat.le_add_right_of_le (Nat.le_add_right_of_le LeSize.out) | (with_reducible exact Nat.le_refl _) | (simp; done) | (simp; omega)))) (Nat.le_refl _)) (by omega))) | fail))))); clear hZs hZi hZn Z)))
                refine wpEH_nil ?_; intro u hinv
                clear hinv hp1
                go_wp2
                refine NoPanic.normal ?_
                go_wp2
                have HD9 := Lib.hid (HD.out.below (w' := Up.w u) u.bel)
                clear d1 HD
                haveI : IsBlk _ (w.heap.size + 1) _ _ := ⟨HD9.out.R.blk⟩
                haveI : LeSize (w.heap.size + 1 + 1) _ := ⟨HD9.out.R.lt⟩
                have d1 := blk_cell HD9.out.R.blk 1 rfl
                have d2 := blk_cell HD9.out.R.blk 2 rfl
                (refine wp_region_up (by kernel_rfl) (by kernel_rfl) ?_; (repeat (first | go_big_quiet_step ((first | (go_at_call 14; exact Up.pure (blen_any _ _ _ _ (HD9.out.K.below (by (repeat' (first | (with_reducible exact Below.refl _ _) | (with_reducible assumption) | (with_reducible refine Below.setCell ?_ ?_ _) | (with_reducible refine Below.alloc ?_ ?_ _) | (with_reducible refine Below.drew ?_) | (with_reducible refine Up.base _ ?_ ?_) | (with_reducible exact LeSize.out) | exact LeSize.out | exact Nat.le_add_right_of_le LeSize.out | exact Nat.le_add_right_of_le (Nat.le_add_right_of_le LeSize.out) | (with_reducible exact Nat.le_refl _) | (simp; done) | (simp; omega))))))) | (go_at_call 15; exact Up.pure (blost_any _ _ _ _ (HD9.out.K.below (by (repeat' (first | (with_reducible exact Below.refl _ _) | (with_reducible assumption) | (with_reducible refine Below.setCell ?_ ?_ _) | (with_reducible refine Below.alloc ?_ ?_ _) | (with_reducible refine Below.drew ?_) | (with_reducible refine Up.base _ ?_ ?_) | (with_reducible exact LeSize.out) | exact LeSize.out | exact Nat.le_add_right_of_le LeSize.out | exact Nat.le_add_right_of_le (Nat.le_add_right_of_le LeSize.out) | (with_reducible exact Nat.le_refl _) | (simp; done) | (simp; omega))))))) | fail)))); refine wpQuiet_nil ?_; rintro _ ⟨u, rfl⟩)
                have HDA := Lib.hid (HD9.out.below (w' := Up.w u) (by (repeat' (first | (with_reducible exact Below.refl _ _) | (with_reducible assumption) | (with_reducible refine Below.setCell ?_ ?_ _) | (with_reducible refine Below.alloc ?_ ?_ _) | (with_reducible refine Below.drew ?_) | (with_reducible refine Up.base _ ?_ ?_) | (with_reducible exact LeSize.out) | exact LeSize.out | exact Nat.le_add_right_of_le LeSize.out | exact Nat.le_add_right_of_le (Nat.le_add_right_of_le LeSize.out) | (with_reducible exact Nat.le_refl _) | (simp; done) | (simp; omega)))))
                clear d1 d2 HD9
                go_wp2
                go_roundw
                case rel => exact ⟨k + 1, by go_num, by omega, _, _, _, _, HDA.out, by omega⟩
                case measure => simp [intOf]; omega
        · go_wp2_with (go_at_call 8; refine (Up.run (awakeB_any _)).mono ?_; rintro e w' ⟨rfl, u, rfl⟩)
          go_returns
          exact ⟨rfl, by (repeat' (first | (with_reducible exact Below.refl _ _) | (with_reducible assumption) | (with_reducible refine Below.setCell ?_ ?_ _) | (with_reducible refine Below.alloc ?_ ?_ _) | (with_reducible refine Below.drew ?_) | (with_reducible refine Up.base _ ?_ ?_) | (with_reducible exact LeSize.out) | exact LeSize.out | exact Nat.le_add_right_of_le LeSize.out | exact Nat.le_add_right_of_le (Nat.le_add_right_of_le LeSize.out) | (with_reducible exact Nat.le_refl _) | (simp; done) | (simp; omega)))⟩
      · haveI : IsBlk _ (w.heap.size + 1) _ _ := ⟨HD.out.R.blk⟩
        haveI : LeSize (w.heap.size + 1 + 1) _ := ⟨HD.out.R.lt⟩
        have d1 := blk_cell HD.out.R.blk 1 rfl
        have hge : S.length ≤ k := by omega
        clear hlt
        go_wp2
        (refine wp_region_noPanic ?_; refine wp_region_envF [] [0, 1, 2, 3, 4, 5, 6, 7, 8, 9, 10] [] [1] [(6, 1)] (RcAll B.L.length B.L) (by kernel_rfl) (by kernel_rfl) (fun _ _ _ _ _ h => (h : False).elim) (rcAll_stable _ _) ?_; simp only [pickO, List.filterMap_cons, List.filterMap_nil, List.getElem?_cons_succ, List.getElem?_cons_zero]; refine wpAddr_nil ?_)
        (repeat (first | (refine wpEH_skip rfl rfl ?_; simp only [Act.put, List.setIfInBounds_toArray, List.set_cons_succ, List.set_cons_zero]) | (refine wpEH_want rfl rfl ?_; intro Z hZs hZi hZn K hK; (first | (go_big_quiet_op; (first | go_big_quiet_on | go_big_quiet_call ((first | fail))))); clear hZs hZi hZn Z)))
        refine wpEH_ocall (f := 13) (args := #[.pointer (some ⟨w.heap.size, 0, none⟩)]) rfl rfl (fun w => by simp [go_sem]) (fun u _ => ?_) ?_
        · refine (lall_up w.heap.size _ B _ (HD.out.K.below u.bel)).mono ?_
          rintro e w' ⟨a4, c4, u4, rfl, rfl, he, _⟩
          exact ⟨_, rfl, ⟨a4, c4, rfl, he⟩, u4.bel⟩
        · rintro v p ⟨u0, a4, c4, rfl, hE0⟩ hp
          have hp1 : ∀ w, p w → Evs w a4 B.L := fun w h => by
            obtain ⟨a5, c5, e, h5⟩ := hp w h
            cases e; exact h5
          clear hp hE0 u0
          (try simp only [Act.put, List.setIfInBounds_toArray, List.set_cons_succ, List.set_cons_zero])
          (repeat (first | (refine wpEH_skip rfl rfl ?_; simp only [Act.put, List.setIfInBounds_toArray, List.set_cons_succ, List.set_cons_zero]) | (refine wpEH_want rfl rfl ?_; intro Z hZs hZi hZn K hK; (first | (go_big_quiet_op; (first | go_big_quiet_on | go_big_quiet_call ((first | (go_at_call 12; exact UpZ.calls hZs (same_eq _ _ _ _ _ _ B.L _ rfl rfl (hp1 _ (env_at (h := 1) (hZi _ (UpZ.z _)) rfl rfl)) (HD.out.R.row.below (by (repeat' (first | (with_reducible exact Below.refl _ _) | (with_reducible assumption) | (with_reducible refine Below.setCell ?_ ?_ _) | (with_reducible refine Below.alloc ?_ ?_ _) | (with_reducible refine Below.drew ?_) | (with_reducible refine Up.base _ ?_ ?_) | (with_reducible exact LeSize.out) | exact LeSize.out | exact Nat.le_add_right_of_le LeSize.out | exact Nat.le_add_right_of_le (Nat.le_add_right_of_le LeSize.out) | (with_reducible exact Nat.le_refl _) | (simp; done) | (simp; omega)))) (Nat.le_refl _)) (by omega))) | (go_at_call 8; exact UpZ.calls hZs (awakeB_any _)) | fail))))); clear hZs hZi hZn Z)))
          refine wpEH_nil ?_; intro u hinv
          clear hinv hp1
          go_wp2
          refine NoPanic.normal ?_
          go_wp2
          go_returns
          exact ⟨rfl, by (repeat' (first | (with_reducible exact Below.refl _ _) | (with_reducible assumption) | (with_reducible refine Below.setCell ?_ ?_ _) | (with_reducible refine Below.alloc ?_ ?_ _) | (with_reducible refine Below.drew ?_) | (with_reducible refine Up.base _ ?_ ?_) | (with_reducible exact LeSize.out) | exact LeSize.out | exact Nat.le_add_right_of_le LeSize.out | exact Nat.le_add_right_of_le (Nat.le_add_right_of_le LeSize.out) | (with_reducible exact Nat.le_refl _) | (simp; done) | (simp; omega)))⟩
  · have hlen2 : 100 < S.length := by omega
    clear hlen
    go_enter Try.func3, Try.ntmps3
    go_wp2_with (first | (go_at_call 6; refine (bnew_any _ _).mono ?_; rintro e w' ⟨rfl, rfl⟩) | (go_at_call 7; refine (rbnew_any _ _).mono ?_; rintro e w' ⟨rfl, rfl⟩) | (go_at_call 8; refine (Up.run (awakeB_any _)).mono ?_; rintro e w' ⟨rfl, u, rfl⟩))
    go_returns
    exact ⟨rfl, by (repeat' (first | (with_reducible exact Below.refl _ _) | (with_reducible assumption) | (with_reducible refine Below.setCell ?_ ?_ _) | (with_reducible refine Below.alloc ?_ ?_ _) | (with_reducible refine Below.drew ?_) | (with_reducible refine Up.base _ ?_ ?_) | (with_reducible exact LeSize.out) | exact LeSize.out | exact Nat.le_add_right_of_le LeSize.out | exact Nat.le_add_right_of_le (Nat.le_add_right_of_le LeSize.out) | (with_reducible exact Nat.le_refl _) | (simp; done) | (simp; omega)))⟩
set_option maxRecDepth 100000 in
theorem BookPlays_lifted (os : Os) (started : os.Started) (H : Type) (enc : TypeId × Value → H) :
    ReturnsInHanded {} Try.checked os 3 .any (Rows.bookPlaysSpec.pre6 enc Try.prog Try.f3 Rows.bookPlaysRow.domain false) (Rows.bookPlaysSpec.post enc Try.prog Try.f3 false true false false) := by
  refine returnsInHanded_of_change (C := Try.checked) own started (by kernel_rfl) Try.func3
    (ChangeSpec.witness6 (enc := enc) (C := Try.checked) false ⟨#[], #[.int .i64 0, .slice none 0 0], []⟩ 8 (by kernel_rfl) (by kernel_rfl) (by kernel_rfl) (by kernel_rfl)) ?_
  intro W base args ds gs before hval0 hW hcnd _
  have hval : ∀ (j : Nat) t v, Try.f3.params[j]? = some t → args[j]? = some v → Value.okWide Try.prog W .any base t v := hval0
  have hW' := hW
  obtain ⟨p, q, hA0, hV, rfl, hfz, hnd⟩ := hW
  have hA : DataW.TrodAll enc Try.prog W 0 (fun _ => true) true Try.f3.params.toList args.toList ds p := hA0
  rw [Try.params3] at hA hval
  obtain ⟨v0, vs0, d0, ds0, p0, q0, hargs, rfl, rfl, h0, r0⟩ := trodAll_cons hA
  obtain ⟨v1, vs1, d1, ds1, p1, q1, rfl, rfl, rfl, h1, r1⟩ := trodAll_cons r0
  obtain ⟨rfl, rfl, rfl⟩ := trodAll_nil r1
  obtain rfl : args = #[v0, v1] := by cases args; simp_all
  obtain ⟨rfl, rfl⟩ := trodVars_none hV
  have k0 := h0
  have lt0 : ∀ x ∈ p0, x.block < W.heap.size := by obtain ⟨m, hm⟩ := k0; exact DataW.trod_lt m _ _ _ hm
  have k1 := h1
  have lt1 : ∀ x ∈ p1, x.block < W.heap.size := by obtain ⟨m, hm⟩ := k1; exact DataW.trod_lt m _ _ _ hm
  obtain ⟨a0, rfl, w0⟩ := open_int1 Try.underlying3 (hval 0 3 v0 rfl rfl)
  obtain ⟨x1_0, x1_1, x1_2, rfl, y1_0, y1_1, y1_2⟩ := open_steps (hval 1 22 v1 rfl rfl) k1
  clear hA0 hval0
  refine (bookPlays_walk a0 x1_0 x1_1 x1_2 W w0 y1_0 y1_1 y1_2).mono fun e W' ⟨he, bel⟩ => ?_
  subst he
  exact ⟨_, rfl, _, _, _, [], _, [], hW', trodAll_mk1 (shut_bool Try.underlying4 _), (trodAll_cons_mk (Below.trod laidOut (by kernel_rfl) (of_decide_eq_true (by kernel_rfl)) k0 bel lt0) (trodAll_cons_mk (Below.trod laidOut (by kernel_rfl) (of_decide_eq_true (by kernel_rfl)) k1 bel lt1) trodAll_mk0)), rfl, bel.frame _, fun h => by cases h⟩

theorem BookPlays_over : Rows.bookPlaysRow.holds Try.pinned (OpenSpec.ofChange Rows.bookPlaysSpec) :=
  OpenClaim.holds_of_wide 3 Try.f3 rfl rfl rfl rfl rfl rfl rfl ⟨rfl, rfl, rfl, rfl, rfl⟩ rfl rfl rfl rfl rfl (by kernel_rfl) Try.func3 (by kernel_rfl)
    (of_decide_eq_true (by kernel_rfl)) (by unfold Func.isWrapper; first | (rw [if_pos (by decide +kernel)]; kernel_rfl) | (rw [if_neg (by decide +kernel)]; exact ⟨rfl, rfl⟩))
    (fun os started H enc _ => BookPlays_lifted os started H enc)

/-- The given statement. -/
theorem BookPlays_holds : Rows.BookPlaysSaid := BookPlays_over
#print axioms BookPlays_holds
end Go.Proofs.Ytpmnhieehkjnmaa
