/- The contracts of the reference's bounds: clear, Serve. -/
import Derived.Test.YtbnbakienajhmaaTabF
import Derived.Test.YtbnbakienajhmaaEnvF
import Derived.Test.YtbnbakienajhmaaRsat
namespace Go.Proofs.Ytbnbakienajhmaa
open Go.RowKit
set_option linter.unusedVariables false
attribute [local go_sem] IsBlk.cell IsBlk.frozen

theorem OwnInts.grown0 {B : Nat} {w0 wr w1 : World} {v : Value} {xs : List Int} {base : Nat} (hown : OwnInts wr base v xs) (hb : Below B w0 wr) (hB : B ≤ wr.heap.size) (hbase : B ≤ base) (hg : wr.grownBy w1 v.ownBlock) : Below B w0 w1 := by
  refine hb.grown hg (by omega) (fun j hj => ?_)
  rcases hown.2 with ⟨rfl, _⟩ | ⟨g, cap, cur, rfl, hg, _⟩
  · simp [Value.ownBlock] at hj
  · simp [Value.ownBlock] at hj; omega
/-- The list of a set, opened. -/
theorem rlist_up (s : Int) (w : World) :
    Calls Try.prog 13 #[.int .i64 s] w fun e w' => ∃ a cap, ∃ u : Up w, e = .returned (.slice a (listM s).length cap) ∧ w' = u.w ∧ Ints u.w a (listM s) := by
  refine (rlist_any s w).mono ?_
  rintro e w' ⟨v, rfl, hown, hb⟩
  obtain ⟨a, cap, rfl, hi⟩ := hown.opened
  exact ⟨a, cap, ⟨w', hb⟩, rfl, rfl, hi⟩
def clrL (t : Tab) (xs : List Int) : List Int := xs.map fun p => sumZ [(t.ph p.toNat).yel, (t.ph p.toNat).red]
def clearZ (t : Tab) : Int := mostZ (clrL t (listM (onM t)))
theorem mem_list_bd {s x : Int} {i : Nat} (h : (listM s)[i]? = some x) : ∃ p : Nat, x = p ∧ p < 8 := by
  have hm := List.mem_of_getElem? h
  obtain ⟨h0, h1, _⟩ := mem_setL.1 hm
  exact ⟨x.toNat, by omega, by omega⟩
theorem clrL_take (t : Tab) (xs : List Int) (k : Nat) (p : Nat) (h : xs[k]? = some (p : Int)) : clrL t (xs.take (k + 1)) = clrL t (xs.take k) ++ [sumZ [(t.ph p).yel, (t.ph p).red]] := by
  unfold clrL; rw [List.take_add_one, h]; simp
set_option maxHeartbeats 8000000 in
set_option maxRecDepth 100000 in
theorem rclear_any (T : Array Value) (t : Tab) (w : World) (hT : IsTab w T t) :
    Calls Try.prog 75 #[.agg T] w fun e w' => e = .returned (.int .i64 (clearZ t)) ∧ Below w.heap.size w w' := by
  haveI : Sz131 T := ⟨hT.size⟩
  have HT : Hid (∀ w', Below w.heap.size w w' → IsTab w' T t) := Lib.hid fun w' hb => hT.below hb (Nat.le_refl _)
  have HP : Hid (∀ p j v, p < 8 → j < 13 → (phC (t.ph p)).getD j undef = v → T[p * 13 + j]? = some v) := Lib.hid fun p j v hp hj hv => hT.phx p j v hp hj hv
  clear hT
  unfold clearZ
  have hlen : (listM (onM t)).length ≤ 8 := setL_length (onM t) 8
  have HM : Hid (∀ (i : Nat) (x : Int), (listM (onM t))[i]? = some x → ∃ p : Nat, x = p ∧ p < 8) := Lib.hid fun i x h => mem_list_bd h
  obtain ⟨R, hR⟩ : ∃ R, mostZ (clrL t (listM (onM t))) = R := ⟨_, rfl⟩
  rw [hR]
  have HR := Lib.hid hR
  clear hR
  go_enter Try.func75, Try.ntmps75
  go_wp2_with (first | (refine l_ltab rfl rfl rfl ?_; go_simp) | (go_at_call 21; refine (Up.run (ron_any _ _ _ (HT.out _ (by (repeat' (first | (with_reducible exact Below.refl _ _) | (with_reducible assumption) | (with_reducible refine Below.setCell ?_ ?_ _) | (with_reducible refine Below.alloc ?_ ?_ _) | (with_reducible refine Below.drew ?_) | (with_reducible refine Up.base _ ?_ ?_) | (with_reducible exact LeSize.out) | exact LeSize.out | exact Nat.le_add_right_of_le LeSize.out | exact Nat.le_add_right_of_le (Nat.le_add_right_of_le LeSize.out) | (with_reducible exact Nat.le_refl _) | (simp; done) | (simp; omega))))))).mono ?_; rintro e w' ⟨rfl, uo, rfl⟩) | (go_at_call 13; refine (rlist_up _ _).mono ?_; rintro e w' ⟨la, lcap, ul, rfl, rfl, hli⟩))
  generalize listM (onM t) = xs at *
  have HL := Lib.hid hli
  clear hli
  go_loopw [3, 10] (fun l i wr => ∃ k : Nat, k ≤ xs.length ∧ i = .int .i64 k ∧ ∃ ur : Up ul.w, wr = ur.w ∧ OwnInts wr ul.w.heap.size l (clrL t (xs.take k))) (fun _ i _ => xs.length - (intOf i).toNat)
  case atStart => exact ⟨0, Nat.zero_le _, rfl, ⟨_, Below.refl _ _⟩, rfl, OwnInts.nil _ _⟩
  case round =>
    obtain ⟨k, hk, rfl, ur, rfl, hown⟩ := hrel
    by_cases hlt : k < xs.length
    · have hx : xs[k]? = some xs[k] := List.getElem?_eq_getElem hlt
      obtain ⟨p, hp, hp8⟩ := HM.out k _ hx
      rw [hp] at hx
      obtain ⟨b, off, rfl, hbl, hc⟩ := (Row1.up ur HL.out).cell (by omega)
      have hck := hc k hlt
      rw [show xs.getD k 0 = (p : Int) by rw [List.getD_eq_getElem?_getD, hx]; rfl] at hck
      have hct := clrL_take t xs k p hx
      have t6 := HP.out p 6 _ hp8 (by omega) rfl
      have t7 := HP.out p 7 _ hp8 (by omega) rfl
      simp only [phC, List.getD_cons_succ, List.getD_cons_zero] at t6 t7
      generalize (t.ph p).yel = yl at *
      generalize (t.ph p).red = rd at *
      have HCT := Lib.hid hct
      have hpI : (p : Int) < 8 := by omega
      clear hc hx hct hp
      have hfl : (clrL t (xs.take k)).length ≤ 1000000 := by unfold clrL; simp; omega
      obtain ⟨la, ll, lc, rfl⟩ := hown.slice
      go_wp2
      (refine wp_region_noPanic ?_; refine wp_region_envF [] [0, 1, 2, 3, 4, 5, 6, 7, 8, 9, 10, 11, 12, 13] [14, 15] [11, 13] [(12, 11)] noRc (by kernel_rfl) (by kernel_rfl) (fun _ _ _ _ _ h => (h : False).elim) noRc_stable ?_; simp only [pickO, List.filterMap_cons, List.filterMap_nil, List.getElem?_cons_succ, List.getElem?_cons_zero]; refine wpAddr_nil ?_)
      (repeat (first | (refine wpEH_skip rfl rfl ?_; simp only [Act.put, List.setIfInBounds_toArray, List.set_cons_succ, List.set_cons_zero]) | (refine wpEH_want rfl rfl ?_; intro Z hZs hZi hZn K hK; (first | (go_big_quiet_op; (first | go_big_quiet_on | go_big_quiet_call ((first | fail))))); clear hZs hZi hZn Z)))
      (refine wpEH_build 2 (.cells #[.int .i64 yl, .int .i64 rd] 3) rfl rfl (fun w => (by simp [go_sem] <;> rfl)) ?_; intro q11 p11 hq11 hp11; simp only [Act.put, List.setIfInBounds_toArray, List.set_cons_succ, List.set_cons_zero])
      (repeat (first | (refine wpEH_skip rfl rfl ?_; simp only [Act.put, List.setIfInBounds_toArray, List.set_cons_succ, List.set_cons_zero]) | (refine wpEH_want rfl rfl ?_; intro Z hZs hZi hZn K hK; (first | (go_big_quiet_op; (first | go_big_quiet_on | go_big_quiet_call ((first | (go_at_call 53; exact UpZ.pure (vsum_any _ _ [yl, rd] _ (by simp) (ints_built [yl, rd] (hp11 _ (env_at (h := 11) (hZi _ (UpZ.z _)) rfl rfl))))) | fail))))); clear hZs hZi hZn Z)))
      (refine wpEH_build 1 (.cells #[.int .i64 (sumZ [yl, rd])] 3) rfl rfl (fun w => (by simp [go_sem] <;> rfl)) ?_; intro q13 p13 hq13 hp13; simp only [Act.put, List.setIfInBounds_toArray, List.set_cons_succ, List.set_cons_zero])
      (refine wpEH_nil ?_; intro u hinv; have hO13 := (hp13 _ (hinv 13 _ rfl)).out; have lO13 := laid_le hO13; clear hinv; clear hp13 p13; go_simp)
      have o3 := hown.up u
      have hbu : Below ul.w.heap.size ul.w u.w := ur.bel.trans (u.bel.mono ur.bel.size)
      refine wpList_app_int rfl _ _ rfl ul.w.heap.size rfl o3 (b := q13) (y := sumZ [yl, rd]) rfl (laid_cell hO13 0 rfl) hfl hbu.size ?_
      intro v' w1 hown' hg
      have hb1 := o3.grown0 hbu hbu.size (Nat.le_refl _) hg
      clear o3 hg hown
      go_wp2
      refine NoPanic.normal ?_
      go_wp2
      go_roundw
      case rel => exact ⟨k + 1, by omega, by go_num, ⟨w1, hb1⟩, rfl, by rw [HCT.out]; exact hown'⟩
      case measure => simp [intOf]; omega
    · obtain rfl : k = xs.length := by omega
      rw [List.take_length] at hown
      obtain ⟨a, cap, rfl, hi⟩ := hown.opened
      have hfl : (clrL t xs).length ≤ 1000 := by unfold clrL; simp; omega
      generalize clrL t xs = zs at *
      go_wp2_with (go_at_call 74; refine (vmost_any _ _ _ _ hfl hi).mono ?_; rintro e w' ⟨rfl, rfl⟩)
      go_ret
      exact ⟨ret_int HR.out, by (repeat' (first | (with_reducible exact Below.refl _ _) | (with_reducible assumption) | (with_reducible refine Below.setCell ?_ ?_ _) | (with_reducible refine Below.alloc ?_ ?_ _) | (with_reducible refine Below.drew ?_) | (with_reducible refine Up.base _ ?_ ?_) | (with_reducible exact LeSize.out) | exact LeSize.out | exact Nat.le_add_right_of_le LeSize.out | exact Nat.le_add_right_of_le (Nat.le_add_right_of_le LeSize.out) | (with_reducible exact Nat.le_refl _) | (simp; done) | (simp; omega)))⟩
end Go.Proofs.Ytbnbakienajhmaa
