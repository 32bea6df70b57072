/- The contracts of SameInts and of the reference's Without and First; the laws SetOf, SetAll, SetTurn. -/
import Derived.Test.YtocjiigpljokmaaSetG
import Derived.Test.YtocjiigpljokmaaPlace
namespace Go.Proofs.Ytocjiigpljokmaa
open Go.ChangeShapes Go.WideShapes Go.ChangeAt Go.RowKit
set_option linter.unusedVariables false

theorem Ints.up {W : World} {a : Option Addr} {zs : List Int} (u : Up W) (h : Ints W a zs) : Ints u.w a zs := Row1.up u h
theorem Ints.alloc {W : World} {a : Option Addr} {zs : List Int} (h : Ints W a zs) (o : Obj) : Ints (W.alloc o) a zs := Row1.below h ((Below.refl _ _).alloc (Nat.le_refl _) o) (Nat.le_refl _)
/-- A row that comes back, in a world that differs by new memory. -/
theorem RetInts.up {P : Program} {f : FuncId} {args : Array Value} {W : World} {zs : List Int} (h : Calls P f args W (RetInts 0 W zs)) :
    Calls P f args W fun e w' => ∃ a cap, ∃ u : Up W, e = .returned (.slice a zs.length cap) ∧ w' = u.w ∧ Ints u.w a zs :=
  h.mono fun e w' ⟨v, he, ho, hb⟩ => by
    obtain ⟨a, cap, rfl, hi⟩ := ho.opened
    exact ⟨a, cap, ⟨w', hb⟩, he, rfl, hi⟩
set_option maxHeartbeats 1000000 in
theorem same_any (a b : Option Addr) (cap cap' : Nat) (zs : List Int) (w : World) (hl : zs.length ≤ 1000) (hi : Ints w a zs) (hi2 : Ints w b zs) :
    Calls Try.prog 14 #[.slice a zs.length cap, .slice b zs.length cap'] w fun e w' => e = .returned (.bool true) ∧ Below w.heap.size w w' := by
  have HI := Lib.hid hi
  have HI2 := Lib.hid hi2
  clear hi hi2
  go_enter Try.func14, Try.ntmps14
  go_wp2
  go_loopw [5] (fun i wr => ∃ k : Nat, k ≤ zs.length ∧ i = .int .i64 k ∧ Below w.heap.size w wr) (fun i _ => zs.length - (intOf i).toNat)
  case atStart => exact ⟨0, Nat.zero_le _, rfl, Below.refl _ _⟩
  case round =>
    obtain ⟨k, hk, rfl, hb⟩ := hrel
    have i0 : LeSize w.heap.size wr := ⟨hb.size⟩
    by_cases hlt : k < zs.length
    · obtain ⟨b1, o1, rfl, hb1, hc1⟩ := HI.out.cell (by omega)
      obtain ⟨b2, o2, rfl, hb2, hc2⟩ := HI2.out.cell (by omega)
      have h1 : wr.cell? ⟨b1, o1 + k, none⟩ = some (.int .i64 (zs.getD k 0)) := by rw [hb.cell (p := ⟨b1, o1 + k, none⟩) hb1]; exact hc1 k hlt
      have h2 : wr.cell? ⟨b2, o2 + k, none⟩ = some (.int .i64 (zs.getD k 0)) := by rw [hb.cell (p := ⟨b2, o2 + k, none⟩) hb2]; exact hc2 k hlt
      have i1 : LeSize (b1 + 1) wr := ⟨Nat.le_trans hb1 hb.size⟩
      have i2 : LeSize (b2 + 1) wr := ⟨Nat.le_trans hb2 hb.size⟩
      clear hc1 hc2
      go_wp2
      (refine wp_region_up (by kernel_rfl) (by kernel_rfl) ?_; (repeat (go_big_quiet_step ((first | fail)))); refine wpQuiet_nil ?_; rintro _ ⟨u, rfl⟩)
      go_wp2
      go_roundw
      case rel => exact ⟨k + 1, by omega, by go_num, by (repeat' (first | (with_reducible exact Below.refl _ _) | (with_reducible assumption) | (with_reducible refine Below.setCell ?_ ?_ _) | (with_reducible refine Below.alloc ?_ ?_ _) | (with_reducible refine Below.drew ?_) | (with_reducible refine Up.base _ ?_ ?_) | (with_reducible exact LeSize.out) | exact LeSize.out | exact Nat.le_add_right_of_le LeSize.out | exact Nat.le_add_right_of_le (Nat.le_add_right_of_le LeSize.out) | (with_reducible exact Nat.le_refl _) | (simp; done) | (simp; omega)))⟩
      case measure => simp [intOf]; omega
    · go_wp2
      go_ret
      exact ⟨rfl, hb⟩
theorem filter_take {zs : List Int} {k : Nat} {p : Int → Bool} (hk : k < zs.length) : (zs.take (k + 1)).filter p = (zs.take k).filter p ++ if p (zs.getD k 0) then [zs.getD k 0] else [] := by
  rw [List.take_succ_eq_append_getElem hk, List.filter_append]
  congr 1
  have : zs.getD k 0 = zs[k] := by simp [List.getD, hk]
  rw [this]
  cases h : p zs[k] <;> simp [List.filter, h]
theorem without_list (s p : Int) : ofM ((listM s).filter fun q => q != p) = withoutM s p := packM_congr fun i hi => by
  rw [Bool.eq_iff_iff]
  have h8 : (i : Int) < 8 := by omega
  have h0 : (0 : Int) ≤ i := by omega
  simp only [List.contains_iff_mem, List.mem_filter, mem_listM, Bool.and_eq_true, bne_iff_ne, ne_eq]
  unfold hasM oneM
  simp only [h8, h0, and_self, decide_true, Bool.true_and, Int.toNat_natCast, Bool.not_eq_true', decide_eq_false_iff_not]
  exact and_congr Iff.rfl (not_congr ⟨Eq.symm, Eq.symm⟩)
set_option maxHeartbeats 2000000 in
theorem rwithout_any (s p : Int) (w : World) :
    Calls Try.prog 21 #[.int .i64 s, .int .i64 p] w fun e w' => e = .returned (.int .i64 (withoutM s p)) ∧ Below w.heap.size w w' := by
  have hlen : (listM s).length ≤ 8 := setL_length s 8
  have HW := Lib.hid (without_list s p)
  go_enter Try.func21, Try.ntmps21
  go_wp2_with (go_at_call 22; refine (RetInts.up (rlist_any _ _)).mono ?_; rintro e w' ⟨a1, cap1, u, rfl, rfl, hi⟩)
  have hbu := u.bel
  generalize u.w = W1 at *
  have HI := Lib.hid hi
  clear hi
  generalize hzs : listM s = zs at *
  clear hzs
  go_loopw [5, 11] (fun l i wr => ∃ k : Nat, k ≤ zs.length ∧ i = .int .i64 k ∧ OwnInts wr W1.heap.size l ((zs.take k).filter fun q => q != p) ∧ Below W1.heap.size W1 wr) (fun _ i _ => zs.length - (intOf i).toNat)
  case atStart => exact ⟨0, Nat.zero_le _, rfl, OwnInts.nil _ _, Below.refl _ _⟩
  case round =>
    obtain ⟨k, hk, rfl, hown, hb⟩ := hrel
    have hB := hb.size
    by_cases hlt : k < zs.length
    · obtain ⟨b, off, rfl, hbs, hc⟩ := HI.out.cell (by omega)
      have hcell : wr.cell? ⟨b, off + k, none⟩ = some (.int .i64 (zs.getD k 0)) := by rw [hb.cell (p := ⟨b, off + k, none⟩) hbs]; exact hc k hlt
      clear hc
      have hft := filter_take (p := fun q => q != p) hlt
      have hfl : ((zs.take k).filter fun q => q != p).length ≤ 8 := Nat.le_trans (List.length_filter_le _ _) (by simp; omega)
      generalize hx : zs.getD k 0 = x at *
      clear hx
      by_cases hxp : x = p
      · subst hxp
        have HF := Lib.hid hft
        clear hft
        go_wp2
        go_roundw
        case rel => exact ⟨k + 1, by omega, by go_num, by rw [HF.out]; simpa using hown, hb⟩
        case measure => simp [intOf]; omega
      · have hb1 : (x != p) = true := by simp [hxp]
        rw [hb1] at hft
        have HF := Lib.hid hft
        clear hft
        go_wp2_with (at_builtin; refine wpList_app_int rfl _ _ rfl W1.heap.size rfl (hown.alloc _) (b := wr.heap.size) (y := x) rfl (by simp) (by omega) (by simp; omega) ?_; intro v' w1 hown' hg)
        go_roundw
        case rel => exact ⟨k + 1, by omega, by go_num, by rw [HF.out]; exact hown', hown.grown hb hB (Nat.le_refl _) hg⟩
        case measure => simp [intOf]; omega
    · obtain rfl : k = zs.length := by omega
      rw [List.take_length] at hown
      obtain ⟨a2, cap2, rfl, hi2⟩ := hown.opened
      have hl2 : ((zs.filter fun q => q != p)).length ≤ 1000 := Nat.le_trans (List.length_filter_le _ _) (by omega)
      go_wp2_with (go_at_call 10; refine (rof_any _ _ _ _ (by omega) (by assumption)).mono ?_; rintro e w' ⟨rfl, rfl⟩)
      go_ret
      exact ⟨ret_int HW.out, hbu.trans (hb.mono hbu.size)⟩
set_option maxHeartbeats 1000000 in
theorem rfirst_any (s : Int) (w : World) :
    Calls Try.prog 24 #[.int .i64 s] w fun e w' => e = .returned (.int .i64 (firstM s)) ∧ Below w.heap.size w w' := by
  have hf : firstM s = (listM s).headD (-1) := rfl
  have hlen : (listM s).length ≤ 8 := setL_length s 8
  generalize hzs : listM s = zs at *
  cases zs with
  | nil =>
    go_enter Try.func24, Try.ntmps24
    go_wp2_with (go_at_call 22; refine (RetInts.up (rlist_any _ _)).mono ?_; rintro e w' ⟨a1, cap1, u, rfl, rfl, hi⟩)
    go_ret
    exact ⟨ret_int hf.symm, u.bel⟩
  | cons x t =>
    go_enter Try.func24, Try.ntmps24
    go_wp2_with fail
    (go_at_call 22; refine (RetInts.up (rlist_any _ _)).mono ?_; rintro e w' ⟨a1, cap1, u, rfl, rfl, hi⟩)
    rw [hzs] at hi ⊢
    obtain ⟨b, off, rfl, hbs, hc⟩ := hi.cell (by simp)
    have c0 := hc 0 (by simp)
    simp only [List.getD_cons_zero, Nat.add_zero] at c0
    clear hc hi
    go_wp2
    go_ret
    exact ⟨ret_int hf.symm, u.bel⟩
end Go.Proofs.Ytocjiigpljokmaa
