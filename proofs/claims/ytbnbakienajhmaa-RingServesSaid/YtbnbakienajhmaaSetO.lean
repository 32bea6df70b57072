/- The contracts of the reference's Of and With. -/
import Derived.Test.YtbnbakienajhmaaSetR
namespace Go.Proofs.Ytbnbakienajhmaa
open Go.RowKit
set_option linter.unusedVariables false

/-- The bits of the phases below k that are in a list. -/
def ofK (zs : List Int) (k : Nat) : Int := packM fun i => decide (i < k) && zs.contains (i : Int)
theorem ofK_zero (zs : List Int) : ofK zs 0 = 0 := by unfold ofK; rw [pack_zero]; simp
theorem ofK_all (zs : List Int) : ofK zs 8 = ofM zs := packM_congr fun i hi => by simp [hi]
theorem ofK_no {zs : List Int} {k : Nat} (h : zs.contains (k : Int) = false) : ofK zs (k + 1) = ofK zs k := packM_congr fun i hi => by
  by_cases hik : i = k
  · subst hik; rw [h]; simp
  · have : decide (i < k + 1) = decide (i < k) := decide_eq_decide.2 (by omega)
    rw [this]
theorem ofK_yes {zs : List Int} {k : Nat} (hk : k < 8) (h : zs.contains (k : Int) = true) : bits .or .i64 (ofK zs k) (2 ^ k) = ofK zs (k + 1) := by
  unfold ofK
  rw [pow_pack hk, or_pack]
  refine packM_congr fun i hi => ?_
  unfold oneM
  by_cases hik : i = k
  · subst hik; rw [h]; simp
  · have h1 : decide (i < k + 1) = decide (i < k) := decide_eq_decide.2 (by omega)
    have h2 : decide ((k : Int) = (i : Int)) = false := by simp; omega
    rw [h1, h2]; simp
theorem contains_no {zs : List Int} {x : Int} (h : ∀ j, j < zs.length → zs.getD j 0 ≠ x) : zs.contains x = false := by
  cases hc : zs.contains x with
  | false => rfl
  | true =>
    have := List.contains_iff_mem.1 hc
    obtain ⟨j, hj, rfl⟩ := List.getElem_of_mem this
    exact absurd (by simp [List.getD, hj]) (h j hj)
theorem contains_yes {zs : List Int} {x : Int} {j : Nat} (hj : j < zs.length) (h : zs.getD j 0 = x) : zs.contains x = true := by
  refine List.contains_iff_mem.2 ?_
  rw [← h]; simp [List.getD, hj]
theorem int_lit (k : Nat) (n : Int) (h : (k : Int) = n) : Value.int .i64 (k : Int) = .int .i64 n := by rw [h]
set_option maxHeartbeats 4000000 in
theorem rof_any (a : Option Addr) (cap : Nat) (zs : List Int) (w : World) (hl : zs.length ≤ 1000) (hi : Ints w a zs) :
    Calls Try.prog 51 #[.slice a zs.length cap] w fun e w' => e = .returned (.int .i64 (ofM zs)) ∧ w = w' := by
  have HI := Lib.hid hi
  clear hi
  go_enter Try.func51, Try.ntmps51
  go_wp2
  go_loop [3, 4] (fun s i => ∃ k : Nat, k ≤ 8 ∧ i = .int .i64 k ∧ s = .int .i64 (ofK zs k)) (fun _ i => 8 - (intOf i).toNat)
  case atStart => exact ⟨0, Nat.zero_le _, rfl, by rw [ofK_zero]⟩
  case round =>
    obtain ⟨k, hk, rfl, rfl⟩ := hrel
    by_cases hlt : k < 8
    · cases hcon : zs.contains (k : Int)
      · have HS := Lib.hid (ofK_no hcon)
        have HN : Hid (∀ j, j < zs.length → zs.getD j 0 ≠ (k : Int)) := Lib.hid fun j hj he => by rw [contains_yes hj he] at hcon; cases hcon
        clear hcon
        go_wp2
        go_loop [3, 5] (fun s i => s = .int .i64 (ofK zs k) ∧ ∃ j : Nat, j ≤ zs.length ∧ i = .int .i64 j) (fun _ i => zs.length - (intOf i).toNat)
        case atStart => exact ⟨rfl, 0, Nat.zero_le _, rfl⟩
        case round =>
          obtain ⟨rfl, j, hj, rfl⟩ := hrel
          by_cases hjl : j < zs.length
          · obtain ⟨b, off, rfl, hbs, hc⟩ := HI.out.cell (by omega)
            have hcell := hc j hjl
            clear hc
            have hne := HN.out j hjl
            generalize zs.getD j 0 = x at *
            have hb1 : (x == (k : Int)) = false := by simp [hne]
            clear hne
            go_wp2
            go_round
            case rel => exact ⟨rfl, j + 1, by omega, by go_num⟩
            case measure => simp [intOf]; omega
          · go_wp2
            go_round
            case rel => exact ⟨k + 1, by omega, by go_num, by rw [HS.out]⟩
            case measure => simp [intOf]; omega
      · obtain ⟨m, hm, hmx⟩ : ∃ m, m < zs.length ∧ zs.getD m 0 = (k : Int) := by
          have := List.contains_iff_mem.1 hcon
          obtain ⟨j, hj, he⟩ := List.getElem_of_mem this
          exact ⟨j, hj, by simp [List.getD, hj, he]⟩
        have HS := Lib.hid (ofK_yes hlt hcon)
        have HM := Lib.hid hmx
        clear hcon hmx
        go_wp2
        go_loop [3, 5] (fun s i => s = .int .i64 (ofK zs k) ∧ ∃ j : Nat, j ≤ m ∧ i = .int .i64 j) (fun _ i => zs.length - (intOf i).toNat)
        case atStart => exact ⟨rfl, 0, Nat.zero_le _, rfl⟩
        case round =>
          obtain ⟨rfl, j, hj, rfl⟩ := hrel
          obtain ⟨b, off, rfl, hbs, hc⟩ := HI.out.cell (by omega)
          have hcell := hc j (by omega)
          clear hc
          have hjm : j = m → zs.getD j 0 = (k : Int) := fun h => by rw [h]; exact HM.out
          have hjlt : (j : Int) < zs.length := by omega
          generalize zs.getD j 0 = x at *
          by_cases hx : x = (k : Int)
          · subst hx
            clear hjm
            rcases (show k = 0 ∨ k = 1 ∨ k = 2 ∨ k = 3 ∨ k = 4 ∨ k = 5 ∨ k = 6 ∨ k = 7 by omega) with rfl | rfl | rfl | rfl | rfl | rfl | rfl | rfl
            all_goals
              go_wp2
              go_round
              case rel => exact ⟨_ + 1, by omega, rfl, by rw [← HS.out]; rfl⟩
              case measure => simp [intOf]
          · have hb1 : (x == (k : Int)) = false := by simp [hx]
            have : j ≠ m := fun h => hx (hjm h)
            clear hjm hx
            go_wp2
            go_round
            case rel => exact ⟨rfl, j + 1, by omega, by go_num⟩
            case measure => simp [intOf]; omega
    · obtain rfl : k = 8 := by omega
      go_wp2
      go_ret
      exact ⟨ret_int (by rw [ofK_all]), rfl⟩
end Go.Proofs.Ytbnbakienajhmaa
