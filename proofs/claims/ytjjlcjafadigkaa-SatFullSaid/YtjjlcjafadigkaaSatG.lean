/- The law SatFull on package sat: the walk, and the given statement. -/
import Derived.Test.YtjjlcjafadigkaaSatB
import Derived.Test.YtjjlcjafadigkaaBits
import Derived.OwnWalk
namespace Go.Proofs.Ytjjlcjafadigkaa
open Go.ChangeShapes Go.WideShapes Go.ChangeAt Go.RowKit
set_option linter.unusedVariables false

theorem info3 : (Try.prog.info? 3).map (fun i => (i.zero, i.size, i.bytes)) = some (some (.int .i64 0), 1, 8) := by kernel_rfl

def maskM (x : Int) : Int := bits .and .i64 x 2147483647
theorem maskM_bd (x : Int) : 0 ≤ maskM x ∧ maskM x ≤ 2147483647 := by
  have h := and_mask x 31 (by decide)
  have e : maskM x = x % 2147483648 := h
  rw [e]; omega
def masks (zs : List Int) (k : Nat) : List Int := (zs.take k).map maskM
theorem masks_len {zs : List Int} {k : Nat} (h : k ≤ zs.length) : (masks zs k).length = k := by simp [masks]; omega
theorem masks_succ {zs : List Int} {k : Nat} (h : k < zs.length) : masks zs (k + 1) = masks zs k ++ [maskM zs[k]] := by
  unfold masks; rw [List.take_succ_eq_append_getElem h, List.map_append]; rfl
def plain (l : List Int) : Int := l.foldl (· + ·) 0
theorem plain_snoc (l : List Int) (x : Int) : plain (l ++ [x]) = plain l + x := by simp [plain]
theorem plain_masks {zs : List Int} (k : Nat) : 0 ≤ plain (masks zs k) ∧ plain (masks zs k) ≤ 2147483647 * k := by
  induction k with
  | zero => simp [masks, plain]
  | succ k ih =>
    by_cases h : k < zs.length
    · rw [masks_succ h, plain_snoc]
      have := maskM_bd zs[k]
      omega
    · have e : masks zs (k + 1) = masks zs k := by unfold masks; rw [List.take_of_length_le (by omega), List.take_of_length_le (by omega)]
      rw [e]; omega
theorem sum_masks {zs : List Int} (k : Nat) : sumM (masks zs k) = capM (plain (masks zs k)) := by
  induction k with
  | zero => simp [masks, plain, sumM, capM]; omega
  | succ k ih =>
    by_cases h : k < zs.length
    · rw [masks_succ h, plain_snoc, sumM_snoc, ih]
      have := maskM_bd zs[k]
      have := plain_masks (zs := zs) k
      unfold addM capM; omega
    · have e : masks zs (k + 1) = masks zs k := by unfold masks; rw [List.take_of_length_le (by omega), List.take_of_length_le (by omega)]
      rw [e, ih]
set_option maxHeartbeats 1000000 in
theorem satFull_walk (a : Option Addr) (cap : Nat) (zs : List Int) (w : World) (hl : zs.length ≤ cap ∧ cap ≤ 9223372036854775807) (hh : Hdr w a cap) (hi : Ints w a zs) (hz : ∀ i, i < zs.length → InKind .i64 (zs.getD i 0)) :
    Calls Try.prog 7 #[.slice a zs.length cap] w fun e w' => e = .returned (.bool true) ∧ Below w.heap.size w w' := by
  obtain ⟨i0, hinfo, hz0, hz1, hz2⟩ := info_parts info3
  have HI := Lib.hid hi
  have HZ := Lib.hid hz
  clear hi hz hh
  go_enter Try.func7, Try.ntmps7
  go_wp2
  go_loopw [3, 4, 5] (fun m n i wr => ∃ k : Nat, k ≤ zs.length ∧ k ≤ 10 ∧ i = .int .i64 k ∧ n = .int .i64 (plain (masks zs k)) ∧ wr.ownsRow w.heap.size 3 1 m k ((masks zs k).map (Value.int .i64)) ∧ Below w.heap.size w wr) (fun _ _ i _ => zs.length - (intOf i).toNat)
  case atStart => exact ⟨0, Nat.zero_le _, by omega, rfl, rfl, ⟨rfl, .inl ⟨rfl, rfl⟩⟩, Below.refl _ _⟩
  case round =>
    obtain ⟨k, hk, hk10, rfl, rfl, hown, hb⟩ := hrel
    have hp := plain_masks (zs := zs) k
    by_cases hlt : k < zs.length ∧ k < 10
    · obtain ⟨hlt, h10⟩ := hlt
      obtain ⟨b, off, rfl, hbs, hc⟩ := HI.out.cell (by omega)
      have hcell := hc k hlt
      clear hc
      have hcw : wr.cell? ⟨b, off + k, none⟩ = some (.int .i64 (zs.getD k 0)) := by rw [hb.cell (p := ⟨b, off + k, none⟩) (by simpa using hbs)]; exact hcell
      have h10' : (k : Int) < 10 := by omega
      have hm := maskM_bd zs[k]
      unfold maskM at hm
      have H1 := Lib.hid (masks_succ hlt)
      have H2 := Lib.hid (plain_snoc (masks zs k) (maskM zs[k]))
      clear hcell
      have hB := hb.size
      go_wp2_with (at_builtin; refine wpList_append_own _ rfl _ _ 22 rfl w.heap.size 3 i0 (.int .i64 0) 1 8 Try.underlying22 hinfo hz0 hz1 hz2 rfl (by decide) _ _ _ rfl (hown.alloc _) ⟨wr.heap.size, 0, none⟩ 1 1 [.int .i64 (bits .and .i64 zs[k] 2147483647)] rfl rfl ?c1 ?c2 ?c3 ?c4 ?c5 ?_)
      case c1 => intro j u hj; match j, hj with | 0, hj => simp at hj; subst hj; simp [Addr.add]
      case c2 => simp [Value.oneCell']
      case c3 => unfold maxLen; omega
      case c4 => omega
      case c5 => simp; omega
      intro v' w1 hown' hgrow _
      go_wp2
      go_roundw
      case rel =>
        refine ⟨k + 1, by omega, by omega, by go_num, ?_, ?_, ?_⟩
        · rw [H1.out, H2.out]; rfl
        · rw [H1.out, List.map_append]; exact hown'
        · exact below_append hb hB hown hgrow
      case measure => simp [intOf]; omega
    · obtain ⟨a', cap', rfl, hlen, hI⟩ := ints_of_own hown
      have hs := sum_masks (zs := zs) k
      have HL := Lib.hid hlen
      clear hlen hown
      by_cases hbig : 2147483647 ≤ plain (masks zs k)
      · have hf : 2147483647 ≤ sumM (masks zs k) := by rw [hs]; unfold capM; omega
        clear hs
        by_cases hk2 : k < zs.length
        all_goals
          (try have hk3 : 10 ≤ (k : Int) := by omega)
          go_wp2_with (first
    | (go_at_call 9; refine (sum_len _ _ _ (masks zs k) _ HL.out (by omega) (by assumption)).mono ?_; rintro e w' ⟨rfl, rfl⟩)
    | (go_at_call 15; refine (full_any _ _).mono ?_; rintro e w' ⟨rfl, rfl⟩)
    | (go_at_call 8; refine (awake_any _).mono ?_; rintro e w' ⟨rfl, hb'⟩))
          go_ret
          exact ⟨rfl, hb.trans (hb'.mono hb.size)⟩
      · have hf : sumM (masks zs k) < 2147483647 := by rw [hs]; unfold capM; omega
        have he : (sumM (masks zs k) == plain (masks zs k)) = true := by rw [hs]; unfold capM; simp; omega
        clear hs
        by_cases hk2 : k < zs.length
        all_goals
          (try have hk3 : 10 ≤ (k : Int) := by omega)
          go_wp2_with (first
    | (go_at_call 9; refine (sum_len _ _ _ (masks zs k) _ HL.out (by omega) (by assumption)).mono ?_; rintro e w' ⟨rfl, rfl⟩)
    | (go_at_call 15; refine (full_any _ _).mono ?_; rintro e w' ⟨rfl, rfl⟩)
    | (go_at_call 8; refine (awake_any _).mono ?_; rintro e w' ⟨rfl, hb'⟩))
          go_ret
          exact ⟨rfl, hb.trans (hb'.mono hb.size)⟩

set_option maxRecDepth 100000 in
theorem SatFull_lifted (os : Os) (started : os.Started) (H : Type) (enc : TypeId × Value → H) :
    ReturnsInHanded {} Try.checked os 7 .any (Rows.satFullSpec.pre6 enc Try.prog Try.f7 Rows.satFullRow.domain false) (Rows.satFullSpec.post enc Try.prog Try.f7 false true false false) := by
  refine returnsInHanded_of_change (C := Try.checked) own started (by kernel_rfl) Try.func7
    (ChangeSpec.witness6 (enc := enc) (C := Try.checked) false ⟨#[], #[.slice none 0 0], []⟩ 8 (by kernel_rfl) (by kernel_rfl) (by kernel_rfl) (by kernel_rfl)) ?_
  intro W base args ds gs before hval0 hW hcnd _
  have hval : ∀ (j : Nat) t v, Try.f7.params[j]? = some t → args[j]? = some v → Value.okWide Try.prog W .any base t v := hval0
  have hW' := hW
  obtain ⟨p, q, hA0, hV, rfl, hfz, hnd⟩ := hW
  have hA : DataW.TrodAll enc Try.prog W 0 (fun _ => true) true Try.f7.params.toList args.toList ds p := hA0
  rw [Try.params7] at hA hval
  obtain ⟨v0, vs0, d0, ds0, p0, q0, hargs, rfl, rfl, h0, r0⟩ := trodAll_cons hA
  obtain ⟨rfl, rfl, rfl⟩ := trodAll_nil r0
  obtain rfl : args = #[v0] := by cases args; simp_all
  obtain ⟨rfl, rfl⟩ := trodVars_none hV
  have k0 := h0
  have lt0 : ∀ x ∈ p0, x.block < W.heap.size := by obtain ⟨m, hm⟩ := k0; exact DataW.trod_lt m _ _ _ hm
  obtain ⟨a0, cap0, z0, rfl, hl0, hm0, hh0, hr0, iz0⟩ := open_ints1 Try.underlying22 Try.underlying3 (by kernel_rfl) (hval 0 22 v0 rfl rfl) k0
  clear hA0 hval0
  refine (satFull_walk a0 cap0 z0 W ⟨hl0, hm0⟩ hh0 hr0 iz0).mono fun e W' ⟨he, bel⟩ => ?_
  subst he
  exact ⟨_, rfl, _, _, _, [], _, [], hW', trodAll_mk1 (shut_bool Try.underlying4 _), (trodAll_cons_mk (Below.trod laidOut (by kernel_rfl) (of_decide_eq_true (by kernel_rfl)) k0 bel lt0) trodAll_mk0), rfl, bel.frame _, fun h => by cases h⟩

theorem SatFull_over : Rows.satFullRow.holds Try.pinned (OpenSpec.ofChange Rows.satFullSpec) :=
  OpenClaim.holds_of_wide 7 Try.f7 rfl rfl rfl rfl rfl rfl rfl ⟨rfl, rfl, rfl, rfl, rfl⟩ rfl rfl rfl rfl rfl (by kernel_rfl) Try.func7 (by kernel_rfl)
    (of_decide_eq_true (by kernel_rfl)) (by unfold Func.isWrapper; first | (rw [if_pos (by decide +kernel)]; kernel_rfl) | (rw [if_neg (by decide +kernel)]; exact ⟨rfl, rfl⟩))
    (fun os started H enc _ => SatFull_lifted os started H enc)

/-- The given statement. -/
theorem SatFull_holds : Rows.SatFullSaid := SatFull_over
#print axioms SatFull_holds
end Go.Proofs.Ytjjlcjafadigkaa
