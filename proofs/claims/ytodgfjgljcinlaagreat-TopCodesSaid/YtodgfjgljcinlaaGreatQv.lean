/- Of whatever bytes Decode says a table or an error; a table is encoded as the same bytes, and its bounds are below MaxTick: TopCodes. Conditions: none. -/
import Derived.Test.YtodgfjgljcinlaaGreatQu
import Derived.JoinedOf
namespace Go.Proofs.YtodgfjgljcinlaaGreat
set_option maxHeartbeats 8000000
set_option maxRecDepth 100000
set_option linter.unusedVariables false
section
open Go.ChangeShapes Go.WideShapes Go.ChangeAt Go.RowKit
attribute [local go_sem] IsBlk.cell IsBlk.frozen
theorem bJ {a b : Bool} (h : a = true) (k : b = true) : (a && b) = true := by rw [h, k]; rfl
theorem i4 (os : Os) (started : os.Started) (H : Type) (enc : TypeId × Value → H) :
  ReturnsInHanded {} Tryz.checked os 3 .any (Rows.topCodesSpec.pre6 enc Tryz.prog Tryz.f3 Rows.topCodesRow.domain false) (Rows.topCodesSpec.post enc Tryz.prog Tryz.f3 false true false false) := by
 refine returnsInHanded_of_change (C := Tryz.checked) own started (by kernel_rfl) Tryz.func3
  (ChangeSpec.witness6 (enc := enc) (C := Tryz.checked) false ⟨#[], #[.slice none 0 0, .bool false], []⟩ 8 (by kernel_rfl) (by kernel_rfl) (by kernel_rfl) (by kernel_rfl)) ?_
 intro W base args ds gs before hval0 hW hcnd _
 have hval : ∀ (j : Nat) t v, Tryz.f3.params[j]? = some t → args[j]? = some v → Value.okWide Tryz.prog W .any base t v := hval0
 have hW' := hW
 obtain ⟨p, q, hA0, hV, rfl, hfz, hnd⟩ := hW
 have hA : DataW.TrodAll enc Tryz.prog W 0 (fun _ => true) true Tryz.f3.params.toList args.toList ds p := hA0
 rw [Tryz.params3] at hA hval
 obtain ⟨v0, vs0, d0, ds0, p0, q0, hargs, rfl, rfl, h0, r0⟩ := trodAll_cons hA
 obtain ⟨v1, vs1, d1, ds1, p1, q1, rfl, rfl, rfl, h1, r1⟩ := trodAll_cons r0
 obtain ⟨rfl, rfl, rfl⟩ := trodAll_nil r1
 obtain rfl : args = #[v0, v1] := by cases args; simp_all
 obtain ⟨rfl, rfl⟩ := trodVars_none hV
 have k0 := h0
 have lt0 : ∀ x ∈ p0, x.block < W.heap.size := by obtain ⟨m, hm⟩ := k0; exact DataW.trod_lt m _ _ _ hm
 have k1 := h1
 have lt1 : ∀ x ∈ p1, x.block < W.heap.size := by obtain ⟨m, hm⟩ := k1; exact DataW.trod_lt m _ _ _ hm
 obtain ⟨a0, cap0, z0, rfl, hl0, hm0, hh0, hr0, iz0⟩ := aaq Tryz.underlying22 Tryz.underlying5 (by kernel_rfl) (hval 0 22 v0 rfl rfl) k0
 obtain ⟨a1, rfl⟩ := oE Tryz.underlying4 (hval 1 4 v1 rfl rfl)
 clear hA0 hval0
 refine (ks a0 cap0 z0 a1 W ⟨hl0, hm0⟩ hh0 hr0 iz0).mono fun e W' ⟨he, bel⟩ => ?_
 subst he
 exact ⟨_, rfl, _, _, _, [], _, [], hW', trodAll_mk1 (shut_bool Tryz.underlying4 _), (trodAll_cons_mk (Below.trod pf (by kernel_rfl) (of_decide_eq_true (by kernel_rfl)) k0 bel lt0) (trodAll_cons_mk (Below.trod pf (by kernel_rfl) (of_decide_eq_true (by kernel_rfl)) k1 bel lt1) trodAll_mk0)), rfl, bel.frame _, fun h => by cases h⟩
theorem mY : (Rows.topCodesRow.wf (OpenSpec.ofChange Rows.topCodesSpec)) = true := by kernel_rfl
theorem nb : (laidOutB Tryz.prog) = true := by kernel_rfl
theorem nF : (mapsRowed Tryz.prog) = true := by kernel_rfl
theorem mR : (Tryz.f3.params.all (Tryz.prog.readableRec ·)) = true := by kernel_rfl
theorem mC : (namedTie Tryz.prog Rows.topCodesRow.named Rows.topCodesSpec.vars) = true := by kernel_rfl
theorem nc : ((Rows.topCodesRow.stops == [])) = true := by kernel_rfl
theorem nw : ((Tryz.prog.stops == [])) = true := by kernel_rfl
theorem m4 : ((Rows.topCodesRow.knobs == [])) = true := by kernel_rfl
theorem np : ((Tryz.prog.stopKnobs == [])) = true := by kernel_rfl
theorem nk : ((Rows.topCodesRow.inPlace == Tryz.prog.inPlace 3)) = true := by kernel_rfl
theorem ly : ((Rows.topCodesRow.unfollowed == Tryz.prog.unfollowed 3)) = true := by kernel_rfl
theorem lY : ((Rows.topCodesRow.recurses == Tryz.prog.recurses 3)) = true := by kernel_rfl
theorem lH : ((Rows.topCodesRow.named == Tryz.prog.varsNamed 3)) = true := by kernel_rfl
theorem mm : ((Rows.topCodesRow.maps == (Tryz.f3.params.toList ++ Rows.topCodesSpec.plain.varTypes Tryz.prog).any (Tryz.prog.mapsRec ·))) = true := by kernel_rfl
theorem abn : ((Rows.topCodesRow.ifaces == (Tryz.f3.params.toList ++ Rows.topCodesSpec.plain.varTypes Tryz.prog).any (Tryz.prog.ifacesRec ·))) = true := by kernel_rfl
theorem mh : ((Rows.topCodesRow.mapsOut == Tryz.prog.mapsAmong Tryz.f3.resultTypes.toList)) = true := by kernel_rfl
theorem mi : ((Rows.topCodesRow.loops == (Tryz.f3.params.toList ++ Rows.topCodesSpec.plain.varTypes Tryz.prog).any (Tryz.prog.loopsFrom ·))) = true := by kernel_rfl
theorem abo : ((Rows.topCodesRow.wideKeys == (Tryz.f3.params.toList ++ Rows.topCodesSpec.plain.varTypes Tryz.prog ++ Tryz.f3.resultTypes.toList).any (Tryz.prog.wideKeysFrom ·))) = true := by kernel_rfl
theorem abp : (Rows.topCodesSpec.vars.all (Tryz.prog.varReadable ·)) = true := by kernel_rfl
theorem mr : (Tryz.f3.resultTypes.all (fun t => Tryz.prog.readableRec t && decide (t < Tryz.prog.types.size))) = true := by kernel_rfl
theorem lC : ((Rows.topCodesRow.ifacesOut == Tryz.f3.resultTypes.toList.any (Tryz.prog.ifacesRec ·))) = true := by kernel_rfl
theorem mg : ((Rows.topCodesRow.loopsOut == Tryz.f3.resultTypes.toList.any (Tryz.prog.loopsFrom ·))) = true := by kernel_rfl
theorem mf : ((Rows.topCodesRow.plainKeys == Tryz.prog.plainKeys)) = true := by kernel_rfl
theorem lV : (Rows.topCodesRow.shortTexts.isNone) = true := by kernel_rfl
theorem abq : (Tryz.prog.stopsHeard) = true := by kernel_rfl
theorem mq : (Tryz.prog.mayEnter) = true := by kernel_rfl
theorem mp : ((Rows.topCodesRow.lifted == Tryz.prog.liftsFinal)) = true := by kernel_rfl
theorem mc : ((Tryz.prog.make == some Rows.topCodesRow.make)) = true := by kernel_rfl
theorem abr : ((Rows.topCodesRow.kinds == (if Rows.topCodesRow.domain.isEmpty then [] else Tryz.f3.params.toList.map fun t => match Tryz.prog.underlying t with | some (.int k) => some k | _ => none))) = true := by kernel_rfl
theorem abt : ((Rows.topCodesRow.pinned == Rows.topCodesRow.pinnedBy)) = true := by kernel_rfl
theorem lz : ((Rows.topCodesRow.veiled == (Tryz.f3.params.toList ++ Rows.topCodesSpec.plain.varTypes Tryz.prog ++ Tryz.f3.resultTypes.toList).any (Tryz.prog.veiledRec ·))) = true := by kernel_rfl
theorem l8 : (Rows.topCodesRow.veiledFits Tryz.prog Tryz.f3.params.toList (Tryz.f3.params.toList ++ Rows.topCodesSpec.plain.varTypes Tryz.prog ++ Tryz.f3.resultTypes.toList)) = true := by kernel_rfl
theorem jc : joinedFacts Tryz.prog 3 Tryz.f3 Rows.topCodesSpec Rows.topCodesRow = true := (bJ (bJ (bJ (bJ (bJ (bJ (bJ (bJ (bJ (bJ (bJ (bJ (bJ (bJ (bJ (bJ (bJ (bJ (bJ (bJ (bJ (bJ (bJ (bJ (bJ (bJ (bJ (bJ (bJ (bJ (bJ mY nb) nF) mR) mC) nc) nw) m4) np) nk) ly) lY) lH) mm) abn) mh) mi) abo) abp) mr) lC) mg) mf) lV) abq) mq) mp) mc) abr) abt) lz) l8)
theorem ko : Rows.topCodesRow.holds Tryz.pinned (OpenSpec.ofChange Rows.topCodesSpec) :=
 OpenClaim.holds_of_wide 3 Tryz.f3 rfl rfl rfl rfl rfl rfl rfl ⟨rfl, rfl, rfl, rfl, rfl⟩ rfl rfl rfl rfl rfl (by kernel_rfl) Tryz.func3 jc
  (of_decide_eq_true (by kernel_rfl)) (by unfold Func.isWrapper; first | (rw [if_pos (by decide +kernel)]; kernel_rfl) | (rw [if_neg (by decide +kernel)]; exact ⟨rfl, rfl⟩))
  (fun os started H enc _ => i4 os started H enc)
theorem TopCodes_holds : Rows.TopCodesSaid := ko
#print axioms TopCodes_holds
end
end Go.Proofs.YtodgfjgljcinlaaGreat
