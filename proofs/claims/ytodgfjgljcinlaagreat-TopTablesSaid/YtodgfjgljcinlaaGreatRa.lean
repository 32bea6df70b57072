/- Tables by numbers are accepted, each Wait is above 0 exactly for phases that are On; with one byte of its bytes changed it is decoded or not, and if it is accepted its bounds are below MaxTick: TopTables. Conditions: none. -/
import Derived.Test.YtodgfjgljcinlaaGreatQz
import Derived.JoinedOf
namespace Go.Proofs.YtodgfjgljcinlaaGreat
set_option maxHeartbeats 8000000
set_option maxRecDepth 100000
set_option linter.unusedVariables false
section
open Go.ChangeShapes Go.WideShapes Go.ChangeAt Go.RowKit
attribute [local go_sem] IsBlk.cell IsBlk.frozen
theorem bJ {a b : Bool} (h : a = true) (k : b = true) : (a && b) = true := by rw [h, k]; rfl
theorem zM (os : Os) (started : os.Started) (H : Type) (enc : TypeId × Value → H) :
  ReturnsInHanded {} Tryz.checked os 4 .any (Rows.topTablesSpec.pre6 enc Tryz.prog Tryz.f4 Rows.topTablesRow.domain false) (Rows.topTablesSpec.post enc Tryz.prog Tryz.f4 false true false false) := by
 refine returnsInHanded_of_change (C := Tryz.checked) own started (by kernel_rfl) Tryz.func4
  (ChangeSpec.witness6 (enc := enc) (C := Tryz.checked) false ⟨#[], #[.slice none 0 0, .int .i64 0, .int .u8 0], []⟩ 8 (by kernel_rfl) (by kernel_rfl) (by kernel_rfl) (by kernel_rfl)) ?_
 intro W base args ds gs before hval0 hW hcnd _
 have hval : ∀ (j : Nat) t v, Tryz.f4.params[j]? = some t → args[j]? = some v → Value.okWide Tryz.prog W .any base t v := hval0
 have hW' := hW
 obtain ⟨p, q, hA0, hV, rfl, hfz, hnd⟩ := hW
 have hA : DataW.TrodAll enc Tryz.prog W 0 (fun _ => true) true Tryz.f4.params.toList args.toList ds p := hA0
 rw [Tryz.params4] at hA hval
 obtain ⟨v0, vs0, d0, ds0, p0, q0, hargs, rfl, rfl, h0, r0⟩ := trodAll_cons hA
 obtain ⟨v1, vs1, d1, ds1, p1, q1, rfl, rfl, rfl, h1, r1⟩ := trodAll_cons r0
 obtain ⟨v2, vs2, d2, ds2, p2, q2, rfl, rfl, rfl, h2, r2⟩ := trodAll_cons r1
 obtain ⟨rfl, rfl, rfl⟩ := trodAll_nil r2
 obtain rfl : args = #[v0, v1, v2] := by cases args; simp_all
 obtain ⟨rfl, rfl⟩ := trodVars_none hV
 have k0 := h0
 have lt0 : ∀ x ∈ p0, x.block < W.heap.size := by obtain ⟨m, hm⟩ := k0; exact DataW.trod_lt m _ _ _ hm
 have k1 := h1
 have lt1 : ∀ x ∈ p1, x.block < W.heap.size := by obtain ⟨m, hm⟩ := k1; exact DataW.trod_lt m _ _ _ hm
 have k2 := h2
 have lt2 : ∀ x ∈ p2, x.block < W.heap.size := by obtain ⟨m, hm⟩ := k2; exact DataW.trod_lt m _ _ _ hm
 obtain ⟨a0, cap0, z0, rfl, hl0, hm0, hh0, hr0, iz0⟩ := aaq Tryz.underlying51 Tryz.underlying3 (by kernel_rfl) (hval 0 51 v0 rfl rfl) k0
 obtain ⟨a1, rfl, w1⟩ := abc Tryz.underlying3 (hval 1 3 v1 rfl rfl)
 obtain ⟨a2, rfl, w2⟩ := abc Tryz.underlying5 (hval 2 5 v2 rfl rfl)
 clear hA0 hval0
 refine (aay a0 cap0 z0 a1 a2 W ⟨hl0, hm0⟩ hh0 hr0 iz0 w1 w2).mono fun e W' ⟨he, bel⟩ => ?_
 subst he
 exact ⟨_, rfl, _, _, _, [], _, [], hW', trodAll_mk1 (shut_bool Tryz.underlying4 _), (trodAll_cons_mk (Below.trod pf (by kernel_rfl) (of_decide_eq_true (by kernel_rfl)) k0 bel lt0) (trodAll_cons_mk (Below.trod pf (by kernel_rfl) (of_decide_eq_true (by kernel_rfl)) k1 bel lt1) (trodAll_cons_mk (Below.trod pf (by kernel_rfl) (of_decide_eq_true (by kernel_rfl)) k2 bel lt2) trodAll_mk0))), rfl, bel.frame _, fun h => by cases h⟩
theorem abu : (Rows.topTablesRow.wf (OpenSpec.ofChange Rows.topTablesSpec)) = true := by kernel_rfl
theorem abv : (laidOutB Tryz.prog) = true := by kernel_rfl
theorem abw : (mapsRowed Tryz.prog) = true := by kernel_rfl
theorem abx : (Tryz.f4.params.all (Tryz.prog.readableRec ·)) = true := by kernel_rfl
theorem aby : (namedTie Tryz.prog Rows.topTablesRow.named Rows.topTablesSpec.vars) = true := by kernel_rfl
theorem abz : ((Rows.topTablesRow.stops == [])) = true := by kernel_rfl
theorem abA : ((Tryz.prog.stops == [])) = true := by kernel_rfl
theorem abB : ((Rows.topTablesRow.knobs == [])) = true := by kernel_rfl
theorem abC : ((Tryz.prog.stopKnobs == [])) = true := by kernel_rfl
theorem abD : ((Rows.topTablesRow.inPlace == Tryz.prog.inPlace 4)) = true := by kernel_rfl
theorem aaE : ((Rows.topTablesRow.unfollowed == Tryz.prog.unfollowed 4)) = true := by kernel_rfl
theorem aaF : ((Rows.topTablesRow.recurses == Tryz.prog.recurses 4)) = true := by kernel_rfl
theorem aaG : ((Rows.topTablesRow.named == Tryz.prog.varsNamed 4)) = true := by kernel_rfl
theorem aaH : ((Rows.topTablesRow.maps == (Tryz.f4.params.toList ++ Rows.topTablesSpec.plain.varTypes Tryz.prog).any (Tryz.prog.mapsRec ·))) = true := by kernel_rfl
theorem aaI : ((Rows.topTablesRow.ifaces == (Tryz.f4.params.toList ++ Rows.topTablesSpec.plain.varTypes Tryz.prog).any (Tryz.prog.ifacesRec ·))) = true := by kernel_rfl
theorem aaJ : ((Rows.topTablesRow.mapsOut == Tryz.prog.mapsAmong Tryz.f4.resultTypes.toList)) = true := by kernel_rfl
theorem aaK : ((Rows.topTablesRow.loops == (Tryz.f4.params.toList ++ Rows.topTablesSpec.plain.varTypes Tryz.prog).any (Tryz.prog.loopsFrom ·))) = true := by kernel_rfl
theorem aaL : ((Rows.topTablesRow.wideKeys == (Tryz.f4.params.toList ++ Rows.topTablesSpec.plain.varTypes Tryz.prog ++ Tryz.f4.resultTypes.toList).any (Tryz.prog.wideKeysFrom ·))) = true := by kernel_rfl
theorem aaM : (Rows.topTablesSpec.vars.all (Tryz.prog.varReadable ·)) = true := by kernel_rfl
theorem aaN : (Tryz.f4.resultTypes.all (fun t => Tryz.prog.readableRec t && decide (t < Tryz.prog.types.size))) = true := by kernel_rfl
theorem aaO : ((Rows.topTablesRow.ifacesOut == Tryz.f4.resultTypes.toList.any (Tryz.prog.ifacesRec ·))) = true := by kernel_rfl
theorem aaP : ((Rows.topTablesRow.loopsOut == Tryz.f4.resultTypes.toList.any (Tryz.prog.loopsFrom ·))) = true := by kernel_rfl
theorem aaQ : ((Rows.topTablesRow.plainKeys == Tryz.prog.plainKeys)) = true := by kernel_rfl
theorem aaR : (Rows.topTablesRow.shortTexts.isNone) = true := by kernel_rfl
theorem aaS : (Tryz.prog.stopsHeard) = true := by kernel_rfl
theorem aaT : (Tryz.prog.mayEnter) = true := by kernel_rfl
theorem aaU : ((Rows.topTablesRow.lifted == Tryz.prog.liftsFinal)) = true := by kernel_rfl
theorem aaV : ((Tryz.prog.make == some Rows.topTablesRow.make)) = true := by kernel_rfl
theorem aaW : ((Rows.topTablesRow.kinds == (if Rows.topTablesRow.domain.isEmpty then [] else Tryz.f4.params.toList.map fun t => match Tryz.prog.underlying t with | some (.int k) => some k | _ => none))) = true := by kernel_rfl
theorem aaX : ((Rows.topTablesRow.pinned == Rows.topTablesRow.pinnedBy)) = true := by kernel_rfl
theorem aaY : ((Rows.topTablesRow.veiled == (Tryz.f4.params.toList ++ Rows.topTablesSpec.plain.varTypes Tryz.prog ++ Tryz.f4.resultTypes.toList).any (Tryz.prog.veiledRec ·))) = true := by kernel_rfl
theorem aaZ : (Rows.topTablesRow.veiledFits Tryz.prog Tryz.f4.params.toList (Tryz.f4.params.toList ++ Rows.topTablesSpec.plain.varTypes Tryz.prog ++ Tryz.f4.resultTypes.toList)) = true := by kernel_rfl
theorem zL : joinedFacts Tryz.prog 4 Tryz.f4 Rows.topTablesSpec Rows.topTablesRow = true := (bJ (bJ (bJ (bJ (bJ (bJ (bJ (bJ (bJ (bJ (bJ (bJ (bJ (bJ (bJ (bJ (bJ (bJ (bJ (bJ (bJ (bJ (bJ (bJ (bJ (bJ (bJ (bJ (bJ (bJ (bJ abu abv) abw) abx) aby) abz) abA) abB) abC) abD) aaE) aaF) aaG) aaH) aaI) aaJ) aaK) aaL) aaM) aaN) aaO) aaP) aaQ) aaR) aaS) aaT) aaU) aaV) aaW) aaX) aaY) aaZ)
theorem aag : Rows.topTablesRow.holds Tryz.pinned (OpenSpec.ofChange Rows.topTablesSpec) :=
 OpenClaim.holds_of_wide 4 Tryz.f4 rfl rfl rfl rfl rfl rfl rfl ⟨rfl, rfl, rfl, rfl, rfl⟩ rfl rfl rfl rfl rfl (by kernel_rfl) Tryz.func4 zL
  (of_decide_eq_true (by kernel_rfl)) (by unfold Func.isWrapper; first | (rw [if_pos (by decide +kernel)]; kernel_rfl) | (rw [if_neg (by decide +kernel)]; exact ⟨rfl, rfl⟩))
  (fun os started H enc _ => zM os started H enc)
theorem TopTables_holds : Rows.TopTablesSaid := aag
#print axioms TopTables_holds
end
end Go.Proofs.YtodgfjgljcinlaaGreat
