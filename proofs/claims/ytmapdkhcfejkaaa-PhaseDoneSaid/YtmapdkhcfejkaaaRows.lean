/-
  No cell of these rows narrows 'for every input' (looked for: loops, veiled, ifaces, maps, wideKeys, modest, calm, conditions, laid).
  DERIVED. THE GIVEN ROWS OF THIS SEAT. 6 by the template 'for every input the law returns true; each argument reads behind the call as it read before'; 0 by the template 'total and deterministic' (their statements: YtmapdkhcfejkaaaTotals.lean).
  GIVEN WITH THE SEED: the statements are not yours to turn. If you find one false, say at which input.
  Laid BY PROGRAM, IN A SANDBOX (cutbox-rows.mjs): the forced cells as the released guide's own fill.sh prints them over the translation f58d9605421e7561… (all of the seat's roots in one cut). By AI agents, Wed Nov 11 2026. No macro, syntax, notation, axiom, sorry.
-/
import Derived.Test.YtmapdkhcfejkaaaChecked
import GoSem.Claim
import GoSem.ClaimJoined
import GoSem.ClaimMapViews
import Derived.JoinedTies
import Derived.KernelRfl
namespace Go.Proofs.Ytmapdkhcfejkaaa
/- THE CELL 'sum', in the pinned program and in every row, IS THE sha256 OF THE DUMP (.gsa) THAT YtmapdkhcfejkaaaProg.lean LOADS. Nothing in Lean hashes anything: it is a label: what it is worth is what the hold of that sum in a sandbox is worth. -/
noncomputable def Try.pinned : Pinned := { name := "ytmapdkhcfejkaaa", sum := "f58d9605421e7561a95a671837191bf2d6a944dd27a40b6c413bedf7fed5d80a", checked := Try.checked }
namespace Rows
def none {H : Type} : Left H := { results := [], args := [] }

/-- 'crossbucklaw18.PhasePlays': WHATEVER THE INPUT: true; the input reads as it did. -/
def phasePlaysSpec : ChangeSpec := { name := "phasePlays", fn := fun _ => fun
  | [d1, d2, d3] => { results := [.lit (.bool true)], args := [d1, d2, d3] }
  | _ => none }
def phasePlaysRow : OpenClaim := { program := "ytmapdkhcfejkaaa", sum := "f58d9605421e7561a95a671837191bf2d6a944dd27a40b6c413bedf7fed5d80a", func := "crossbuck/crossbucklaw18.PhasePlays", spec := "phasePlays", unfollowed := true, recurses := true, apart := false }
def PhasePlaysSaid : Prop := phasePlaysRow.holds Try.pinned (OpenSpec.ofChange phasePlaysSpec)

/-- ITS FALSE NEIGHBOUR: 'it returns false'. Refute it at one input. -/
def phasePlaysWrong : ChangeSpec := { name := "phasePlays", fn := fun _ => fun
  | [d1, d2, d3] => { results := [.lit (.bool false)], args := [d1, d2, d3] }
  | _ => none }
def PhasePlaysWrongFalsely : Prop := phasePlaysRow.holds Try.pinned (OpenSpec.ofChange phasePlaysWrong)

/-- 'crossbucklaw18.PhaseExact': WHATEVER THE INPUT: true; the input reads as it did. -/
def phaseExactSpec : ChangeSpec := { name := "phaseExact", fn := fun _ => fun
  | [d1, d2, d3] => { results := [.lit (.bool true)], args := [d1, d2, d3] }
  | _ => none }
def phaseExactRow : OpenClaim := { program := "ytmapdkhcfejkaaa", sum := "f58d9605421e7561a95a671837191bf2d6a944dd27a40b6c413bedf7fed5d80a", func := "crossbuck/crossbucklaw18.PhaseExact", spec := "phaseExact", unfollowed := true, recurses := true, apart := false }
def PhaseExactSaid : Prop := phaseExactRow.holds Try.pinned (OpenSpec.ofChange phaseExactSpec)

/-- ITS FALSE NEIGHBOUR: 'it returns false'. Refute it at one input. -/
def phaseExactWrong : ChangeSpec := { name := "phaseExact", fn := fun _ => fun
  | [d1, d2, d3] => { results := [.lit (.bool false)], args := [d1, d2, d3] }
  | _ => none }
def PhaseExactWrongFalsely : Prop := phaseExactRow.holds Try.pinned (OpenSpec.ofChange phaseExactWrong)

/-- 'crossbucklaw18.PhaseDone': WHATEVER THE INPUT: true; the input reads as it did. -/
def phaseDoneSpec : ChangeSpec := { name := "phaseDone", fn := fun _ => fun
  | [d1, d2, d3] => { results := [.lit (.bool true)], args := [d1, d2, d3] }
  | _ => none }
def phaseDoneRow : OpenClaim := { program := "ytmapdkhcfejkaaa", sum := "f58d9605421e7561a95a671837191bf2d6a944dd27a40b6c413bedf7fed5d80a", func := "crossbuck/crossbucklaw18.PhaseDone", spec := "phaseDone", unfollowed := true, recurses := true, apart := false }
def PhaseDoneSaid : Prop := phaseDoneRow.holds Try.pinned (OpenSpec.ofChange phaseDoneSpec)

/-- ITS FALSE NEIGHBOUR: 'it returns false'. Refute it at one input. -/
def phaseDoneWrong : ChangeSpec := { name := "phaseDone", fn := fun _ => fun
  | [d1, d2, d3] => { results := [.lit (.bool false)], args := [d1, d2, d3] }
  | _ => none }
def PhaseDoneWrongFalsely : Prop := phaseDoneRow.holds Try.pinned (OpenSpec.ofChange phaseDoneWrong)

/-- 'crossbucklaw18.PhaseLong': WHATEVER THE INPUT: true; the input reads as it did. -/
def phaseLongSpec : ChangeSpec := { name := "phaseLong", fn := fun _ => fun
  | [d1, d2, d3, d4, d5] => { results := [.lit (.bool true)], args := [d1, d2, d3, d4, d5] }
  | _ => none }
def phaseLongRow : OpenClaim := { program := "ytmapdkhcfejkaaa", sum := "f58d9605421e7561a95a671837191bf2d6a944dd27a40b6c413bedf7fed5d80a", func := "crossbuck/crossbucklaw18.PhaseLong", spec := "phaseLong", unfollowed := true, recurses := true, apart := false }
def PhaseLongSaid : Prop := phaseLongRow.holds Try.pinned (OpenSpec.ofChange phaseLongSpec)

/-- ITS FALSE NEIGHBOUR: 'it returns false'. Refute it at one input. -/
def phaseLongWrong : ChangeSpec := { name := "phaseLong", fn := fun _ => fun
  | [d1, d2, d3, d4, d5] => { results := [.lit (.bool false)], args := [d1, d2, d3, d4, d5] }
  | _ => none }
def PhaseLongWrongFalsely : Prop := phaseLongRow.holds Try.pinned (OpenSpec.ofChange phaseLongWrong)

/-- 'crossbucklaw18.PhaseGrows': WHATEVER THE INPUT: true; the input reads as it did. -/
def phaseGrowsSpec : ChangeSpec := { name := "phaseGrows", fn := fun _ => fun
  | [d1, d2, d3] => { results := [.lit (.bool true)], args := [d1, d2, d3] }
  | _ => none }
def phaseGrowsRow : OpenClaim := { program := "ytmapdkhcfejkaaa", sum := "f58d9605421e7561a95a671837191bf2d6a944dd27a40b6c413bedf7fed5d80a", func := "crossbuck/crossbucklaw18.PhaseGrows", spec := "phaseGrows", unfollowed := true, recurses := true, apart := false }
def PhaseGrowsSaid : Prop := phaseGrowsRow.holds Try.pinned (OpenSpec.ofChange phaseGrowsSpec)

/-- ITS FALSE NEIGHBOUR: 'it returns false'. Refute it at one input. -/
def phaseGrowsWrong : ChangeSpec := { name := "phaseGrows", fn := fun _ => fun
  | [d1, d2, d3] => { results := [.lit (.bool false)], args := [d1, d2, d3] }
  | _ => none }
def PhaseGrowsWrongFalsely : Prop := phaseGrowsRow.holds Try.pinned (OpenSpec.ofChange phaseGrowsWrong)

/-- 'crossbucklaw18.PhaseAll': WHATEVER THE INPUT: true; the input reads as it did. -/
def phaseAllSpec : ChangeSpec := { name := "phaseAll", fn := fun _ => fun
  | [d1, d2, d3] => { results := [.lit (.bool true)], args := [d1, d2, d3] }
  | _ => none }
def phaseAllRow : OpenClaim := { program := "ytmapdkhcfejkaaa", sum := "f58d9605421e7561a95a671837191bf2d6a944dd27a40b6c413bedf7fed5d80a", func := "crossbuck/crossbucklaw18.PhaseAll", spec := "phaseAll", inPlace := ["math.Float64bits"], unfollowed := true, recurses := true, apart := false }
def PhaseAllSaid : Prop := phaseAllRow.holds Try.pinned (OpenSpec.ofChange phaseAllSpec)

/-- ITS FALSE NEIGHBOUR: 'it returns false'. Refute it at one input. -/
def phaseAllWrong : ChangeSpec := { name := "phaseAll", fn := fun _ => fun
  | [d1, d2, d3] => { results := [.lit (.bool false)], args := [d1, d2, d3] }
  | _ => none }
def PhaseAllWrongFalsely : Prop := phaseAllRow.holds Try.pinned (OpenSpec.ofChange phaseAllWrong)

/- THE SECOND FORM. 'bulk': how many values and letters a reading holds, each counted each time it is reached (what is shared counts as often as it is met; a slice's spare places count too). A statement '..UptoSaid' is the law's where the arguments, and the package variables that the reading takes, are together of bulk at most 1048576: NARROWER than '..Said'. Prove '..Said' where nothing that the law and all that it calls make is longer than what came in: it says more and counts as full. Else prove '..UptoSaid'. A law counts once. -/
mutual
def uptoBulk {H : Type} : DataW H → Nat
  | .lit (.string bytes) => bytes.length + 1
  | .lit _ => 1
  | .nil => 1
  | .ptr d => uptoBulk d + 1
  | .slice elems spare => uptoBulkAll elems + uptoBulkAll spare + 1
  | .agg parts => uptoBulkAll parts + 1
  | .iface _ d => uptoBulk d + 1
  | .map entries => uptoBulkEntries entries + 1
  | .held _ => 1
def uptoBulkAll {H : Type} : List (DataW H) → Nat
  | [] => 0
  | d :: r => uptoBulk d + uptoBulkAll r
def uptoBulkEntries {H : Type} : List (Lit × DataW H) → Nat
  | [] => 0
  | x :: r => uptoBulkEntry x + uptoBulkEntries r
def uptoBulkEntry {H : Type} : Lit × DataW H → Nat
  | (.string bytes, d) => bytes.length + uptoBulk d + 1
  | (_, d) => uptoBulk d + 1
 end
def uptoSmall : (H : Type) → List (DataW H) → Bool := fun _ ds => decide (uptoBulkAll ds ≤ 1048576)
def OpenSpec.upto (s : _root_.Go.ChangeSpec) : _root_.Go.OpenSpec := { _root_.Go.OpenSpec.ofChange s with cond := some uptoSmall }

/-- 'crossbucklaw18.PhasePlays', WHERE WHAT IT READS IS OF BULK AT MOST 1048576: true; the input reads as it did. -/
def phasePlaysUptoRow : OpenClaim := { program := "ytmapdkhcfejkaaa", sum := "f58d9605421e7561a95a671837191bf2d6a944dd27a40b6c413bedf7fed5d80a", func := "crossbuck/crossbucklaw18.PhasePlays", spec := "phasePlays", unfollowed := true, recurses := true, apart := false, narrowed := true }
def PhasePlaysUptoSaid : Prop := phasePlaysUptoRow.holds Try.pinned (OpenSpec.upto phasePlaysSpec)

/-- 'crossbucklaw18.PhaseExact', WHERE WHAT IT READS IS OF BULK AT MOST 1048576: true; the input reads as it did. -/
def phaseExactUptoRow : OpenClaim := { program := "ytmapdkhcfejkaaa", sum := "f58d9605421e7561a95a671837191bf2d6a944dd27a40b6c413bedf7fed5d80a", func := "crossbuck/crossbucklaw18.PhaseExact", spec := "phaseExact", unfollowed := true, recurses := true, apart := false, narrowed := true }
def PhaseExactUptoSaid : Prop := phaseExactUptoRow.holds Try.pinned (OpenSpec.upto phaseExactSpec)

/-- 'crossbucklaw18.PhaseDone', WHERE WHAT IT READS IS OF BULK AT MOST 1048576: true; the input reads as it did. -/
def phaseDoneUptoRow : OpenClaim := { program := "ytmapdkhcfejkaaa", sum := "f58d9605421e7561a95a671837191bf2d6a944dd27a40b6c413bedf7fed5d80a", func := "crossbuck/crossbucklaw18.PhaseDone", spec := "phaseDone", unfollowed := true, recurses := true, apart := false, narrowed := true }
def PhaseDoneUptoSaid : Prop := phaseDoneUptoRow.holds Try.pinned (OpenSpec.upto phaseDoneSpec)

/-- 'crossbucklaw18.PhaseLong', WHERE WHAT IT READS IS OF BULK AT MOST 1048576: true; the input reads as it did. -/
def phaseLongUptoRow : OpenClaim := { program := "ytmapdkhcfejkaaa", sum := "f58d9605421e7561a95a671837191bf2d6a944dd27a40b6c413bedf7fed5d80a", func := "crossbuck/crossbucklaw18.PhaseLong", spec := "phaseLong", unfollowed := true, recurses := true, apart := false, narrowed := true }
def PhaseLongUptoSaid : Prop := phaseLongUptoRow.holds Try.pinned (OpenSpec.upto phaseLongSpec)

/-- 'crossbucklaw18.PhaseGrows', WHERE WHAT IT READS IS OF BULK AT MOST 1048576: true; the input reads as it did. -/
def phaseGrowsUptoRow : OpenClaim := { program := "ytmapdkhcfejkaaa", sum := "f58d9605421e7561a95a671837191bf2d6a944dd27a40b6c413bedf7fed5d80a", func := "crossbuck/crossbucklaw18.PhaseGrows", spec := "phaseGrows", unfollowed := true, recurses := true, apart := false, narrowed := true }
def PhaseGrowsUptoSaid : Prop := phaseGrowsUptoRow.holds Try.pinned (OpenSpec.upto phaseGrowsSpec)

/-- 'crossbucklaw18.PhaseAll', WHERE WHAT IT READS IS OF BULK AT MOST 1048576: true; the input reads as it did. -/
def phaseAllUptoRow : OpenClaim := { program := "ytmapdkhcfejkaaa", sum := "f58d9605421e7561a95a671837191bf2d6a944dd27a40b6c413bedf7fed5d80a", func := "crossbuck/crossbucklaw18.PhaseAll", spec := "phaseAll", inPlace := ["math.Float64bits"], unfollowed := true, recurses := true, apart := false, narrowed := true }
def PhaseAllUptoSaid : Prop := phaseAllUptoRow.holds Try.pinned (OpenSpec.upto phaseAllSpec)

end Rows
end Go.Proofs.Ytmapdkhcfejkaaa
