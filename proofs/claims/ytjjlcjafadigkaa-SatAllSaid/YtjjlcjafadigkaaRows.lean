/-
  No cell of these rows narrows 'for every input' (looked for: loops, veiled, ifaces, maps, wideKeys, modest, calm, conditions, laid).
  DERIVED. THE GIVEN ROWS OF THIS SEAT. 5 by the template 'for every input the law returns true; each argument reads behind the call as it read before'; 0 by the template 'total and deterministic' (their statements: YtjjlcjafadigkaaTotals.lean).
  GIVEN WITH THE SEED: the statements are not yours to turn. If you find one false, say at which input.
  Laid BY PROGRAM, IN A SANDBOX (cutbox-rows.mjs): the forced cells as the released guide's own fill.sh prints them over the translation fea93fe0723c67ed… (all of the seat's roots in one cut). By AI agents, Wed Nov 11 2026. No macro, syntax, notation, axiom, sorry.
-/
import Derived.Test.YtjjlcjafadigkaaChecked
import GoSem.Claim
import GoSem.ClaimJoined
import GoSem.ClaimMapViews
import Derived.JoinedTies
import Derived.KernelRfl
namespace Go.Proofs.Ytjjlcjafadigkaa
/- THE CELL 'sum', in the pinned program and in every row, IS THE sha256 OF THE DUMP (.gsa) THAT YtjjlcjafadigkaaProg.lean LOADS. Nothing in Lean hashes anything: it is a label: what it is worth is what the hold of that sum in a sandbox is worth. -/
noncomputable def Try.pinned : Pinned := { name := "ytjjlcjafadigkaa", sum := "fea93fe0723c67edd6d3bdba2be9876addd3fe7d6ad272ff7a0371e3d14806ee", checked := Try.checked }
namespace Rows
def none {H : Type} : Left H := { results := [], args := [] }

/-- 'crossbucklaw01.SatSum': WHATEVER THE INPUT: true; the input reads as it did. -/
def satSumSpec : ChangeSpec := { name := "satSum", fn := fun _ => fun
  | [d1, d2] => { results := [.lit (.bool true)], args := [d1, d2] }
  | _ => none }
def satSumRow : OpenClaim := { program := "ytjjlcjafadigkaa", sum := "fea93fe0723c67edd6d3bdba2be9876addd3fe7d6ad272ff7a0371e3d14806ee", func := "crossbuck/crossbucklaw01.SatSum", spec := "satSum", apart := false }
def SatSumSaid : Prop := satSumRow.holds Try.pinned (OpenSpec.ofChange satSumSpec)

/-- ITS FALSE NEIGHBOUR: 'it returns false'. Refute it at one input. -/
def satSumWrong : ChangeSpec := { name := "satSum", fn := fun _ => fun
  | [d1, d2] => { results := [.lit (.bool false)], args := [d1, d2] }
  | _ => none }
def SatSumWrongFalsely : Prop := satSumRow.holds Try.pinned (OpenSpec.ofChange satSumWrong)

/-- 'crossbucklaw01.SatOrder': WHATEVER THE INPUT: true; the input reads as it did. -/
def satOrderSpec : ChangeSpec := { name := "satOrder", fn := fun _ => fun
  | [d1, d2, d3] => { results := [.lit (.bool true)], args := [d1, d2, d3] }
  | _ => none }
def satOrderRow : OpenClaim := { program := "ytjjlcjafadigkaa", sum := "fea93fe0723c67edd6d3bdba2be9876addd3fe7d6ad272ff7a0371e3d14806ee", func := "crossbuck/crossbucklaw01.SatOrder", spec := "satOrder", apart := false }
def SatOrderSaid : Prop := satOrderRow.holds Try.pinned (OpenSpec.ofChange satOrderSpec)

/-- ITS FALSE NEIGHBOUR: 'it returns false'. Refute it at one input. -/
def satOrderWrong : ChangeSpec := { name := "satOrder", fn := fun _ => fun
  | [d1, d2, d3] => { results := [.lit (.bool false)], args := [d1, d2, d3] }
  | _ => none }
def SatOrderWrongFalsely : Prop := satOrderRow.holds Try.pinned (OpenSpec.ofChange satOrderWrong)

/-- 'crossbucklaw01.SatAll': WHATEVER THE INPUT: true; the input reads as it did. -/
def satAllSpec : ChangeSpec := { name := "satAll", fn := fun _ => fun
  | [d1, d2] => { results := [.lit (.bool true)], args := [d1, d2] }
  | _ => none }
def satAllRow : OpenClaim := { program := "ytjjlcjafadigkaa", sum := "fea93fe0723c67edd6d3bdba2be9876addd3fe7d6ad272ff7a0371e3d14806ee", func := "crossbuck/crossbucklaw01.SatAll", spec := "satAll", apart := false }
def SatAllSaid : Prop := satAllRow.holds Try.pinned (OpenSpec.ofChange satAllSpec)

/-- ITS FALSE NEIGHBOUR: 'it returns false'. Refute it at one input. -/
def satAllWrong : ChangeSpec := { name := "satAll", fn := fun _ => fun
  | [d1, d2] => { results := [.lit (.bool false)], args := [d1, d2] }
  | _ => none }
def SatAllWrongFalsely : Prop := satAllRow.holds Try.pinned (OpenSpec.ofChange satAllWrong)

/-- 'crossbucklaw01.SatTurn': WHATEVER THE INPUT: true; the input reads as it did. -/
def satTurnSpec : ChangeSpec := { name := "satTurn", fn := fun _ => fun
  | [d1, d2, d3] => { results := [.lit (.bool true)], args := [d1, d2, d3] }
  | _ => none }
def satTurnRow : OpenClaim := { program := "ytjjlcjafadigkaa", sum := "fea93fe0723c67edd6d3bdba2be9876addd3fe7d6ad272ff7a0371e3d14806ee", func := "crossbuck/crossbucklaw01.SatTurn", spec := "satTurn", apart := false }
def SatTurnSaid : Prop := satTurnRow.holds Try.pinned (OpenSpec.ofChange satTurnSpec)

/-- ITS FALSE NEIGHBOUR: 'it returns false'. Refute it at one input. -/
def satTurnWrong : ChangeSpec := { name := "satTurn", fn := fun _ => fun
  | [d1, d2, d3] => { results := [.lit (.bool false)], args := [d1, d2, d3] }
  | _ => none }
def SatTurnWrongFalsely : Prop := satTurnRow.holds Try.pinned (OpenSpec.ofChange satTurnWrong)

/-- 'crossbucklaw01.SatFull': WHATEVER THE INPUT: true; the input reads as it did. -/
def satFullSpec : ChangeSpec := { name := "satFull", fn := fun _ => fun
  | [d] => { results := [.lit (.bool true)], args := [d] }
  | _ => none }
def satFullRow : OpenClaim := { program := "ytjjlcjafadigkaa", sum := "fea93fe0723c67edd6d3bdba2be9876addd3fe7d6ad272ff7a0371e3d14806ee", func := "crossbuck/crossbucklaw01.SatFull", spec := "satFull", apart := false }
def SatFullSaid : Prop := satFullRow.holds Try.pinned (OpenSpec.ofChange satFullSpec)

/-- ITS FALSE NEIGHBOUR: 'it returns false'. Refute it at one input. -/
def satFullWrong : ChangeSpec := { name := "satFull", fn := fun _ => fun
  | [d] => { results := [.lit (.bool false)], args := [d] }
  | _ => none }
def SatFullWrongFalsely : Prop := satFullRow.holds Try.pinned (OpenSpec.ofChange satFullWrong)

/- THE SECOND FORM. 'bulk': how many values and letters a reading holds, each counted each time it is reached (what is shared counts as often as it is met; a slice's spare places count too). A statement '..UptoSaid' is the law's where the arguments, and the package variables that the reading takes, are together of bulk at most 1048576: NARROWER than '..Said'. Prove '..Said' where nothing that the law and all that it calls make is longer than what came in: it says more and counts as full. Else prove '..UptoSaid'. A law counts once. -/
mutual
def uptoBulk {H : Type} : DataW H → Nat
  | .lit (.string bytes) => bytes.length + 1
  | .lit _ => 1
  | .nil => 1
  | .ptr d => uptoBulk d + 1
  | .slice elems spare => uptoBulkAll elems + uptoBulkAll spare + 1
  | .agg parts => uptoBulkAll parts + 1
  | .iface _ d => uptoBulk d + 1
  | .map entries => uptoBulkEntries entries + 1
  | .held _ => 1
def uptoBulkAll {H : Type} : List (DataW H) → Nat
  | [] => 0
  | d :: r => uptoBulk d + uptoBulkAll r
def uptoBulkEntries {H : Type} : List (Lit × DataW H) → Nat
  | [] => 0
  | x :: r => uptoBulkEntry x + uptoBulkEntries r
def uptoBulkEntry {H : Type} : Lit × DataW H → Nat
  | (.string bytes, d) => bytes.length + uptoBulk d + 1
  | (_, d) => uptoBulk d + 1
 end
def uptoSmall : (H : Type) → List (DataW H) → Bool := fun _ ds => decide (uptoBulkAll ds ≤ 1048576)
def OpenSpec.upto (s : _root_.Go.ChangeSpec) : _root_.Go.OpenSpec := { _root_.Go.OpenSpec.ofChange s with cond := some uptoSmall }

/-- 'crossbucklaw01.SatSum', WHERE WHAT IT READS IS OF BULK AT MOST 1048576: true; the input reads as it did. -/
def satSumUptoRow : OpenClaim := { program := "ytjjlcjafadigkaa", sum := "fea93fe0723c67edd6d3bdba2be9876addd3fe7d6ad272ff7a0371e3d14806ee", func := "crossbuck/crossbucklaw01.SatSum", spec := "satSum", apart := false, narrowed := true }
def SatSumUptoSaid : Prop := satSumUptoRow.holds Try.pinned (OpenSpec.upto satSumSpec)

/-- 'crossbucklaw01.SatOrder', WHERE WHAT IT READS IS OF BULK AT MOST 1048576: true; the input reads as it did. -/
def satOrderUptoRow : OpenClaim := { program := "ytjjlcjafadigkaa", sum := "fea93fe0723c67edd6d3bdba2be9876addd3fe7d6ad272ff7a0371e3d14806ee", func := "crossbuck/crossbucklaw01.SatOrder", spec := "satOrder", apart := false, narrowed := true }
def SatOrderUptoSaid : Prop := satOrderUptoRow.holds Try.pinned (OpenSpec.upto satOrderSpec)

/-- 'crossbucklaw01.SatAll', WHERE WHAT IT READS IS OF BULK AT MOST 1048576: true; the input reads as it did. -/
def satAllUptoRow : OpenClaim := { program := "ytjjlcjafadigkaa", sum := "fea93fe0723c67edd6d3bdba2be9876addd3fe7d6ad272ff7a0371e3d14806ee", func := "crossbuck/crossbucklaw01.SatAll", spec := "satAll", apart := false, narrowed := true }
def SatAllUptoSaid : Prop := satAllUptoRow.holds Try.pinned (OpenSpec.upto satAllSpec)

/-- 'crossbucklaw01.SatTurn', WHERE WHAT IT READS IS OF BULK AT MOST 1048576: true; the input reads as it did. -/
def satTurnUptoRow : OpenClaim := { program := "ytjjlcjafadigkaa", sum := "fea93fe0723c67edd6d3bdba2be9876addd3fe7d6ad272ff7a0371e3d14806ee", func := "crossbuck/crossbucklaw01.SatTurn", spec := "satTurn", apart := false, narrowed := true }
def SatTurnUptoSaid : Prop := satTurnUptoRow.holds Try.pinned (OpenSpec.upto satTurnSpec)

/-- 'crossbucklaw01.SatFull', WHERE WHAT IT READS IS OF BULK AT MOST 1048576: true; the input reads as it did. -/
def satFullUptoRow : OpenClaim := { program := "ytjjlcjafadigkaa", sum := "fea93fe0723c67edd6d3bdba2be9876addd3fe7d6ad272ff7a0371e3d14806ee", func := "crossbuck/crossbucklaw01.SatFull", spec := "satFull", apart := false, narrowed := true }
def SatFullUptoSaid : Prop := satFullUptoRow.holds Try.pinned (OpenSpec.upto satFullSpec)

end Rows
end Go.Proofs.Ytjjlcjafadigkaa
