/-
  No cell of these rows narrows 'for every input' (looked for: loops, veiled, ifaces, maps, wideKeys, modest, calm, conditions, laid).
  DERIVED. THE GIVEN ROWS OF THIS SEAT. 4 by the template 'for every input the law returns true; each argument reads behind the call as it read before'; 0 by the template 'total and deterministic' (their statements: YtnljbnbljgmelaaTotals.lean).
  GIVEN WITH THE SEED: the statements are not yours to turn. If you find one false, say at which input.
  Laid BY PROGRAM, IN A SANDBOX (cutbox-rows.mjs): the forced cells as the released guide's own fill.sh prints them over the translation b5af3f454d5d54bb… (all of the seat's roots in one cut). By AI agents, Wed Nov 11 2026. No macro, syntax, notation, axiom, sorry.
-/
import Derived.Test.YtnljbnbljgmelaaChecked
import GoSem.Claim
import GoSem.ClaimJoined
import GoSem.ClaimMapViews
import Derived.JoinedTies
import Derived.KernelRfl
namespace Go.Proofs.Ytnljbnbljgmelaa
/- THE CELL 'sum', in the pinned program and in every row, IS THE sha256 OF THE DUMP (.gsa) THAT YtnljbnbljgmelaaProg.lean LOADS. Nothing in Lean hashes anything: it is a label: what it is worth is what the hold of that sum in a sandbox is worth. -/
noncomputable def Try.pinned : Pinned := { name := "ytnljbnbljgmelaa", sum := "b5af3f454d5d54bb32358f7c99c45a76ee57fbe9ae1395db890df9dfda7792de", checked := Try.checked }
namespace Rows
def none {H : Type} : Left H := { results := [], args := [] }

/-- 'crossbucklaw12.DelayAll': WHATEVER THE INPUT: true; the input reads as it did. -/
def delayAllSpec : ChangeSpec := { name := "delayAll", fn := fun _ => fun
  | [d1, d2, d3, d4] => { results := [.lit (.bool true)], args := [d1, d2, d3, d4] }
  | _ => none }
def delayAllRow : OpenClaim := { program := "ytnljbnbljgmelaa", sum := "b5af3f454d5d54bb32358f7c99c45a76ee57fbe9ae1395db890df9dfda7792de", func := "crossbuck/crossbucklaw12.DelayAll", spec := "delayAll", apart := false }
def DelayAllSaid : Prop := delayAllRow.holds Try.pinned (OpenSpec.ofChange delayAllSpec)

/-- ITS FALSE NEIGHBOUR: 'it returns false'. Refute it at one input. -/
def delayAllWrong : ChangeSpec := { name := "delayAll", fn := fun _ => fun
  | [d1, d2, d3, d4] => { results := [.lit (.bool false)], args := [d1, d2, d3, d4] }
  | _ => none }
def DelayAllWrongFalsely : Prop := delayAllRow.holds Try.pinned (OpenSpec.ofChange delayAllWrong)

/-- 'crossbucklaw12.DelayPlays': WHATEVER THE INPUT: true; the input reads as it did. -/
def delayPlaysSpec : ChangeSpec := { name := "delayPlays", fn := fun _ => fun
  | [d1, d2, d3] => { results := [.lit (.bool true)], args := [d1, d2, d3] }
  | _ => none }
def delayPlaysRow : OpenClaim := { program := "ytnljbnbljgmelaa", sum := "b5af3f454d5d54bb32358f7c99c45a76ee57fbe9ae1395db890df9dfda7792de", func := "crossbuck/crossbucklaw12.DelayPlays", spec := "delayPlays", apart := false }
def DelayPlaysSaid : Prop := delayPlaysRow.holds Try.pinned (OpenSpec.ofChange delayPlaysSpec)

/-- ITS FALSE NEIGHBOUR: 'it returns false'. Refute it at one input. -/
def delayPlaysWrong : ChangeSpec := { name := "delayPlays", fn := fun _ => fun
  | [d1, d2, d3] => { results := [.lit (.bool false)], args := [d1, d2, d3] }
  | _ => none }
def DelayPlaysWrongFalsely : Prop := delayPlaysRow.holds Try.pinned (OpenSpec.ofChange delayPlaysWrong)

/-- 'crossbucklaw12.DelayTells': WHATEVER THE INPUT: true; the input reads as it did. -/
def delayTellsSpec : ChangeSpec := { name := "delayTells", fn := fun _ => fun
  | [d1, d2, d3] => { results := [.lit (.bool true)], args := [d1, d2, d3] }
  | _ => none }
def delayTellsRow : OpenClaim := { program := "ytnljbnbljgmelaa", sum := "b5af3f454d5d54bb32358f7c99c45a76ee57fbe9ae1395db890df9dfda7792de", func := "crossbuck/crossbucklaw12.DelayTells", spec := "delayTells", apart := false }
def DelayTellsSaid : Prop := delayTellsRow.holds Try.pinned (OpenSpec.ofChange delayTellsSpec)

/-- ITS FALSE NEIGHBOUR: 'it returns false'. Refute it at one input. -/
def delayTellsWrong : ChangeSpec := { name := "delayTells", fn := fun _ => fun
  | [d1, d2, d3] => { results := [.lit (.bool false)], args := [d1, d2, d3] }
  | _ => none }
def DelayTellsWrongFalsely : Prop := delayTellsRow.holds Try.pinned (OpenSpec.ofChange delayTellsWrong)

/-- 'crossbucklaw12.DelayLong': WHATEVER THE INPUT: true; the input reads as it did. -/
def delayLongSpec : ChangeSpec := { name := "delayLong", fn := fun _ => fun
  | [d1, d2, d3] => { results := [.lit (.bool true)], args := [d1, d2, d3] }
  | _ => none }
def delayLongRow : OpenClaim := { program := "ytnljbnbljgmelaa", sum := "b5af3f454d5d54bb32358f7c99c45a76ee57fbe9ae1395db890df9dfda7792de", func := "crossbuck/crossbucklaw12.DelayLong", spec := "delayLong", apart := false }
def DelayLongSaid : Prop := delayLongRow.holds Try.pinned (OpenSpec.ofChange delayLongSpec)

/-- ITS FALSE NEIGHBOUR: 'it returns false'. Refute it at one input. -/
def delayLongWrong : ChangeSpec := { name := "delayLong", fn := fun _ => fun
  | [d1, d2, d3] => { results := [.lit (.bool false)], args := [d1, d2, d3] }
  | _ => none }
def DelayLongWrongFalsely : Prop := delayLongRow.holds Try.pinned (OpenSpec.ofChange delayLongWrong)

/- THE SECOND FORM. 'bulk': how many values and letters a reading holds, each counted each time it is reached (what is shared counts as often as it is met; a slice's spare places count too). A statement '..UptoSaid' is the law's where the arguments, and the package variables that the reading takes, are together of bulk at most 1048576: NARROWER than '..Said'. Prove '..Said' where nothing that the law and all that it calls make is longer than what came in: it says more and counts as full. Else prove '..UptoSaid'. A law counts once. -/
mutual
def uptoBulk {H : Type} : DataW H → Nat
  | .lit (.string bytes) => bytes.length + 1
  | .lit _ => 1
  | .nil => 1
  | .ptr d => uptoBulk d + 1
  | .slice elems spare => uptoBulkAll elems + uptoBulkAll spare + 1
  | .agg parts => uptoBulkAll parts + 1
  | .iface _ d => uptoBulk d + 1
  | .map entries => uptoBulkEntries entries + 1
  | .held _ => 1
def uptoBulkAll {H : Type} : List (DataW H) → Nat
  | [] => 0
  | d :: r => uptoBulk d + uptoBulkAll r
def uptoBulkEntries {H : Type} : List (Lit × DataW H) → Nat
  | [] => 0
  | x :: r => uptoBulkEntry x + uptoBulkEntries r
def uptoBulkEntry {H : Type} : Lit × DataW H → Nat
  | (.string bytes, d) => bytes.length + uptoBulk d + 1
  | (_, d) => uptoBulk d + 1
 end
def uptoSmall : (H : Type) → List (DataW H) → Bool := fun _ ds => decide (uptoBulkAll ds ≤ 1048576)
def OpenSpec.upto (s : _root_.Go.ChangeSpec) : _root_.Go.OpenSpec := { _root_.Go.OpenSpec.ofChange s with cond := some uptoSmall }

/-- 'crossbucklaw12.DelayAll', WHERE WHAT IT READS IS OF BULK AT MOST 1048576: true; the input reads as it did. -/
def delayAllUptoRow : OpenClaim := { program := "ytnljbnbljgmelaa", sum := "b5af3f454d5d54bb32358f7c99c45a76ee57fbe9ae1395db890df9dfda7792de", func := "crossbuck/crossbucklaw12.DelayAll", spec := "delayAll", apart := false, narrowed := true }
def DelayAllUptoSaid : Prop := delayAllUptoRow.holds Try.pinned (OpenSpec.upto delayAllSpec)

/-- 'crossbucklaw12.DelayPlays', WHERE WHAT IT READS IS OF BULK AT MOST 1048576: true; the input reads as it did. -/
def delayPlaysUptoRow : OpenClaim := { program := "ytnljbnbljgmelaa", sum := "b5af3f454d5d54bb32358f7c99c45a76ee57fbe9ae1395db890df9dfda7792de", func := "crossbuck/crossbucklaw12.DelayPlays", spec := "delayPlays", apart := false, narrowed := true }
def DelayPlaysUptoSaid : Prop := delayPlaysUptoRow.holds Try.pinned (OpenSpec.upto delayPlaysSpec)

/-- 'crossbucklaw12.DelayTells', WHERE WHAT IT READS IS OF BULK AT MOST 1048576: true; the input reads as it did. -/
def delayTellsUptoRow : OpenClaim := { program := "ytnljbnbljgmelaa", sum := "b5af3f454d5d54bb32358f7c99c45a76ee57fbe9ae1395db890df9dfda7792de", func := "crossbuck/crossbucklaw12.DelayTells", spec := "delayTells", apart := false, narrowed := true }
def DelayTellsUptoSaid : Prop := delayTellsUptoRow.holds Try.pinned (OpenSpec.upto delayTellsSpec)

/-- 'crossbucklaw12.DelayLong', WHERE WHAT IT READS IS OF BULK AT MOST 1048576: true; the input reads as it did. -/
def delayLongUptoRow : OpenClaim := { program := "ytnljbnbljgmelaa", sum := "b5af3f454d5d54bb32358f7c99c45a76ee57fbe9ae1395db890df9dfda7792de", func := "crossbuck/crossbucklaw12.DelayLong", spec := "delayLong", apart := false, narrowed := true }
def DelayLongUptoSaid : Prop := delayLongUptoRow.holds Try.pinned (OpenSpec.upto delayLongSpec)

end Rows
end Go.Proofs.Ytnljbnbljgmelaa
