/-
  No cell of these rows narrows 'for every input' (looked for: loops, veiled, ifaces, maps, wideKeys, modest, calm, conditions, laid).
  DERIVED. THE GIVEN ROWS OF THIS SEAT. 5 by the template 'for every input the law returns true; each argument reads behind the call as it read before'; 0 by the template 'total and deterministic' (their statements: YtepdmkkeohjkhaaTotals.lean).
  GIVEN WITH THE SEED: the statements are not yours to turn. If you find one false, say at which input.
  Laid BY PROGRAM, IN A SANDBOX (cutbox-rows.mjs): the forced cells as the released guide's own fill.sh prints them over the translation ed42d0fc5f9f3cfd… (all of the seat's roots in one cut). By AI agents, Wed Nov 11 2026. No macro, syntax, notation, axiom, sorry.
-/
import Derived.Test.YtepdmkkeohjkhaaChecked
import GoSem.Claim
import GoSem.ClaimJoined
import GoSem.ClaimMapViews
import Derived.JoinedTies
import Derived.KernelRfl
namespace Go.Proofs.Ytepdmkkeohjkhaa
/- THE CELL 'sum', in the pinned program and in every row, IS THE sha256 OF THE DUMP (.gsa) THAT YtepdmkkeohjkhaaProg.lean LOADS. Nothing in Lean hashes anything: it is a label: what it is worth is what the hold of that sum in a sandbox is worth. -/
noncomputable def Try.pinned : Pinned := { name := "ytepdmkkeohjkhaa", sum := "ed42d0fc5f9f3cfd476e3c52649ed4c786569cd1f50aa886e3f8805fe7e1f0ef", checked := Try.checked }
namespace Rows
def none {H : Type} : Left H := { results := [], args := [] }

/-- 'crossbucklaw04.CrcAll': WHATEVER THE INPUT: true; the input reads as it did. -/
def crcAllSpec : ChangeSpec := { name := "crcAll", fn := fun _ => fun
  | [d1, d2] => { results := [.lit (.bool true)], args := [d1, d2] }
  | _ => none }
def crcAllRow : OpenClaim := { program := "ytepdmkkeohjkhaa", sum := "ed42d0fc5f9f3cfd476e3c52649ed4c786569cd1f50aa886e3f8805fe7e1f0ef", func := "crossbuck/crossbucklaw04.CrcAll", spec := "crcAll", apart := false }
def CrcAllSaid : Prop := crcAllRow.holds Try.pinned (OpenSpec.ofChange crcAllSpec)

/-- ITS FALSE NEIGHBOUR: 'it returns false'. Refute it at one input. -/
def crcAllWrong : ChangeSpec := { name := "crcAll", fn := fun _ => fun
  | [d1, d2] => { results := [.lit (.bool false)], args := [d1, d2] }
  | _ => none }
def CrcAllWrongFalsely : Prop := crcAllRow.holds Try.pinned (OpenSpec.ofChange crcAllWrong)

/-- 'crossbucklaw04.CrcParts': WHATEVER THE INPUT: true; the input reads as it did. -/
def crcPartsSpec : ChangeSpec := { name := "crcParts", fn := fun _ => fun
  | [d1, d2] => { results := [.lit (.bool true)], args := [d1, d2] }
  | _ => none }
def crcPartsRow : OpenClaim := { program := "ytepdmkkeohjkhaa", sum := "ed42d0fc5f9f3cfd476e3c52649ed4c786569cd1f50aa886e3f8805fe7e1f0ef", func := "crossbuck/crossbucklaw04.CrcParts", spec := "crcParts", apart := false }
def CrcPartsSaid : Prop := crcPartsRow.holds Try.pinned (OpenSpec.ofChange crcPartsSpec)

/-- ITS FALSE NEIGHBOUR: 'it returns false'. Refute it at one input. -/
def crcPartsWrong : ChangeSpec := { name := "crcParts", fn := fun _ => fun
  | [d1, d2] => { results := [.lit (.bool false)], args := [d1, d2] }
  | _ => none }
def CrcPartsWrongFalsely : Prop := crcPartsRow.holds Try.pinned (OpenSpec.ofChange crcPartsWrong)

/-- 'crossbucklaw04.CrcFinds': WHATEVER THE INPUT: true; the input reads as it did. -/
def crcFindsSpec : ChangeSpec := { name := "crcFinds", fn := fun _ => fun
  | [d1, d2, d3, d4] => { results := [.lit (.bool true)], args := [d1, d2, d3, d4] }
  | _ => none }
def crcFindsRow : OpenClaim := { program := "ytepdmkkeohjkhaa", sum := "ed42d0fc5f9f3cfd476e3c52649ed4c786569cd1f50aa886e3f8805fe7e1f0ef", func := "crossbuck/crossbucklaw04.CrcFinds", spec := "crcFinds", apart := false }
def CrcFindsSaid : Prop := crcFindsRow.holds Try.pinned (OpenSpec.ofChange crcFindsSpec)

/-- ITS FALSE NEIGHBOUR: 'it returns false'. Refute it at one input. -/
def crcFindsWrong : ChangeSpec := { name := "crcFinds", fn := fun _ => fun
  | [d1, d2, d3, d4] => { results := [.lit (.bool false)], args := [d1, d2, d3, d4] }
  | _ => none }
def CrcFindsWrongFalsely : Prop := crcFindsRow.holds Try.pinned (OpenSpec.ofChange crcFindsWrong)

/-- 'crossbucklaw04.CrcLinear': WHATEVER THE INPUT: true; the input reads as it did. -/
def crcLinearSpec : ChangeSpec := { name := "crcLinear", fn := fun _ => fun
  | [d1, d2, d3] => { results := [.lit (.bool true)], args := [d1, d2, d3] }
  | _ => none }
def crcLinearRow : OpenClaim := { program := "ytepdmkkeohjkhaa", sum := "ed42d0fc5f9f3cfd476e3c52649ed4c786569cd1f50aa886e3f8805fe7e1f0ef", func := "crossbuck/crossbucklaw04.CrcLinear", spec := "crcLinear", apart := false }
def CrcLinearSaid : Prop := crcLinearRow.holds Try.pinned (OpenSpec.ofChange crcLinearSpec)

/-- ITS FALSE NEIGHBOUR: 'it returns false'. Refute it at one input. -/
def crcLinearWrong : ChangeSpec := { name := "crcLinear", fn := fun _ => fun
  | [d1, d2, d3] => { results := [.lit (.bool false)], args := [d1, d2, d3] }
  | _ => none }
def CrcLinearWrongFalsely : Prop := crcLinearRow.holds Try.pinned (OpenSpec.ofChange crcLinearWrong)

/-- 'crossbucklaw04.CrcOwn': WHATEVER THE INPUT: true; the input reads as it did. -/
def crcOwnSpec : ChangeSpec := { name := "crcOwn", fn := fun _ => fun
  | [d] => { results := [.lit (.bool true)], args := [d] }
  | _ => none }
def crcOwnRow : OpenClaim := { program := "ytepdmkkeohjkhaa", sum := "ed42d0fc5f9f3cfd476e3c52649ed4c786569cd1f50aa886e3f8805fe7e1f0ef", func := "crossbuck/crossbucklaw04.CrcOwn", spec := "crcOwn", apart := false }
def CrcOwnSaid : Prop := crcOwnRow.holds Try.pinned (OpenSpec.ofChange crcOwnSpec)

/-- ITS FALSE NEIGHBOUR: 'it returns false'. Refute it at one input. -/
def crcOwnWrong : ChangeSpec := { name := "crcOwn", fn := fun _ => fun
  | [d] => { results := [.lit (.bool false)], args := [d] }
  | _ => none }
def CrcOwnWrongFalsely : Prop := crcOwnRow.holds Try.pinned (OpenSpec.ofChange crcOwnWrong)

/- THE SECOND FORM. 'bulk': how many values and letters a reading holds, each counted each time it is reached (what is shared counts as often as it is met; a slice's spare places count too). A statement '..UptoSaid' is the law's where the arguments, and the package variables that the reading takes, are together of bulk at most 1048576: NARROWER than '..Said'. Prove '..Said' where nothing that the law and all that it calls make is longer than what came in: it says more and counts as full. Else prove '..UptoSaid'. A law counts once. -/
mutual
def uptoBulk {H : Type} : DataW H → Nat
  | .lit (.string bytes) => bytes.length + 1
  | .lit _ => 1
  | .nil => 1
  | .ptr d => uptoBulk d + 1
  | .slice elems spare => uptoBulkAll elems + uptoBulkAll spare + 1
  | .agg parts => uptoBulkAll parts + 1
  | .iface _ d => uptoBulk d + 1
  | .map entries => uptoBulkEntries entries + 1
  | .held _ => 1
def uptoBulkAll {H : Type} : List (DataW H) → Nat
  | [] => 0
  | d :: r => uptoBulk d + uptoBulkAll r
def uptoBulkEntries {H : Type} : List (Lit × DataW H) → Nat
  | [] => 0
  | x :: r => uptoBulkEntry x + uptoBulkEntries r
def uptoBulkEntry {H : Type} : Lit × DataW H → Nat
  | (.string bytes, d) => bytes.length + uptoBulk d + 1
  | (_, d) => uptoBulk d + 1
 end
def uptoSmall : (H : Type) → List (DataW H) → Bool := fun _ ds => decide (uptoBulkAll ds ≤ 1048576)
def OpenSpec.upto (s : _root_.Go.ChangeSpec) : _root_.Go.OpenSpec := { _root_.Go.OpenSpec.ofChange s with cond := some uptoSmall }

/-- 'crossbucklaw04.CrcAll', WHERE WHAT IT READS IS OF BULK AT MOST 1048576: true; the input reads as it did. -/
def crcAllUptoRow : OpenClaim := { program := "ytepdmkkeohjkhaa", sum := "ed42d0fc5f9f3cfd476e3c52649ed4c786569cd1f50aa886e3f8805fe7e1f0ef", func := "crossbuck/crossbucklaw04.CrcAll", spec := "crcAll", apart := false, narrowed := true }
def CrcAllUptoSaid : Prop := crcAllUptoRow.holds Try.pinned (OpenSpec.upto crcAllSpec)

/-- 'crossbucklaw04.CrcParts', WHERE WHAT IT READS IS OF BULK AT MOST 1048576: true; the input reads as it did. -/
def crcPartsUptoRow : OpenClaim := { program := "ytepdmkkeohjkhaa", sum := "ed42d0fc5f9f3cfd476e3c52649ed4c786569cd1f50aa886e3f8805fe7e1f0ef", func := "crossbuck/crossbucklaw04.CrcParts", spec := "crcParts", apart := false, narrowed := true }
def CrcPartsUptoSaid : Prop := crcPartsUptoRow.holds Try.pinned (OpenSpec.upto crcPartsSpec)

/-- 'crossbucklaw04.CrcFinds', WHERE WHAT IT READS IS OF BULK AT MOST 1048576: true; the input reads as it did. -/
def crcFindsUptoRow : OpenClaim := { program := "ytepdmkkeohjkhaa", sum := "ed42d0fc5f9f3cfd476e3c52649ed4c786569cd1f50aa886e3f8805fe7e1f0ef", func := "crossbuck/crossbucklaw04.CrcFinds", spec := "crcFinds", apart := false, narrowed := true }
def CrcFindsUptoSaid : Prop := crcFindsUptoRow.holds Try.pinned (OpenSpec.upto crcFindsSpec)

/-- 'crossbucklaw04.CrcLinear', WHERE WHAT IT READS IS OF BULK AT MOST 1048576: true; the input reads as it did. -/
def crcLinearUptoRow : OpenClaim := { program := "ytepdmkkeohjkhaa", sum := "ed42d0fc5f9f3cfd476e3c52649ed4c786569cd1f50aa886e3f8805fe7e1f0ef", func := "crossbuck/crossbucklaw04.CrcLinear", spec := "crcLinear", apart := false, narrowed := true }
def CrcLinearUptoSaid : Prop := crcLinearUptoRow.holds Try.pinned (OpenSpec.upto crcLinearSpec)

/-- 'crossbucklaw04.CrcOwn', WHERE WHAT IT READS IS OF BULK AT MOST 1048576: true; the input reads as it did. -/
def crcOwnUptoRow : OpenClaim := { program := "ytepdmkkeohjkhaa", sum := "ed42d0fc5f9f3cfd476e3c52649ed4c786569cd1f50aa886e3f8805fe7e1f0ef", func := "crossbuck/crossbucklaw04.CrcOwn", spec := "crcOwn", apart := false, narrowed := true }
def CrcOwnUptoSaid : Prop := crcOwnUptoRow.holds Try.pinned (OpenSpec.upto crcOwnSpec)

end Rows
end Go.Proofs.Ytepdmkkeohjkhaa
