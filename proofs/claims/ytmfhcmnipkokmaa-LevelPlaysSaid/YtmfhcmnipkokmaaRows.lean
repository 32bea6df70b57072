/-
  No cell of these rows narrows 'for every input' (looked for: loops, veiled, ifaces, maps, wideKeys, modest, calm, conditions, laid).
  DERIVED. THE GIVEN ROWS OF THIS SEAT. 4 by the template 'for every input the law returns true; each argument reads behind the call as it read before'; 0 by the template 'total and deterministic' (their statements: YtmfhcmnipkokmaaTotals.lean).
  GIVEN WITH THE SEED: the statements are not yours to turn. If you find one false, say at which input.
  Laid BY PROGRAM, IN A SANDBOX (cutbox-rows.mjs): the forced cells as the released guide's own fill.sh prints them over the translation 65a869eff100eac8… (all of the seat's roots in one cut). By AI agents, Wed Nov 11 2026. No macro, syntax, notation, axiom, sorry.
-/
import Derived.Test.YtmfhcmnipkokmaaChecked
import GoSem.Claim
import GoSem.ClaimJoined
import GoSem.ClaimMapViews
import Derived.JoinedTies
import Derived.KernelRfl
namespace Go.Proofs.Ytmfhcmnipkokmaa
/- THE CELL 'sum', in the pinned program and in every row, IS THE sha256 OF THE DUMP (.gsa) THAT YtmfhcmnipkokmaaProg.lean LOADS. Nothing in Lean hashes anything: it is a label: what it is worth is what the hold of that sum in a sandbox is worth. -/
noncomputable def Try.pinned : Pinned := { name := "ytmfhcmnipkokmaa", sum := "65a869eff100eac8700df6fe78f3478878b6a01d65d10c3583d945778fc7e16a", checked := Try.checked }
namespace Rows
def none {H : Type} : Left H := { results := [], args := [] }

/-- 'crossbucklaw11.LevelAll': WHATEVER THE INPUT: true; the input reads as it did. -/
def levelAllSpec : ChangeSpec := { name := "levelAll", fn := fun _ => fun
  | [d1, d2, d3] => { results := [.lit (.bool true)], args := [d1, d2, d3] }
  | _ => none }
def levelAllRow : OpenClaim := { program := "ytmfhcmnipkokmaa", sum := "65a869eff100eac8700df6fe78f3478878b6a01d65d10c3583d945778fc7e16a", func := "crossbuck/crossbucklaw11.LevelAll", spec := "levelAll", apart := false }
def LevelAllSaid : Prop := levelAllRow.holds Try.pinned (OpenSpec.ofChange levelAllSpec)

/-- ITS FALSE NEIGHBOUR: 'it returns false'. Refute it at one input. -/
def levelAllWrong : ChangeSpec := { name := "levelAll", fn := fun _ => fun
  | [d1, d2, d3] => { results := [.lit (.bool false)], args := [d1, d2, d3] }
  | _ => none }
def LevelAllWrongFalsely : Prop := levelAllRow.holds Try.pinned (OpenSpec.ofChange levelAllWrong)

/-- 'crossbucklaw11.LevelPlays': WHATEVER THE INPUT: true; the input reads as it did. -/
def levelPlaysSpec : ChangeSpec := { name := "levelPlays", fn := fun _ => fun
  | [d1, d2] => { results := [.lit (.bool true)], args := [d1, d2] }
  | _ => none }
def levelPlaysRow : OpenClaim := { program := "ytmfhcmnipkokmaa", sum := "65a869eff100eac8700df6fe78f3478878b6a01d65d10c3583d945778fc7e16a", func := "crossbuck/crossbucklaw11.LevelPlays", spec := "levelPlays", apart := false }
def LevelPlaysSaid : Prop := levelPlaysRow.holds Try.pinned (OpenSpec.ofChange levelPlaysSpec)

/-- ITS FALSE NEIGHBOUR: 'it returns false'. Refute it at one input. -/
def levelPlaysWrong : ChangeSpec := { name := "levelPlays", fn := fun _ => fun
  | [d1, d2] => { results := [.lit (.bool false)], args := [d1, d2] }
  | _ => none }
def LevelPlaysWrongFalsely : Prop := levelPlaysRow.holds Try.pinned (OpenSpec.ofChange levelPlaysWrong)

/-- 'crossbucklaw11.LevelHolds': WHATEVER THE INPUT: true; the input reads as it did. -/
def levelHoldsSpec : ChangeSpec := { name := "levelHolds", fn := fun _ => fun
  | [d1, d2, d3, d4] => { results := [.lit (.bool true)], args := [d1, d2, d3, d4] }
  | _ => none }
def levelHoldsRow : OpenClaim := { program := "ytmfhcmnipkokmaa", sum := "65a869eff100eac8700df6fe78f3478878b6a01d65d10c3583d945778fc7e16a", func := "crossbuck/crossbucklaw11.LevelHolds", spec := "levelHolds", apart := false }
def LevelHoldsSaid : Prop := levelHoldsRow.holds Try.pinned (OpenSpec.ofChange levelHoldsSpec)

/-- ITS FALSE NEIGHBOUR: 'it returns false'. Refute it at one input. -/
def levelHoldsWrong : ChangeSpec := { name := "levelHolds", fn := fun _ => fun
  | [d1, d2, d3, d4] => { results := [.lit (.bool false)], args := [d1, d2, d3, d4] }
  | _ => none }
def LevelHoldsWrongFalsely : Prop := levelHoldsRow.holds Try.pinned (OpenSpec.ofChange levelHoldsWrong)

/-- 'crossbucklaw11.LevelBad': WHATEVER THE INPUT: true; the input reads as it did. -/
def levelBadSpec : ChangeSpec := { name := "levelBad", fn := fun _ => fun
  | [d1, d2, d3, d4] => { results := [.lit (.bool true)], args := [d1, d2, d3, d4] }
  | _ => none }
def levelBadRow : OpenClaim := { program := "ytmfhcmnipkokmaa", sum := "65a869eff100eac8700df6fe78f3478878b6a01d65d10c3583d945778fc7e16a", func := "crossbuck/crossbucklaw11.LevelBad", spec := "levelBad", apart := false }
def LevelBadSaid : Prop := levelBadRow.holds Try.pinned (OpenSpec.ofChange levelBadSpec)

/-- ITS FALSE NEIGHBOUR: 'it returns false'. Refute it at one input. -/
def levelBadWrong : ChangeSpec := { name := "levelBad", fn := fun _ => fun
  | [d1, d2, d3, d4] => { results := [.lit (.bool false)], args := [d1, d2, d3, d4] }
  | _ => none }
def LevelBadWrongFalsely : Prop := levelBadRow.holds Try.pinned (OpenSpec.ofChange levelBadWrong)

/- THE SECOND FORM. 'bulk': how many values and letters a reading holds, each counted each time it is reached (what is shared counts as often as it is met; a slice's spare places count too). A statement '..UptoSaid' is the law's where the arguments, and the package variables that the reading takes, are together of bulk at most 1048576: NARROWER than '..Said'. Prove '..Said' where nothing that the law and all that it calls make is longer than what came in: it says more and counts as full. Else prove '..UptoSaid'. A law counts once. -/
mutual
def uptoBulk {H : Type} : DataW H → Nat
  | .lit (.string bytes) => bytes.length + 1
  | .lit _ => 1
  | .nil => 1
  | .ptr d => uptoBulk d + 1
  | .slice elems spare => uptoBulkAll elems + uptoBulkAll spare + 1
  | .agg parts => uptoBulkAll parts + 1
  | .iface _ d => uptoBulk d + 1
  | .map entries => uptoBulkEntries entries + 1
  | .held _ => 1
def uptoBulkAll {H : Type} : List (DataW H) → Nat
  | [] => 0
  | d :: r => uptoBulk d + uptoBulkAll r
def uptoBulkEntries {H : Type} : List (Lit × DataW H) → Nat
  | [] => 0
  | x :: r => uptoBulkEntry x + uptoBulkEntries r
def uptoBulkEntry {H : Type} : Lit × DataW H → Nat
  | (.string bytes, d) => bytes.length + uptoBulk d + 1
  | (_, d) => uptoBulk d + 1
 end
def uptoSmall : (H : Type) → List (DataW H) → Bool := fun _ ds => decide (uptoBulkAll ds ≤ 1048576)
def OpenSpec.upto (s : _root_.Go.ChangeSpec) : _root_.Go.OpenSpec := { _root_.Go.OpenSpec.ofChange s with cond := some uptoSmall }

/-- 'crossbucklaw11.LevelAll', WHERE WHAT IT READS IS OF BULK AT MOST 1048576: true; the input reads as it did. -/
def levelAllUptoRow : OpenClaim := { program := "ytmfhcmnipkokmaa", sum := "65a869eff100eac8700df6fe78f3478878b6a01d65d10c3583d945778fc7e16a", func := "crossbuck/crossbucklaw11.LevelAll", spec := "levelAll", apart := false, narrowed := true }
def LevelAllUptoSaid : Prop := levelAllUptoRow.holds Try.pinned (OpenSpec.upto levelAllSpec)

/-- 'crossbucklaw11.LevelPlays', WHERE WHAT IT READS IS OF BULK AT MOST 1048576: true; the input reads as it did. -/
def levelPlaysUptoRow : OpenClaim := { program := "ytmfhcmnipkokmaa", sum := "65a869eff100eac8700df6fe78f3478878b6a01d65d10c3583d945778fc7e16a", func := "crossbuck/crossbucklaw11.LevelPlays", spec := "levelPlays", apart := false, narrowed := true }
def LevelPlaysUptoSaid : Prop := levelPlaysUptoRow.holds Try.pinned (OpenSpec.upto levelPlaysSpec)

/-- 'crossbucklaw11.LevelHolds', WHERE WHAT IT READS IS OF BULK AT MOST 1048576: true; the input reads as it did. -/
def levelHoldsUptoRow : OpenClaim := { program := "ytmfhcmnipkokmaa", sum := "65a869eff100eac8700df6fe78f3478878b6a01d65d10c3583d945778fc7e16a", func := "crossbuck/crossbucklaw11.LevelHolds", spec := "levelHolds", apart := false, narrowed := true }
def LevelHoldsUptoSaid : Prop := levelHoldsUptoRow.holds Try.pinned (OpenSpec.upto levelHoldsSpec)

/-- 'crossbucklaw11.LevelBad', WHERE WHAT IT READS IS OF BULK AT MOST 1048576: true; the input reads as it did. -/
def levelBadUptoRow : OpenClaim := { program := "ytmfhcmnipkokmaa", sum := "65a869eff100eac8700df6fe78f3478878b6a01d65d10c3583d945778fc7e16a", func := "crossbuck/crossbucklaw11.LevelBad", spec := "levelBad", apart := false, narrowed := true }
def LevelBadUptoSaid : Prop := levelBadUptoRow.holds Try.pinned (OpenSpec.upto levelBadSpec)

end Rows
end Go.Proofs.Ytmfhcmnipkokmaa
