/-
  No cell of these rows narrows 'for every input' (looked for: loops, veiled, ifaces, maps, wideKeys, modest, calm, conditions, laid).
  DERIVED. THE GIVEN ROWS OF THIS SEAT. 10 by the template 'for every input the law returns true; each argument reads behind the call as it read before'; 0 by the template 'total and deterministic' (their statements: YtodgfjgljcinlaaGreatTotals.lean).
  GIVEN WITH THE SEED: the statements are not yours to turn. If you find one false, say at which input.
  Laid BY PROGRAM, IN A SANDBOX (cutbox-rows.mjs): the forced cells as the released guide's own fill.sh prints them over the translation dcee33aa4e6a1325… (all of the seat's roots in one cut). By AI agents, Wed Nov 11 2026. No macro, syntax, notation, axiom, sorry.
-/
import Derived.Test.YtodgfjgljcinlaaGreatChecked
import GoSem.Claim
import GoSem.ClaimJoined
import GoSem.ClaimMapViews
import Derived.JoinedTies
import Derived.KernelRfl
namespace Go.Proofs.YtodgfjgljcinlaaGreat
/- THE CELL 'sum', in the pinned program and in every row, IS THE sha256 OF THE DUMP (.gsa) THAT YtodgfjgljcinlaaGreatProg.lean LOADS. Nothing in Lean hashes anything: it is a label: what it is worth is what the hold of that sum in a sandbox is worth. -/
noncomputable def Tryz.pinned : Pinned := { name := "ytodgfjgljcinlaagreat", sum := "dcee33aa4e6a1325ee3eefdba6dc246c5df83b359c269dffe50d72a77b4fb23d", checked := Tryz.checked }
namespace Rows
def none {H : Type} : Left H := { results := [], args := [] }

/-- 'crossbucktop.TopCodes': WHATEVER THE INPUT: true; the input reads as it did. -/
def topCodesSpec : ChangeSpec := { name := "topCodes", fn := fun _ => fun
  | [d1, d2] => { results := [.lit (.bool true)], args := [d1, d2] }
  | _ => none }
def topCodesRow : OpenClaim := { program := "ytodgfjgljcinlaagreat", sum := "dcee33aa4e6a1325ee3eefdba6dc246c5df83b359c269dffe50d72a77b4fb23d", func := "crossbuck/crossbucktop.TopCodes", spec := "topCodes", inPlace := ["math.RoundToEven", "math.Float64bits", "math.Float64frombits"], unfollowed := true, recurses := true, apart := false }
def TopCodesSaid : Prop := topCodesRow.holds Tryz.pinned (OpenSpec.ofChange topCodesSpec)

/-- ITS FALSE NEIGHBOUR: 'it returns false'. Refute it at one input. -/
def topCodesWrong : ChangeSpec := { name := "topCodes", fn := fun _ => fun
  | [d1, d2] => { results := [.lit (.bool false)], args := [d1, d2] }
  | _ => none }
def TopCodesWrongFalsely : Prop := topCodesRow.holds Tryz.pinned (OpenSpec.ofChange topCodesWrong)

/-- 'crossbucktop.TopTables': WHATEVER THE INPUT: true; the input reads as it did. -/
def topTablesSpec : ChangeSpec := { name := "topTables", fn := fun _ => fun
  | [d1, d2, d3] => { results := [.lit (.bool true)], args := [d1, d2, d3] }
  | _ => none }
def topTablesRow : OpenClaim := { program := "ytodgfjgljcinlaagreat", sum := "dcee33aa4e6a1325ee3eefdba6dc246c5df83b359c269dffe50d72a77b4fb23d", func := "crossbuck/crossbucktop.TopTables", spec := "topTables", inPlace := ["math.Float64bits", "math.Float64frombits", "math.RoundToEven"], unfollowed := true, recurses := true, apart := false }
def TopTablesSaid : Prop := topTablesRow.holds Tryz.pinned (OpenSpec.ofChange topTablesSpec)

/-- ITS FALSE NEIGHBOUR: 'it returns false'. Refute it at one input. -/
def topTablesWrong : ChangeSpec := { name := "topTables", fn := fun _ => fun
  | [d1, d2, d3] => { results := [.lit (.bool false)], args := [d1, d2, d3] }
  | _ => none }
def TopTablesWrongFalsely : Prop := topTablesRow.holds Tryz.pinned (OpenSpec.ofChange topTablesWrong)

/-- 'crossbucktop.TopParts': WHATEVER THE INPUT: true; the input reads as it did. -/
def topPartsSpec : ChangeSpec := { name := "topParts", fn := fun _ => fun
  | [d1, d2, d3] => { results := [.lit (.bool true)], args := [d1, d2, d3] }
  | _ => none }
def topPartsRow : OpenClaim := { program := "ytodgfjgljcinlaagreat", sum := "dcee33aa4e6a1325ee3eefdba6dc246c5df83b359c269dffe50d72a77b4fb23d", func := "crossbuck/crossbucktop.TopParts", spec := "topParts", inPlace := ["math.RoundToEven", "math.Float64bits", "math.Float64frombits"], unfollowed := true, recurses := true, apart := false }
def TopPartsSaid : Prop := topPartsRow.holds Tryz.pinned (OpenSpec.ofChange topPartsSpec)

/-- ITS FALSE NEIGHBOUR: 'it returns false'. Refute it at one input. -/
def topPartsWrong : ChangeSpec := { name := "topParts", fn := fun _ => fun
  | [d1, d2, d3] => { results := [.lit (.bool false)], args := [d1, d2, d3] }
  | _ => none }
def TopPartsWrongFalsely : Prop := topPartsRow.holds Tryz.pinned (OpenSpec.ofChange topPartsWrong)

/-- 'crossbucktop.TopSample': WHATEVER THE INPUT: true; the input reads as it did. -/
def topSampleSpec : ChangeSpec := { name := "topSample", fn := fun _ => fun
  | [d1, d2, d3] => { results := [.lit (.bool true)], args := [d1, d2, d3] }
  | _ => none }
def topSampleRow : OpenClaim := { program := "ytodgfjgljcinlaagreat", sum := "dcee33aa4e6a1325ee3eefdba6dc246c5df83b359c269dffe50d72a77b4fb23d", func := "crossbuck/crossbucktop.TopSample", spec := "topSample", inPlace := ["math.RoundToEven", "math.Float64bits", "math.Float64frombits"], unfollowed := true, recurses := true, apart := false }
def TopSampleSaid : Prop := topSampleRow.holds Tryz.pinned (OpenSpec.ofChange topSampleSpec)

/-- ITS FALSE NEIGHBOUR: 'it returns false'. Refute it at one input. -/
def topSampleWrong : ChangeSpec := { name := "topSample", fn := fun _ => fun
  | [d1, d2, d3] => { results := [.lit (.bool false)], args := [d1, d2, d3] }
  | _ => none }
def TopSampleWrongFalsely : Prop := topSampleRow.holds Tryz.pinned (OpenSpec.ofChange topSampleWrong)

/-- 'crossbucktop.TopStuck': WHATEVER THE INPUT: true; the input reads as it did. -/
def topStuckSpec : ChangeSpec := { name := "topStuck", fn := fun _ => fun
  | [d1, d2, d3] => { results := [.lit (.bool true)], args := [d1, d2, d3] }
  | _ => none }
def topStuckRow : OpenClaim := { program := "ytodgfjgljcinlaagreat", sum := "dcee33aa4e6a1325ee3eefdba6dc246c5df83b359c269dffe50d72a77b4fb23d", func := "crossbuck/crossbucktop.TopStuck", spec := "topStuck", inPlace := ["math.RoundToEven", "math.Float64bits", "math.Float64frombits"], unfollowed := true, recurses := true, apart := false }
def TopStuckSaid : Prop := topStuckRow.holds Tryz.pinned (OpenSpec.ofChange topStuckSpec)

/-- ITS FALSE NEIGHBOUR: 'it returns false'. Refute it at one input. -/
def topStuckWrong : ChangeSpec := { name := "topStuck", fn := fun _ => fun
  | [d1, d2, d3] => { results := [.lit (.bool false)], args := [d1, d2, d3] }
  | _ => none }
def TopStuckWrongFalsely : Prop := topStuckRow.holds Tryz.pinned (OpenSpec.ofChange topStuckWrong)

/-- 'crossbucktop.TopBroken': WHATEVER THE INPUT: true; the input reads as it did. -/
def topBrokenSpec : ChangeSpec := { name := "topBroken", fn := fun _ => fun
  | [d1, d2] => { results := [.lit (.bool true)], args := [d1, d2] }
  | _ => none }
def topBrokenRow : OpenClaim := { program := "ytodgfjgljcinlaagreat", sum := "dcee33aa4e6a1325ee3eefdba6dc246c5df83b359c269dffe50d72a77b4fb23d", func := "crossbuck/crossbucktop.TopBroken", spec := "topBroken", inPlace := ["math.Float64frombits", "math.RoundToEven", "math.Float64bits"], unfollowed := true, recurses := true, apart := false }
def TopBrokenSaid : Prop := topBrokenRow.holds Tryz.pinned (OpenSpec.ofChange topBrokenSpec)

/-- ITS FALSE NEIGHBOUR: 'it returns false'. Refute it at one input. -/
def topBrokenWrong : ChangeSpec := { name := "topBroken", fn := fun _ => fun
  | [d1, d2] => { results := [.lit (.bool false)], args := [d1, d2] }
  | _ => none }
def TopBrokenWrongFalsely : Prop := topBrokenRow.holds Tryz.pinned (OpenSpec.ofChange topBrokenWrong)

/-- 'crossbucktop.TopFloats': WHATEVER THE INPUT: true; the input reads as it did. -/
def topFloatsSpec : ChangeSpec := { name := "topFloats", fn := fun _ => fun
  | [d1, d2, d3] => { results := [.lit (.bool true)], args := [d1, d2, d3] }
  | _ => none }
def topFloatsRow : OpenClaim := { program := "ytodgfjgljcinlaagreat", sum := "dcee33aa4e6a1325ee3eefdba6dc246c5df83b359c269dffe50d72a77b4fb23d", func := "crossbuck/crossbucktop.TopFloats", spec := "topFloats", inPlace := ["math.RoundToEven", "math.Float64bits", "math.Float64frombits"], unfollowed := true, recurses := true, apart := false }
def TopFloatsSaid : Prop := topFloatsRow.holds Tryz.pinned (OpenSpec.ofChange topFloatsSpec)

/-- ITS FALSE NEIGHBOUR: 'it returns false'. Refute it at one input. -/
def topFloatsWrong : ChangeSpec := { name := "topFloats", fn := fun _ => fun
  | [d1, d2, d3] => { results := [.lit (.bool false)], args := [d1, d2, d3] }
  | _ => none }
def TopFloatsWrongFalsely : Prop := topFloatsRow.holds Tryz.pinned (OpenSpec.ofChange topFloatsWrong)

/-- 'crossbucktop.TopWalks': WHATEVER THE INPUT: true; the input reads as it did. -/
def topWalksSpec : ChangeSpec := { name := "topWalks", fn := fun _ => fun
  | [d1, d2] => { results := [.lit (.bool true)], args := [d1, d2] }
  | _ => none }
def topWalksRow : OpenClaim := { program := "ytodgfjgljcinlaagreat", sum := "dcee33aa4e6a1325ee3eefdba6dc246c5df83b359c269dffe50d72a77b4fb23d", func := "crossbuck/crossbucktop.TopWalks", spec := "topWalks", inPlace := ["math.Float64frombits", "math.Float64bits", "math.RoundToEven"], unfollowed := true, recurses := true, apart := false }
def TopWalksSaid : Prop := topWalksRow.holds Tryz.pinned (OpenSpec.ofChange topWalksSpec)

/-- ITS FALSE NEIGHBOUR: 'it returns false'. Refute it at one input. -/
def topWalksWrong : ChangeSpec := { name := "topWalks", fn := fun _ => fun
  | [d1, d2] => { results := [.lit (.bool false)], args := [d1, d2] }
  | _ => none }
def TopWalksWrongFalsely : Prop := topWalksRow.holds Tryz.pinned (OpenSpec.ofChange topWalksWrong)

/-- 'crossbucktop.TopBudget': WHATEVER THE INPUT: true; the input reads as it did. -/
def topBudgetSpec : ChangeSpec := { name := "topBudget", fn := fun _ => fun
  | [d1, d2] => { results := [.lit (.bool true)], args := [d1, d2] }
  | _ => none }
def topBudgetRow : OpenClaim := { program := "ytodgfjgljcinlaagreat", sum := "dcee33aa4e6a1325ee3eefdba6dc246c5df83b359c269dffe50d72a77b4fb23d", func := "crossbuck/crossbucktop.TopBudget", spec := "topBudget", inPlace := ["math.Float64frombits", "math.Float64bits", "math.RoundToEven"], unfollowed := true, recurses := true, apart := false }
def TopBudgetSaid : Prop := topBudgetRow.holds Tryz.pinned (OpenSpec.ofChange topBudgetSpec)

/-- ITS FALSE NEIGHBOUR: 'it returns false'. Refute it at one input. -/
def topBudgetWrong : ChangeSpec := { name := "topBudget", fn := fun _ => fun
  | [d1, d2] => { results := [.lit (.bool false)], args := [d1, d2] }
  | _ => none }
def TopBudgetWrongFalsely : Prop := topBudgetRow.holds Tryz.pinned (OpenSpec.ofChange topBudgetWrong)

/-- 'crossbucktop.TopLog': WHATEVER THE INPUT: true; the input reads as it did. -/
def topLogSpec : ChangeSpec := { name := "topLog", fn := fun _ => fun
  | [d1, d2] => { results := [.lit (.bool true)], args := [d1, d2] }
  | _ => none }
def topLogRow : OpenClaim := { program := "ytodgfjgljcinlaagreat", sum := "dcee33aa4e6a1325ee3eefdba6dc246c5df83b359c269dffe50d72a77b4fb23d", func := "crossbuck/crossbucktop.TopLog", spec := "topLog", inPlace := ["math.Float64frombits", "math.Float64bits", "math.RoundToEven"], unfollowed := true, recurses := true, apart := false }
def TopLogSaid : Prop := topLogRow.holds Tryz.pinned (OpenSpec.ofChange topLogSpec)

/-- ITS FALSE NEIGHBOUR: 'it returns false'. Refute it at one input. -/
def topLogWrong : ChangeSpec := { name := "topLog", fn := fun _ => fun
  | [d1, d2] => { results := [.lit (.bool false)], args := [d1, d2] }
  | _ => none }
def TopLogWrongFalsely : Prop := topLogRow.holds Tryz.pinned (OpenSpec.ofChange topLogWrong)

/- THE SECOND FORM. 'bulk': how many values and letters a reading holds, each counted each time it is reached (what is shared counts as often as it is met; a slice's spare places count too). A statement '..UptoSaid' is the law's where the arguments, and the package variables that the reading takes, are together of bulk at most 1048576: NARROWER than '..Said'. Prove '..Said' where nothing that the law and all that it calls make is longer than what came in: it says more and counts as full. Else prove '..UptoSaid'. A law counts once. -/
mutual
def uptoBulk {H : Type} : DataW H → Nat
  | .lit (.string bytes) => bytes.length + 1
  | .lit _ => 1
  | .nil => 1
  | .ptr d => uptoBulk d + 1
  | .slice elems spare => uptoBulkAll elems + uptoBulkAll spare + 1
  | .agg parts => uptoBulkAll parts + 1
  | .iface _ d => uptoBulk d + 1
  | .map entries => uptoBulkEntries entries + 1
  | .held _ => 1
def uptoBulkAll {H : Type} : List (DataW H) → Nat
  | [] => 0
  | d :: r => uptoBulk d + uptoBulkAll r
def uptoBulkEntries {H : Type} : List (Lit × DataW H) → Nat
  | [] => 0
  | x :: r => uptoBulkEntry x + uptoBulkEntries r
def uptoBulkEntry {H : Type} : Lit × DataW H → Nat
  | (.string bytes, d) => bytes.length + uptoBulk d + 1
  | (_, d) => uptoBulk d + 1
 end
def uptoSmall : (H : Type) → List (DataW H) → Bool := fun _ ds => decide (uptoBulkAll ds ≤ 1048576)
def OpenSpec.upto (s : _root_.Go.ChangeSpec) : _root_.Go.OpenSpec := { _root_.Go.OpenSpec.ofChange s with cond := some uptoSmall }

/-- 'crossbucktop.TopCodes', WHERE WHAT IT READS IS OF BULK AT MOST 1048576: true; the input reads as it did. -/
def topCodesUptoRow : OpenClaim := { program := "ytodgfjgljcinlaagreat", sum := "dcee33aa4e6a1325ee3eefdba6dc246c5df83b359c269dffe50d72a77b4fb23d", func := "crossbuck/crossbucktop.TopCodes", spec := "topCodes", inPlace := ["math.RoundToEven", "math.Float64bits", "math.Float64frombits"], unfollowed := true, recurses := true, apart := false, narrowed := true }
def TopCodesUptoSaid : Prop := topCodesUptoRow.holds Tryz.pinned (OpenSpec.upto topCodesSpec)

/-- 'crossbucktop.TopTables', WHERE WHAT IT READS IS OF BULK AT MOST 1048576: true; the input reads as it did. -/
def topTablesUptoRow : OpenClaim := { program := "ytodgfjgljcinlaagreat", sum := "dcee33aa4e6a1325ee3eefdba6dc246c5df83b359c269dffe50d72a77b4fb23d", func := "crossbuck/crossbucktop.TopTables", spec := "topTables", inPlace := ["math.Float64bits", "math.Float64frombits", "math.RoundToEven"], unfollowed := true, recurses := true, apart := false, narrowed := true }
def TopTablesUptoSaid : Prop := topTablesUptoRow.holds Tryz.pinned (OpenSpec.upto topTablesSpec)

/-- 'crossbucktop.TopParts', WHERE WHAT IT READS IS OF BULK AT MOST 1048576: true; the input reads as it did. -/
def topPartsUptoRow : OpenClaim := { program := "ytodgfjgljcinlaagreat", sum := "dcee33aa4e6a1325ee3eefdba6dc246c5df83b359c269dffe50d72a77b4fb23d", func := "crossbuck/crossbucktop.TopParts", spec := "topParts", inPlace := ["math.RoundToEven", "math.Float64bits", "math.Float64frombits"], unfollowed := true, recurses := true, apart := false, narrowed := true }
def TopPartsUptoSaid : Prop := topPartsUptoRow.holds Tryz.pinned (OpenSpec.upto topPartsSpec)

/-- 'crossbucktop.TopSample', WHERE WHAT IT READS IS OF BULK AT MOST 1048576: true; the input reads as it did. -/
def topSampleUptoRow : OpenClaim := { program := "ytodgfjgljcinlaagreat", sum := "dcee33aa4e6a1325ee3eefdba6dc246c5df83b359c269dffe50d72a77b4fb23d", func := "crossbuck/crossbucktop.TopSample", spec := "topSample", inPlace := ["math.RoundToEven", "math.Float64bits", "math.Float64frombits"], unfollowed := true, recurses := true, apart := false, narrowed := true }
def TopSampleUptoSaid : Prop := topSampleUptoRow.holds Tryz.pinned (OpenSpec.upto topSampleSpec)

/-- 'crossbucktop.TopStuck', WHERE WHAT IT READS IS OF BULK AT MOST 1048576: true; the input reads as it did. -/
def topStuckUptoRow : OpenClaim := { program := "ytodgfjgljcinlaagreat", sum := "dcee33aa4e6a1325ee3eefdba6dc246c5df83b359c269dffe50d72a77b4fb23d", func := "crossbuck/crossbucktop.TopStuck", spec := "topStuck", inPlace := ["math.RoundToEven", "math.Float64bits", "math.Float64frombits"], unfollowed := true, recurses := true, apart := false, narrowed := true }
def TopStuckUptoSaid : Prop := topStuckUptoRow.holds Tryz.pinned (OpenSpec.upto topStuckSpec)

/-- 'crossbucktop.TopBroken', WHERE WHAT IT READS IS OF BULK AT MOST 1048576: true; the input reads as it did. -/
def topBrokenUptoRow : OpenClaim := { program := "ytodgfjgljcinlaagreat", sum := "dcee33aa4e6a1325ee3eefdba6dc246c5df83b359c269dffe50d72a77b4fb23d", func := "crossbuck/crossbucktop.TopBroken", spec := "topBroken", inPlace := ["math.Float64frombits", "math.RoundToEven", "math.Float64bits"], unfollowed := true, recurses := true, apart := false, narrowed := true }
def TopBrokenUptoSaid : Prop := topBrokenUptoRow.holds Tryz.pinned (OpenSpec.upto topBrokenSpec)

/-- 'crossbucktop.TopFloats', WHERE WHAT IT READS IS OF BULK AT MOST 1048576: true; the input reads as it did. -/
def topFloatsUptoRow : OpenClaim := { program := "ytodgfjgljcinlaagreat", sum := "dcee33aa4e6a1325ee3eefdba6dc246c5df83b359c269dffe50d72a77b4fb23d", func := "crossbuck/crossbucktop.TopFloats", spec := "topFloats", inPlace := ["math.RoundToEven", "math.Float64bits", "math.Float64frombits"], unfollowed := true, recurses := true, apart := false, narrowed := true }
def TopFloatsUptoSaid : Prop := topFloatsUptoRow.holds Tryz.pinned (OpenSpec.upto topFloatsSpec)

/-- 'crossbucktop.TopWalks', WHERE WHAT IT READS IS OF BULK AT MOST 1048576: true; the input reads as it did. -/
def topWalksUptoRow : OpenClaim := { program := "ytodgfjgljcinlaagreat", sum := "dcee33aa4e6a1325ee3eefdba6dc246c5df83b359c269dffe50d72a77b4fb23d", func := "crossbuck/crossbucktop.TopWalks", spec := "topWalks", inPlace := ["math.Float64frombits", "math.Float64bits", "math.RoundToEven"], unfollowed := true, recurses := true, apart := false, narrowed := true }
def TopWalksUptoSaid : Prop := topWalksUptoRow.holds Tryz.pinned (OpenSpec.upto topWalksSpec)

/-- 'crossbucktop.TopBudget', WHERE WHAT IT READS IS OF BULK AT MOST 1048576: true; the input reads as it did. -/
def topBudgetUptoRow : OpenClaim := { program := "ytodgfjgljcinlaagreat", sum := "dcee33aa4e6a1325ee3eefdba6dc246c5df83b359c269dffe50d72a77b4fb23d", func := "crossbuck/crossbucktop.TopBudget", spec := "topBudget", inPlace := ["math.Float64frombits", "math.Float64bits", "math.RoundToEven"], unfollowed := true, recurses := true, apart := false, narrowed := true }
def TopBudgetUptoSaid : Prop := topBudgetUptoRow.holds Tryz.pinned (OpenSpec.upto topBudgetSpec)

/-- 'crossbucktop.TopLog', WHERE WHAT IT READS IS OF BULK AT MOST 1048576: true; the input reads as it did. -/
def topLogUptoRow : OpenClaim := { program := "ytodgfjgljcinlaagreat", sum := "dcee33aa4e6a1325ee3eefdba6dc246c5df83b359c269dffe50d72a77b4fb23d", func := "crossbuck/crossbucktop.TopLog", spec := "topLog", inPlace := ["math.Float64frombits", "math.Float64bits", "math.RoundToEven"], unfollowed := true, recurses := true, apart := false, narrowed := true }
def TopLogUptoSaid : Prop := topLogUptoRow.holds Tryz.pinned (OpenSpec.upto topLogSpec)

end Rows
end Go.Proofs.YtodgfjgljcinlaaGreat
