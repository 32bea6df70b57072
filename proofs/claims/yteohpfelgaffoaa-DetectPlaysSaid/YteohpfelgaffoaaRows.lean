/-
  No cell of these rows narrows 'for every input' (looked for: loops, veiled, ifaces, maps, wideKeys, modest, calm, conditions, laid).
  DERIVED. THE GIVEN ROWS OF THIS SEAT. 3 by the template 'for every input the law returns true; each argument reads behind the call as it read before'; 0 by the template 'total and deterministic' (their statements: YteohpfelgaffoaaTotals.lean).
  GIVEN WITH THE SEED: the statements are not yours to turn. If you find one false, say at which input.
  Laid BY PROGRAM, IN A SANDBOX (cutbox-rows.mjs): the forced cells as the released guide's own fill.sh prints them over the translation a32412e3fbff1c1f… (all of the seat's roots in one cut). By AI agents, Wed Nov 11 2026. No macro, syntax, notation, axiom, sorry.
-/
import Derived.Test.YteohpfelgaffoaaChecked
import GoSem.Claim
import GoSem.ClaimJoined
import GoSem.ClaimMapViews
import Derived.JoinedTies
import Derived.KernelRfl
namespace Go.Proofs.Yteohpfelgaffoaa
/- THE CELL 'sum', in the pinned program and in every row, IS THE sha256 OF THE DUMP (.gsa) THAT YteohpfelgaffoaaProg.lean LOADS. Nothing in Lean hashes anything: it is a label: what it is worth is what the hold of that sum in a sandbox is worth. -/
noncomputable def Try.pinned : Pinned := { name := "yteohpfelgaffoaa", sum := "a32412e3fbff1c1f92a156fa0bf36c7d5d85b9360e750e61d6b7172c2891c2c7", checked := Try.checked }
namespace Rows
def none {H : Type} : Left H := { results := [], args := [] }

/-- 'crossbucklaw14.DetectApart': WHATEVER THE INPUT: true; the input reads as it did. -/
def detectApartSpec : ChangeSpec := { name := "detectApart", fn := fun _ => fun
  | [d1, d2, d3, d4] => { results := [.lit (.bool true)], args := [d1, d2, d3, d4] }
  | _ => none }
def detectApartRow : OpenClaim := { program := "yteohpfelgaffoaa", sum := "a32412e3fbff1c1f92a156fa0bf36c7d5d85b9360e750e61d6b7172c2891c2c7", func := "crossbuck/crossbucklaw14.DetectApart", spec := "detectApart", inPlace := ["math.Float64frombits", "math.RoundToEven"], apart := false }
def DetectApartSaid : Prop := detectApartRow.holds Try.pinned (OpenSpec.ofChange detectApartSpec)

/-- ITS FALSE NEIGHBOUR: 'it returns false'. Refute it at one input. -/
def detectApartWrong : ChangeSpec := { name := "detectApart", fn := fun _ => fun
  | [d1, d2, d3, d4] => { results := [.lit (.bool false)], args := [d1, d2, d3, d4] }
  | _ => none }
def DetectApartWrongFalsely : Prop := detectApartRow.holds Try.pinned (OpenSpec.ofChange detectApartWrong)

/-- 'crossbucklaw14.DetectBroken': WHATEVER THE INPUT: true; the input reads as it did. -/
def detectBrokenSpec : ChangeSpec := { name := "detectBroken", fn := fun _ => fun
  | [d1, d2, d3, d4] => { results := [.lit (.bool true)], args := [d1, d2, d3, d4] }
  | _ => none }
def detectBrokenRow : OpenClaim := { program := "yteohpfelgaffoaa", sum := "a32412e3fbff1c1f92a156fa0bf36c7d5d85b9360e750e61d6b7172c2891c2c7", func := "crossbuck/crossbucklaw14.DetectBroken", spec := "detectBroken", inPlace := ["math.Float64frombits", "math.RoundToEven"], apart := false }
def DetectBrokenSaid : Prop := detectBrokenRow.holds Try.pinned (OpenSpec.ofChange detectBrokenSpec)

/-- ITS FALSE NEIGHBOUR: 'it returns false'. Refute it at one input. -/
def detectBrokenWrong : ChangeSpec := { name := "detectBroken", fn := fun _ => fun
  | [d1, d2, d3, d4] => { results := [.lit (.bool false)], args := [d1, d2, d3, d4] }
  | _ => none }
def DetectBrokenWrongFalsely : Prop := detectBrokenRow.holds Try.pinned (OpenSpec.ofChange detectBrokenWrong)

/-- 'crossbucklaw14.DetectPlays': WHATEVER THE INPUT: true; the input reads as it did. -/
def detectPlaysSpec : ChangeSpec := { name := "detectPlays", fn := fun _ => fun
  | [d1, d2] => { results := [.lit (.bool true)], args := [d1, d2] }
  | _ => none }
def detectPlaysRow : OpenClaim := { program := "yteohpfelgaffoaa", sum := "a32412e3fbff1c1f92a156fa0bf36c7d5d85b9360e750e61d6b7172c2891c2c7", func := "crossbuck/crossbucklaw14.DetectPlays", spec := "detectPlays", inPlace := ["math.Float64frombits", "math.Float64bits", "math.RoundToEven"], apart := false }
def DetectPlaysSaid : Prop := detectPlaysRow.holds Try.pinned (OpenSpec.ofChange detectPlaysSpec)

/-- ITS FALSE NEIGHBOUR: 'it returns false'. Refute it at one input. -/
def detectPlaysWrong : ChangeSpec := { name := "detectPlays", fn := fun _ => fun
  | [d1, d2] => { results := [.lit (.bool false)], args := [d1, d2] }
  | _ => none }
def DetectPlaysWrongFalsely : Prop := detectPlaysRow.holds Try.pinned (OpenSpec.ofChange detectPlaysWrong)

/- THE SECOND FORM. 'bulk': how many values and letters a reading holds, each counted each time it is reached (what is shared counts as often as it is met; a slice's spare places count too). A statement '..UptoSaid' is the law's where the arguments, and the package variables that the reading takes, are together of bulk at most 1048576: NARROWER than '..Said'. Prove '..Said' where nothing that the law and all that it calls make is longer than what came in: it says more and counts as full. Else prove '..UptoSaid'. A law counts once. -/
mutual
def uptoBulk {H : Type} : DataW H → Nat
  | .lit (.string bytes) => bytes.length + 1
  | .lit _ => 1
  | .nil => 1
  | .ptr d => uptoBulk d + 1
  | .slice elems spare => uptoBulkAll elems + uptoBulkAll spare + 1
  | .agg parts => uptoBulkAll parts + 1
  | .iface _ d => uptoBulk d + 1
  | .map entries => uptoBulkEntries entries + 1
  | .held _ => 1
def uptoBulkAll {H : Type} : List (DataW H) → Nat
  | [] => 0
  | d :: r => uptoBulk d + uptoBulkAll r
def uptoBulkEntries {H : Type} : List (Lit × DataW H) → Nat
  | [] => 0
  | x :: r => uptoBulkEntry x + uptoBulkEntries r
def uptoBulkEntry {H : Type} : Lit × DataW H → Nat
  | (.string bytes, d) => bytes.length + uptoBulk d + 1
  | (_, d) => uptoBulk d + 1
 end
def uptoSmall : (H : Type) → List (DataW H) → Bool := fun _ ds => decide (uptoBulkAll ds ≤ 1048576)
def OpenSpec.upto (s : _root_.Go.ChangeSpec) : _root_.Go.OpenSpec := { _root_.Go.OpenSpec.ofChange s with cond := some uptoSmall }

/-- 'crossbucklaw14.DetectApart', WHERE WHAT IT READS IS OF BULK AT MOST 1048576: true; the input reads as it did. -/
def detectApartUptoRow : OpenClaim := { program := "yteohpfelgaffoaa", sum := "a32412e3fbff1c1f92a156fa0bf36c7d5d85b9360e750e61d6b7172c2891c2c7", func := "crossbuck/crossbucklaw14.DetectApart", spec := "detectApart", inPlace := ["math.Float64frombits", "math.RoundToEven"], apart := false, narrowed := true }
def DetectApartUptoSaid : Prop := detectApartUptoRow.holds Try.pinned (OpenSpec.upto detectApartSpec)

/-- 'crossbucklaw14.DetectBroken', WHERE WHAT IT READS IS OF BULK AT MOST 1048576: true; the input reads as it did. -/
def detectBrokenUptoRow : OpenClaim := { program := "yteohpfelgaffoaa", sum := "a32412e3fbff1c1f92a156fa0bf36c7d5d85b9360e750e61d6b7172c2891c2c7", func := "crossbuck/crossbucklaw14.DetectBroken", spec := "detectBroken", inPlace := ["math.Float64frombits", "math.RoundToEven"], apart := false, narrowed := true }
def DetectBrokenUptoSaid : Prop := detectBrokenUptoRow.holds Try.pinned (OpenSpec.upto detectBrokenSpec)

/-- 'crossbucklaw14.DetectPlays', WHERE WHAT IT READS IS OF BULK AT MOST 1048576: true; the input reads as it did. -/
def detectPlaysUptoRow : OpenClaim := { program := "yteohpfelgaffoaa", sum := "a32412e3fbff1c1f92a156fa0bf36c7d5d85b9360e750e61d6b7172c2891c2c7", func := "crossbuck/crossbucklaw14.DetectPlays", spec := "detectPlays", inPlace := ["math.Float64frombits", "math.Float64bits", "math.RoundToEven"], apart := false, narrowed := true }
def DetectPlaysUptoSaid : Prop := detectPlaysUptoRow.holds Try.pinned (OpenSpec.upto detectPlaysSpec)

end Rows
end Go.Proofs.Yteohpfelgaffoaa
