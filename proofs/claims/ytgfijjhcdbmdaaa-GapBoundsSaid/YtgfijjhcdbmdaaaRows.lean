/-
  No cell of these rows narrows 'for every input' (looked for: loops, veiled, ifaces, maps, wideKeys, modest, calm, conditions, laid).
  DERIVED. THE GIVEN ROWS OF THIS SEAT. 4 by the template 'for every input the law returns true; each argument reads behind the call as it read before'; 0 by the template 'total and deterministic' (their statements: YtgfijjhcdbmdaaaTotals.lean).
  GIVEN WITH THE SEED: the statements are not yours to turn. If you find one false, say at which input.
  Laid BY PROGRAM, IN A SANDBOX (cutbox-rows.mjs): the forced cells as the released guide's own fill.sh prints them over the translation 58440197df7d855b… (all of the seat's roots in one cut). By AI agents, Wed Nov 11 2026. No macro, syntax, notation, axiom, sorry.
-/
import Derived.Test.YtgfijjhcdbmdaaaChecked
import GoSem.Claim
import GoSem.ClaimJoined
import GoSem.ClaimMapViews
import Derived.JoinedTies
import Derived.KernelRfl
namespace Go.Proofs.Ytgfijjhcdbmdaaa
/- THE CELL 'sum', in the pinned program and in every row, IS THE sha256 OF THE DUMP (.gsa) THAT YtgfijjhcdbmdaaaProg.lean LOADS. Nothing in Lean hashes anything: it is a label: what it is worth is what the hold of that sum in a sandbox is worth. -/
noncomputable def Try.pinned : Pinned := { name := "ytgfijjhcdbmdaaa", sum := "58440197df7d855b3ee481f6e32a452b266708f09d0ecaad882fb1051186d204", checked := Try.checked }
namespace Rows
def none {H : Type} : Left H := { results := [], args := [] }

/-- 'crossbucklaw16.GapAll': WHATEVER THE INPUT: true; the input reads as it did. -/
def gapAllSpec : ChangeSpec := { name := "gapAll", fn := fun _ => fun
  | [d1, d2, d3, d4] => { results := [.lit (.bool true)], args := [d1, d2, d3, d4] }
  | _ => none }
def gapAllRow : OpenClaim := { program := "ytgfijjhcdbmdaaa", sum := "58440197df7d855b3ee481f6e32a452b266708f09d0ecaad882fb1051186d204", func := "crossbuck/crossbucklaw16.GapAll", spec := "gapAll", apart := false }
def GapAllSaid : Prop := gapAllRow.holds Try.pinned (OpenSpec.ofChange gapAllSpec)

/-- ITS FALSE NEIGHBOUR: 'it returns false'. Refute it at one input. -/
def gapAllWrong : ChangeSpec := { name := "gapAll", fn := fun _ => fun
  | [d1, d2, d3, d4] => { results := [.lit (.bool false)], args := [d1, d2, d3, d4] }
  | _ => none }
def GapAllWrongFalsely : Prop := gapAllRow.holds Try.pinned (OpenSpec.ofChange gapAllWrong)

/-- 'crossbucklaw16.GapBounds': WHATEVER THE INPUT: true; the input reads as it did. -/
def gapBoundsSpec : ChangeSpec := { name := "gapBounds", fn := fun _ => fun
  | [d1, d2, d3] => { results := [.lit (.bool true)], args := [d1, d2, d3] }
  | _ => none }
def gapBoundsRow : OpenClaim := { program := "ytgfijjhcdbmdaaa", sum := "58440197df7d855b3ee481f6e32a452b266708f09d0ecaad882fb1051186d204", func := "crossbuck/crossbucklaw16.GapBounds", spec := "gapBounds", apart := false }
def GapBoundsSaid : Prop := gapBoundsRow.holds Try.pinned (OpenSpec.ofChange gapBoundsSpec)

/-- ITS FALSE NEIGHBOUR: 'it returns false'. Refute it at one input. -/
def gapBoundsWrong : ChangeSpec := { name := "gapBounds", fn := fun _ => fun
  | [d1, d2, d3] => { results := [.lit (.bool false)], args := [d1, d2, d3] }
  | _ => none }
def GapBoundsWrongFalsely : Prop := gapBoundsRow.holds Try.pinned (OpenSpec.ofChange gapBoundsWrong)

/-- 'crossbucklaw16.GapLasts': WHATEVER THE INPUT: true; the input reads as it did. -/
def gapLastsSpec : ChangeSpec := { name := "gapLasts", fn := fun _ => fun
  | [d1, d2] => { results := [.lit (.bool true)], args := [d1, d2] }
  | _ => none }
def gapLastsRow : OpenClaim := { program := "ytgfijjhcdbmdaaa", sum := "58440197df7d855b3ee481f6e32a452b266708f09d0ecaad882fb1051186d204", func := "crossbuck/crossbucklaw16.GapLasts", spec := "gapLasts", apart := false }
def GapLastsSaid : Prop := gapLastsRow.holds Try.pinned (OpenSpec.ofChange gapLastsSpec)

/-- ITS FALSE NEIGHBOUR: 'it returns false'. Refute it at one input. -/
def gapLastsWrong : ChangeSpec := { name := "gapLasts", fn := fun _ => fun
  | [d1, d2] => { results := [.lit (.bool false)], args := [d1, d2] }
  | _ => none }
def GapLastsWrongFalsely : Prop := gapLastsRow.holds Try.pinned (OpenSpec.ofChange gapLastsWrong)

/-- 'crossbucklaw16.GapGrows': WHATEVER THE INPUT: true; the input reads as it did. -/
def gapGrowsSpec : ChangeSpec := { name := "gapGrows", fn := fun _ => fun
  | [d1, d2, d3] => { results := [.lit (.bool true)], args := [d1, d2, d3] }
  | _ => none }
def gapGrowsRow : OpenClaim := { program := "ytgfijjhcdbmdaaa", sum := "58440197df7d855b3ee481f6e32a452b266708f09d0ecaad882fb1051186d204", func := "crossbuck/crossbucklaw16.GapGrows", spec := "gapGrows", inPlace := ["math.Float64bits"], apart := false }
def GapGrowsSaid : Prop := gapGrowsRow.holds Try.pinned (OpenSpec.ofChange gapGrowsSpec)

/-- ITS FALSE NEIGHBOUR: 'it returns false'. Refute it at one input. -/
def gapGrowsWrong : ChangeSpec := { name := "gapGrows", fn := fun _ => fun
  | [d1, d2, d3] => { results := [.lit (.bool false)], args := [d1, d2, d3] }
  | _ => none }
def GapGrowsWrongFalsely : Prop := gapGrowsRow.holds Try.pinned (OpenSpec.ofChange gapGrowsWrong)

/- THE SECOND FORM. 'bulk': how many values and letters a reading holds, each counted each time it is reached (what is shared counts as often as it is met; a slice's spare places count too). A statement '..UptoSaid' is the law's where the arguments, and the package variables that the reading takes, are together of bulk at most 1048576: NARROWER than '..Said'. Prove '..Said' where nothing that the law and all that it calls make is longer than what came in: it says more and counts as full. Else prove '..UptoSaid'. A law counts once. -/
mutual
def uptoBulk {H : Type} : DataW H → Nat
  | .lit (.string bytes) => bytes.length + 1
  | .lit _ => 1
  | .nil => 1
  | .ptr d => uptoBulk d + 1
  | .slice elems spare => uptoBulkAll elems + uptoBulkAll spare + 1
  | .agg parts => uptoBulkAll parts + 1
  | .iface _ d => uptoBulk d + 1
  | .map entries => uptoBulkEntries entries + 1
  | .held _ => 1
def uptoBulkAll {H : Type} : List (DataW H) → Nat
  | [] => 0
  | d :: r => uptoBulk d + uptoBulkAll r
def uptoBulkEntries {H : Type} : List (Lit × DataW H) → Nat
  | [] => 0
  | x :: r => uptoBulkEntry x + uptoBulkEntries r
def uptoBulkEntry {H : Type} : Lit × DataW H → Nat
  | (.string bytes, d) => bytes.length + uptoBulk d + 1
  | (_, d) => uptoBulk d + 1
 end
def uptoSmall : (H : Type) → List (DataW H) → Bool := fun _ ds => decide (uptoBulkAll ds ≤ 1048576)
def OpenSpec.upto (s : _root_.Go.ChangeSpec) : _root_.Go.OpenSpec := { _root_.Go.OpenSpec.ofChange s with cond := some uptoSmall }

/-- 'crossbucklaw16.GapAll', WHERE WHAT IT READS IS OF BULK AT MOST 1048576: true; the input reads as it did. -/
def gapAllUptoRow : OpenClaim := { program := "ytgfijjhcdbmdaaa", sum := "58440197df7d855b3ee481f6e32a452b266708f09d0ecaad882fb1051186d204", func := "crossbuck/crossbucklaw16.GapAll", spec := "gapAll", apart := false, narrowed := true }
def GapAllUptoSaid : Prop := gapAllUptoRow.holds Try.pinned (OpenSpec.upto gapAllSpec)

/-- 'crossbucklaw16.GapBounds', WHERE WHAT IT READS IS OF BULK AT MOST 1048576: true; the input reads as it did. -/
def gapBoundsUptoRow : OpenClaim := { program := "ytgfijjhcdbmdaaa", sum := "58440197df7d855b3ee481f6e32a452b266708f09d0ecaad882fb1051186d204", func := "crossbuck/crossbucklaw16.GapBounds", spec := "gapBounds", apart := false, narrowed := true }
def GapBoundsUptoSaid : Prop := gapBoundsUptoRow.holds Try.pinned (OpenSpec.upto gapBoundsSpec)

/-- 'crossbucklaw16.GapLasts', WHERE WHAT IT READS IS OF BULK AT MOST 1048576: true; the input reads as it did. -/
def gapLastsUptoRow : OpenClaim := { program := "ytgfijjhcdbmdaaa", sum := "58440197df7d855b3ee481f6e32a452b266708f09d0ecaad882fb1051186d204", func := "crossbuck/crossbucklaw16.GapLasts", spec := "gapLasts", apart := false, narrowed := true }
def GapLastsUptoSaid : Prop := gapLastsUptoRow.holds Try.pinned (OpenSpec.upto gapLastsSpec)

/-- 'crossbucklaw16.GapGrows', WHERE WHAT IT READS IS OF BULK AT MOST 1048576: true; the input reads as it did. -/
def gapGrowsUptoRow : OpenClaim := { program := "ytgfijjhcdbmdaaa", sum := "58440197df7d855b3ee481f6e32a452b266708f09d0ecaad882fb1051186d204", func := "crossbuck/crossbucklaw16.GapGrows", spec := "gapGrows", inPlace := ["math.Float64bits"], apart := false, narrowed := true }
def GapGrowsUptoSaid : Prop := gapGrowsUptoRow.holds Try.pinned (OpenSpec.upto gapGrowsSpec)

end Rows
end Go.Proofs.Ytgfijjhcdbmdaaa
