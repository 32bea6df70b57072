/-
  No cell of these rows narrows 'for every input' (looked for: loops, veiled, ifaces, maps, wideKeys, modest, calm, conditions, laid).
  DERIVED. THE GIVEN ROWS OF THIS SEAT. 3 by the template 'for every input the law returns true; each argument reads behind the call as it read before'; 0 by the template 'total and deterministic' (their statements: YtcgadkkjcbnfjaaTotals.lean).
  GIVEN WITH THE SEED: the statements are not yours to turn. If you find one false, say at which input.
  Laid BY PROGRAM, IN A SANDBOX (cutbox-rows.mjs): the forced cells as the released guide's own fill.sh prints them over the translation 9c004e1fe9a68a7a… (all of the seat's roots in one cut). By AI agents, Wed Nov 11 2026. No macro, syntax, notation, axiom, sorry.
-/
import Derived.Test.YtcgadkkjcbnfjaaChecked
import GoSem.Claim
import GoSem.ClaimJoined
import GoSem.ClaimMapViews
import Derived.JoinedTies
import Derived.KernelRfl
namespace Go.Proofs.Ytcgadkkjcbnfjaa
/- THE CELL 'sum', in the pinned program and in every row, IS THE sha256 OF THE DUMP (.gsa) THAT YtcgadkkjcbnfjaaProg.lean LOADS. Nothing in Lean hashes anything: it is a label: what it is worth is what the hold of that sum in a sandbox is worth. -/
noncomputable def Try.pinned : Pinned := { name := "ytcgadkkjcbnfjaa", sum := "9c004e1fe9a68a7af25c08a1d63e65acacfeb497ad02dda5b1c2329f47d6da2f", checked := Try.checked }
namespace Rows
def none {H : Type} : Left H := { results := [], args := [] }

/-- 'crossbucklaw08.PlanRows': WHATEVER THE INPUT: true; the input reads as it did. -/
def planRowsSpec : ChangeSpec := { name := "planRows", fn := fun _ => fun
  | [d1, d2, d3, d4] => { results := [.lit (.bool true)], args := [d1, d2, d3, d4] }
  | _ => none }
def planRowsRow : OpenClaim := { program := "ytcgadkkjcbnfjaa", sum := "9c004e1fe9a68a7af25c08a1d63e65acacfeb497ad02dda5b1c2329f47d6da2f", func := "crossbuck/crossbucklaw08.PlanRows", spec := "planRows", apart := false }
def PlanRowsSaid : Prop := planRowsRow.holds Try.pinned (OpenSpec.ofChange planRowsSpec)

/-- ITS FALSE NEIGHBOUR: 'it returns false'. Refute it at one input. -/
def planRowsWrong : ChangeSpec := { name := "planRows", fn := fun _ => fun
  | [d1, d2, d3, d4] => { results := [.lit (.bool false)], args := [d1, d2, d3, d4] }
  | _ => none }
def PlanRowsWrongFalsely : Prop := planRowsRow.holds Try.pinned (OpenSpec.ofChange planRowsWrong)

/-- 'crossbucklaw08.PlanBeside': WHATEVER THE INPUT: true; the input reads as it did. -/
def planBesideSpec : ChangeSpec := { name := "planBeside", fn := fun _ => fun
  | [d1, d2, d3] => { results := [.lit (.bool true)], args := [d1, d2, d3] }
  | _ => none }
def planBesideRow : OpenClaim := { program := "ytcgadkkjcbnfjaa", sum := "9c004e1fe9a68a7af25c08a1d63e65acacfeb497ad02dda5b1c2329f47d6da2f", func := "crossbuck/crossbucklaw08.PlanBeside", spec := "planBeside", apart := false }
def PlanBesideSaid : Prop := planBesideRow.holds Try.pinned (OpenSpec.ofChange planBesideSpec)

/-- ITS FALSE NEIGHBOUR: 'it returns false'. Refute it at one input. -/
def planBesideWrong : ChangeSpec := { name := "planBeside", fn := fun _ => fun
  | [d1, d2, d3] => { results := [.lit (.bool false)], args := [d1, d2, d3] }
  | _ => none }
def PlanBesideWrongFalsely : Prop := planBesideRow.holds Try.pinned (OpenSpec.ofChange planBesideWrong)

/-- 'crossbucklaw08.PlanRounds': WHATEVER THE INPUT: true; the input reads as it did. -/
def planRoundsSpec : ChangeSpec := { name := "planRounds", fn := fun _ => fun
  | [d1, d2, d3] => { results := [.lit (.bool true)], args := [d1, d2, d3] }
  | _ => none }
def planRoundsRow : OpenClaim := { program := "ytcgadkkjcbnfjaa", sum := "9c004e1fe9a68a7af25c08a1d63e65acacfeb497ad02dda5b1c2329f47d6da2f", func := "crossbuck/crossbucklaw08.PlanRounds", spec := "planRounds", apart := false }
def PlanRoundsSaid : Prop := planRoundsRow.holds Try.pinned (OpenSpec.ofChange planRoundsSpec)

/-- ITS FALSE NEIGHBOUR: 'it returns false'. Refute it at one input. -/
def planRoundsWrong : ChangeSpec := { name := "planRounds", fn := fun _ => fun
  | [d1, d2, d3] => { results := [.lit (.bool false)], args := [d1, d2, d3] }
  | _ => none }
def PlanRoundsWrongFalsely : Prop := planRoundsRow.holds Try.pinned (OpenSpec.ofChange planRoundsWrong)

/- THE SECOND FORM. 'bulk': how many values and letters a reading holds, each counted each time it is reached (what is shared counts as often as it is met; a slice's spare places count too). A statement '..UptoSaid' is the law's where the arguments, and the package variables that the reading takes, are together of bulk at most 1048576: NARROWER than '..Said'. Prove '..Said' where nothing that the law and all that it calls make is longer than what came in: it says more and counts as full. Else prove '..UptoSaid'. A law counts once. -/
mutual
def uptoBulk {H : Type} : DataW H → Nat
  | .lit (.string bytes) => bytes.length + 1
  | .lit _ => 1
  | .nil => 1
  | .ptr d => uptoBulk d + 1
  | .slice elems spare => uptoBulkAll elems + uptoBulkAll spare + 1
  | .agg parts => uptoBulkAll parts + 1
  | .iface _ d => uptoBulk d + 1
  | .map entries => uptoBulkEntries entries + 1
  | .held _ => 1
def uptoBulkAll {H : Type} : List (DataW H) → Nat
  | [] => 0
  | d :: r => uptoBulk d + uptoBulkAll r
def uptoBulkEntries {H : Type} : List (Lit × DataW H) → Nat
  | [] => 0
  | x :: r => uptoBulkEntry x + uptoBulkEntries r
def uptoBulkEntry {H : Type} : Lit × DataW H → Nat
  | (.string bytes, d) => bytes.length + uptoBulk d + 1
  | (_, d) => uptoBulk d + 1
 end
def uptoSmall : (H : Type) → List (DataW H) → Bool := fun _ ds => decide (uptoBulkAll ds ≤ 1048576)
def OpenSpec.upto (s : _root_.Go.ChangeSpec) : _root_.Go.OpenSpec := { _root_.Go.OpenSpec.ofChange s with cond := some uptoSmall }

/-- 'crossbucklaw08.PlanRows', WHERE WHAT IT READS IS OF BULK AT MOST 1048576: true; the input reads as it did. -/
def planRowsUptoRow : OpenClaim := { program := "ytcgadkkjcbnfjaa", sum := "9c004e1fe9a68a7af25c08a1d63e65acacfeb497ad02dda5b1c2329f47d6da2f", func := "crossbuck/crossbucklaw08.PlanRows", spec := "planRows", apart := false, narrowed := true }
def PlanRowsUptoSaid : Prop := planRowsUptoRow.holds Try.pinned (OpenSpec.upto planRowsSpec)

/-- 'crossbucklaw08.PlanBeside', WHERE WHAT IT READS IS OF BULK AT MOST 1048576: true; the input reads as it did. -/
def planBesideUptoRow : OpenClaim := { program := "ytcgadkkjcbnfjaa", sum := "9c004e1fe9a68a7af25c08a1d63e65acacfeb497ad02dda5b1c2329f47d6da2f", func := "crossbuck/crossbucklaw08.PlanBeside", spec := "planBeside", apart := false, narrowed := true }
def PlanBesideUptoSaid : Prop := planBesideUptoRow.holds Try.pinned (OpenSpec.upto planBesideSpec)

/-- 'crossbucklaw08.PlanRounds', WHERE WHAT IT READS IS OF BULK AT MOST 1048576: true; the input reads as it did. -/
def planRoundsUptoRow : OpenClaim := { program := "ytcgadkkjcbnfjaa", sum := "9c004e1fe9a68a7af25c08a1d63e65acacfeb497ad02dda5b1c2329f47d6da2f", func := "crossbuck/crossbucklaw08.PlanRounds", spec := "planRounds", apart := false, narrowed := true }
def PlanRoundsUptoSaid : Prop := planRoundsUptoRow.holds Try.pinned (OpenSpec.upto planRoundsSpec)

end Rows
end Go.Proofs.Ytcgadkkjcbnfjaa
