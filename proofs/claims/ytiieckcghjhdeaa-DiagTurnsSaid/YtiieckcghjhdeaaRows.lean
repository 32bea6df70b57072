/-
  No cell of these rows narrows 'for every input' (looked for: loops, veiled, ifaces, maps, wideKeys, modest, calm, conditions, laid).
  DERIVED. THE GIVEN ROWS OF THIS SEAT. 4 by the template 'for every input the law returns true; each argument reads behind the call as it read before'; 0 by the template 'total and deterministic' (their statements: YtiieckcghjhdeaaTotals.lean).
  GIVEN WITH THE SEED: the statements are not yours to turn. If you find one false, say at which input.
  Laid BY PROGRAM, IN A SANDBOX (cutbox-rows.mjs): the forced cells as the released guide's own fill.sh prints them over the translation a30a9d35a147532f… (all of the seat's roots in one cut). By AI agents, Wed Nov 11 2026. No macro, syntax, notation, axiom, sorry.
-/
import Derived.Test.YtiieckcghjhdeaaChecked
import GoSem.Claim
import GoSem.ClaimJoined
import GoSem.ClaimMapViews
import Derived.JoinedTies
import Derived.KernelRfl
namespace Go.Proofs.Ytiieckcghjhdeaa
/- THE CELL 'sum', in the pinned program and in every row, IS THE sha256 OF THE DUMP (.gsa) THAT YtiieckcghjhdeaaProg.lean LOADS. Nothing in Lean hashes anything: it is a label: what it is worth is what the hold of that sum in a sandbox is worth. -/
noncomputable def Try.pinned : Pinned := { name := "ytiieckcghjhdeaa", sum := "a30a9d35a147532fb36e6463cc905e0542527976918cc144fb3117b5b30c7f8b", checked := Try.checked }
namespace Rows
def none {H : Type} : Left H := { results := [], args := [] }

/-- 'crossbucklaw13.DiagAll': WHATEVER THE INPUT: true; the input reads as it did. -/
def diagAllSpec : ChangeSpec := { name := "diagAll", fn := fun _ => fun
  | [d1, d2, d3, d4] => { results := [.lit (.bool true)], args := [d1, d2, d3, d4] }
  | _ => none }
def diagAllRow : OpenClaim := { program := "ytiieckcghjhdeaa", sum := "a30a9d35a147532fb36e6463cc905e0542527976918cc144fb3117b5b30c7f8b", func := "crossbuck/crossbucklaw13.DiagAll", spec := "diagAll", apart := false }
def DiagAllSaid : Prop := diagAllRow.holds Try.pinned (OpenSpec.ofChange diagAllSpec)

/-- ITS FALSE NEIGHBOUR: 'it returns false'. Refute it at one input. -/
def diagAllWrong : ChangeSpec := { name := "diagAll", fn := fun _ => fun
  | [d1, d2, d3, d4] => { results := [.lit (.bool false)], args := [d1, d2, d3, d4] }
  | _ => none }
def DiagAllWrongFalsely : Prop := diagAllRow.holds Try.pinned (OpenSpec.ofChange diagAllWrong)

/-- 'crossbucklaw13.DiagRows': WHATEVER THE INPUT: true; the input reads as it did. -/
def diagRowsSpec : ChangeSpec := { name := "diagRows", fn := fun _ => fun
  | [d1, d2, d3] => { results := [.lit (.bool true)], args := [d1, d2, d3] }
  | _ => none }
def diagRowsRow : OpenClaim := { program := "ytiieckcghjhdeaa", sum := "a30a9d35a147532fb36e6463cc905e0542527976918cc144fb3117b5b30c7f8b", func := "crossbuck/crossbucklaw13.DiagRows", spec := "diagRows", apart := false }
def DiagRowsSaid : Prop := diagRowsRow.holds Try.pinned (OpenSpec.ofChange diagRowsSpec)

/-- ITS FALSE NEIGHBOUR: 'it returns false'. Refute it at one input. -/
def diagRowsWrong : ChangeSpec := { name := "diagRows", fn := fun _ => fun
  | [d1, d2, d3] => { results := [.lit (.bool false)], args := [d1, d2, d3] }
  | _ => none }
def DiagRowsWrongFalsely : Prop := diagRowsRow.holds Try.pinned (OpenSpec.ofChange diagRowsWrong)

/-- 'crossbucklaw13.DiagTurns': WHATEVER THE INPUT: true; the input reads as it did. -/
def diagTurnsSpec : ChangeSpec := { name := "diagTurns", fn := fun _ => fun
  | [d1, d2] => { results := [.lit (.bool true)], args := [d1, d2] }
  | _ => none }
def diagTurnsRow : OpenClaim := { program := "ytiieckcghjhdeaa", sum := "a30a9d35a147532fb36e6463cc905e0542527976918cc144fb3117b5b30c7f8b", func := "crossbuck/crossbucklaw13.DiagTurns", spec := "diagTurns", apart := false }
def DiagTurnsSaid : Prop := diagTurnsRow.holds Try.pinned (OpenSpec.ofChange diagTurnsSpec)

/-- ITS FALSE NEIGHBOUR: 'it returns false'. Refute it at one input. -/
def diagTurnsWrong : ChangeSpec := { name := "diagTurns", fn := fun _ => fun
  | [d1, d2] => { results := [.lit (.bool false)], args := [d1, d2] }
  | _ => none }
def DiagTurnsWrongFalsely : Prop := diagTurnsRow.holds Try.pinned (OpenSpec.ofChange diagTurnsWrong)

/-- 'crossbucklaw13.DiagEnd': WHATEVER THE INPUT: true; the input reads as it did. -/
def diagEndSpec : ChangeSpec := { name := "diagEnd", fn := fun _ => fun
  | [d1, d2, d3] => { results := [.lit (.bool true)], args := [d1, d2, d3] }
  | _ => none }
def diagEndRow : OpenClaim := { program := "ytiieckcghjhdeaa", sum := "a30a9d35a147532fb36e6463cc905e0542527976918cc144fb3117b5b30c7f8b", func := "crossbuck/crossbucklaw13.DiagEnd", spec := "diagEnd", apart := false }
def DiagEndSaid : Prop := diagEndRow.holds Try.pinned (OpenSpec.ofChange diagEndSpec)

/-- ITS FALSE NEIGHBOUR: 'it returns false'. Refute it at one input. -/
def diagEndWrong : ChangeSpec := { name := "diagEnd", fn := fun _ => fun
  | [d1, d2, d3] => { results := [.lit (.bool false)], args := [d1, d2, d3] }
  | _ => none }
def DiagEndWrongFalsely : Prop := diagEndRow.holds Try.pinned (OpenSpec.ofChange diagEndWrong)

/- THE SECOND FORM. 'bulk': how many values and letters a reading holds, each counted each time it is reached (what is shared counts as often as it is met; a slice's spare places count too). A statement '..UptoSaid' is the law's where the arguments, and the package variables that the reading takes, are together of bulk at most 1048576: NARROWER than '..Said'. Prove '..Said' where nothing that the law and all that it calls make is longer than what came in: it says more and counts as full. Else prove '..UptoSaid'. A law counts once. -/
mutual
def uptoBulk {H : Type} : DataW H → Nat
  | .lit (.string bytes) => bytes.length + 1
  | .lit _ => 1
  | .nil => 1
  | .ptr d => uptoBulk d + 1
  | .slice elems spare => uptoBulkAll elems + uptoBulkAll spare + 1
  | .agg parts => uptoBulkAll parts + 1
  | .iface _ d => uptoBulk d + 1
  | .map entries => uptoBulkEntries entries + 1
  | .held _ => 1
def uptoBulkAll {H : Type} : List (DataW H) → Nat
  | [] => 0
  | d :: r => uptoBulk d + uptoBulkAll r
def uptoBulkEntries {H : Type} : List (Lit × DataW H) → Nat
  | [] => 0
  | x :: r => uptoBulkEntry x + uptoBulkEntries r
def uptoBulkEntry {H : Type} : Lit × DataW H → Nat
  | (.string bytes, d) => bytes.length + uptoBulk d + 1
  | (_, d) => uptoBulk d + 1
 end
def uptoSmall : (H : Type) → List (DataW H) → Bool := fun _ ds => decide (uptoBulkAll ds ≤ 1048576)
def OpenSpec.upto (s : _root_.Go.ChangeSpec) : _root_.Go.OpenSpec := { _root_.Go.OpenSpec.ofChange s with cond := some uptoSmall }

/-- 'crossbucklaw13.DiagAll', WHERE WHAT IT READS IS OF BULK AT MOST 1048576: true; the input reads as it did. -/
def diagAllUptoRow : OpenClaim := { program := "ytiieckcghjhdeaa", sum := "a30a9d35a147532fb36e6463cc905e0542527976918cc144fb3117b5b30c7f8b", func := "crossbuck/crossbucklaw13.DiagAll", spec := "diagAll", apart := false, narrowed := true }
def DiagAllUptoSaid : Prop := diagAllUptoRow.holds Try.pinned (OpenSpec.upto diagAllSpec)

/-- 'crossbucklaw13.DiagRows', WHERE WHAT IT READS IS OF BULK AT MOST 1048576: true; the input reads as it did. -/
def diagRowsUptoRow : OpenClaim := { program := "ytiieckcghjhdeaa", sum := "a30a9d35a147532fb36e6463cc905e0542527976918cc144fb3117b5b30c7f8b", func := "crossbuck/crossbucklaw13.DiagRows", spec := "diagRows", apart := false, narrowed := true }
def DiagRowsUptoSaid : Prop := diagRowsUptoRow.holds Try.pinned (OpenSpec.upto diagRowsSpec)

/-- 'crossbucklaw13.DiagTurns', WHERE WHAT IT READS IS OF BULK AT MOST 1048576: true; the input reads as it did. -/
def diagTurnsUptoRow : OpenClaim := { program := "ytiieckcghjhdeaa", sum := "a30a9d35a147532fb36e6463cc905e0542527976918cc144fb3117b5b30c7f8b", func := "crossbuck/crossbucklaw13.DiagTurns", spec := "diagTurns", apart := false, narrowed := true }
def DiagTurnsUptoSaid : Prop := diagTurnsUptoRow.holds Try.pinned (OpenSpec.upto diagTurnsSpec)

/-- 'crossbucklaw13.DiagEnd', WHERE WHAT IT READS IS OF BULK AT MOST 1048576: true; the input reads as it did. -/
def diagEndUptoRow : OpenClaim := { program := "ytiieckcghjhdeaa", sum := "a30a9d35a147532fb36e6463cc905e0542527976918cc144fb3117b5b30c7f8b", func := "crossbuck/crossbucklaw13.DiagEnd", spec := "diagEnd", apart := false, narrowed := true }
def DiagEndUptoSaid : Prop := diagEndUptoRow.holds Try.pinned (OpenSpec.upto diagEndSpec)

end Rows
end Go.Proofs.Ytiieckcghjhdeaa
