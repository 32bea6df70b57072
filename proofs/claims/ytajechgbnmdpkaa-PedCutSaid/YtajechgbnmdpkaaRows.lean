/-
  No cell of these rows narrows 'for every input' (looked for: loops, veiled, ifaces, maps, wideKeys, modest, calm, conditions, laid).
  DERIVED. THE GIVEN ROWS OF THIS SEAT. 4 by the template 'for every input the law returns true; each argument reads behind the call as it read before'; 0 by the template 'total and deterministic' (their statements: YtajechgbnmdpkaaTotals.lean).
  GIVEN WITH THE SEED: the statements are not yours to turn. If you find one false, say at which input.
  Laid BY PROGRAM, IN A SANDBOX (cutbox-rows.mjs): the forced cells as the released guide's own fill.sh prints them over the translation 3738bf976d69939c… (all of the seat's roots in one cut). By AI agents, Wed Nov 11 2026. No macro, syntax, notation, axiom, sorry.
-/
import Derived.Test.YtajechgbnmdpkaaChecked
import GoSem.Claim
import GoSem.ClaimJoined
import GoSem.ClaimMapViews
import Derived.JoinedTies
import Derived.KernelRfl
namespace Go.Proofs.Ytajechgbnmdpkaa
/- THE CELL 'sum', in the pinned program and in every row, IS THE sha256 OF THE DUMP (.gsa) THAT YtajechgbnmdpkaaProg.lean LOADS. Nothing in Lean hashes anything: it is a label: what it is worth is what the hold of that sum in a sandbox is worth. -/
noncomputable def Try.pinned : Pinned := { name := "ytajechgbnmdpkaa", sum := "3738bf976d69939c889d76dcbfc577f85ef8130c3e96474caf7149b409842139", checked := Try.checked }
namespace Rows
def none {H : Type} : Left H := { results := [], args := [] }

/-- 'crossbucklaw17.PedExact': WHATEVER THE INPUT: true; the input reads as it did. -/
def pedExactSpec : ChangeSpec := { name := "pedExact", fn := fun _ => fun
  | [d1, d2, d3] => { results := [.lit (.bool true)], args := [d1, d2, d3] }
  | _ => none }
def pedExactRow : OpenClaim := { program := "ytajechgbnmdpkaa", sum := "3738bf976d69939c889d76dcbfc577f85ef8130c3e96474caf7149b409842139", func := "crossbuck/crossbucklaw17.PedExact", spec := "pedExact", apart := false }
def PedExactSaid : Prop := pedExactRow.holds Try.pinned (OpenSpec.ofChange pedExactSpec)

/-- ITS FALSE NEIGHBOUR: 'it returns false'. Refute it at one input. -/
def pedExactWrong : ChangeSpec := { name := "pedExact", fn := fun _ => fun
  | [d1, d2, d3] => { results := [.lit (.bool false)], args := [d1, d2, d3] }
  | _ => none }
def PedExactWrongFalsely : Prop := pedExactRow.holds Try.pinned (OpenSpec.ofChange pedExactWrong)

/-- 'crossbucklaw17.PedAll': WHATEVER THE INPUT: true; the input reads as it did. -/
def pedAllSpec : ChangeSpec := { name := "pedAll", fn := fun _ => fun
  | [d1, d2, d3, d4] => { results := [.lit (.bool true)], args := [d1, d2, d3, d4] }
  | _ => none }
def pedAllRow : OpenClaim := { program := "ytajechgbnmdpkaa", sum := "3738bf976d69939c889d76dcbfc577f85ef8130c3e96474caf7149b409842139", func := "crossbuck/crossbucklaw17.PedAll", spec := "pedAll", apart := false }
def PedAllSaid : Prop := pedAllRow.holds Try.pinned (OpenSpec.ofChange pedAllSpec)

/-- ITS FALSE NEIGHBOUR: 'it returns false'. Refute it at one input. -/
def pedAllWrong : ChangeSpec := { name := "pedAll", fn := fun _ => fun
  | [d1, d2, d3, d4] => { results := [.lit (.bool false)], args := [d1, d2, d3, d4] }
  | _ => none }
def PedAllWrongFalsely : Prop := pedAllRow.holds Try.pinned (OpenSpec.ofChange pedAllWrong)

/-- 'crossbucklaw17.PedPlays': WHATEVER THE INPUT: true; the input reads as it did. -/
def pedPlaysSpec : ChangeSpec := { name := "pedPlays", fn := fun _ => fun
  | [d1, d2, d3] => { results := [.lit (.bool true)], args := [d1, d2, d3] }
  | _ => none }
def pedPlaysRow : OpenClaim := { program := "ytajechgbnmdpkaa", sum := "3738bf976d69939c889d76dcbfc577f85ef8130c3e96474caf7149b409842139", func := "crossbuck/crossbucklaw17.PedPlays", spec := "pedPlays", apart := false }
def PedPlaysSaid : Prop := pedPlaysRow.holds Try.pinned (OpenSpec.ofChange pedPlaysSpec)

/-- ITS FALSE NEIGHBOUR: 'it returns false'. Refute it at one input. -/
def pedPlaysWrong : ChangeSpec := { name := "pedPlays", fn := fun _ => fun
  | [d1, d2, d3] => { results := [.lit (.bool false)], args := [d1, d2, d3] }
  | _ => none }
def PedPlaysWrongFalsely : Prop := pedPlaysRow.holds Try.pinned (OpenSpec.ofChange pedPlaysWrong)

/-- 'crossbucklaw17.PedCut': WHATEVER THE INPUT: true; the input reads as it did. -/
def pedCutSpec : ChangeSpec := { name := "pedCut", fn := fun _ => fun
  | [d1, d2, d3] => { results := [.lit (.bool true)], args := [d1, d2, d3] }
  | _ => none }
def pedCutRow : OpenClaim := { program := "ytajechgbnmdpkaa", sum := "3738bf976d69939c889d76dcbfc577f85ef8130c3e96474caf7149b409842139", func := "crossbuck/crossbucklaw17.PedCut", spec := "pedCut", apart := false }
def PedCutSaid : Prop := pedCutRow.holds Try.pinned (OpenSpec.ofChange pedCutSpec)

/-- ITS FALSE NEIGHBOUR: 'it returns false'. Refute it at one input. -/
def pedCutWrong : ChangeSpec := { name := "pedCut", fn := fun _ => fun
  | [d1, d2, d3] => { results := [.lit (.bool false)], args := [d1, d2, d3] }
  | _ => none }
def PedCutWrongFalsely : Prop := pedCutRow.holds Try.pinned (OpenSpec.ofChange pedCutWrong)

/- THE SECOND FORM. 'bulk': how many values and letters a reading holds, each counted each time it is reached (what is shared counts as often as it is met; a slice's spare places count too). A statement '..UptoSaid' is the law's where the arguments, and the package variables that the reading takes, are together of bulk at most 1048576: NARROWER than '..Said'. Prove '..Said' where nothing that the law and all that it calls make is longer than what came in: it says more and counts as full. Else prove '..UptoSaid'. A law counts once. -/
mutual
def uptoBulk {H : Type} : DataW H → Nat
  | .lit (.string bytes) => bytes.length + 1
  | .lit _ => 1
  | .nil => 1
  | .ptr d => uptoBulk d + 1
  | .slice elems spare => uptoBulkAll elems + uptoBulkAll spare + 1
  | .agg parts => uptoBulkAll parts + 1
  | .iface _ d => uptoBulk d + 1
  | .map entries => uptoBulkEntries entries + 1
  | .held _ => 1
def uptoBulkAll {H : Type} : List (DataW H) → Nat
  | [] => 0
  | d :: r => uptoBulk d + uptoBulkAll r
def uptoBulkEntries {H : Type} : List (Lit × DataW H) → Nat
  | [] => 0
  | x :: r => uptoBulkEntry x + uptoBulkEntries r
def uptoBulkEntry {H : Type} : Lit × DataW H → Nat
  | (.string bytes, d) => bytes.length + uptoBulk d + 1
  | (_, d) => uptoBulk d + 1
 end
def uptoSmall : (H : Type) → List (DataW H) → Bool := fun _ ds => decide (uptoBulkAll ds ≤ 1048576)
def OpenSpec.upto (s : _root_.Go.ChangeSpec) : _root_.Go.OpenSpec := { _root_.Go.OpenSpec.ofChange s with cond := some uptoSmall }

/-- 'crossbucklaw17.PedExact', WHERE WHAT IT READS IS OF BULK AT MOST 1048576: true; the input reads as it did. -/
def pedExactUptoRow : OpenClaim := { program := "ytajechgbnmdpkaa", sum := "3738bf976d69939c889d76dcbfc577f85ef8130c3e96474caf7149b409842139", func := "crossbuck/crossbucklaw17.PedExact", spec := "pedExact", apart := false, narrowed := true }
def PedExactUptoSaid : Prop := pedExactUptoRow.holds Try.pinned (OpenSpec.upto pedExactSpec)

/-- 'crossbucklaw17.PedAll', WHERE WHAT IT READS IS OF BULK AT MOST 1048576: true; the input reads as it did. -/
def pedAllUptoRow : OpenClaim := { program := "ytajechgbnmdpkaa", sum := "3738bf976d69939c889d76dcbfc577f85ef8130c3e96474caf7149b409842139", func := "crossbuck/crossbucklaw17.PedAll", spec := "pedAll", apart := false, narrowed := true }
def PedAllUptoSaid : Prop := pedAllUptoRow.holds Try.pinned (OpenSpec.upto pedAllSpec)

/-- 'crossbucklaw17.PedPlays', WHERE WHAT IT READS IS OF BULK AT MOST 1048576: true; the input reads as it did. -/
def pedPlaysUptoRow : OpenClaim := { program := "ytajechgbnmdpkaa", sum := "3738bf976d69939c889d76dcbfc577f85ef8130c3e96474caf7149b409842139", func := "crossbuck/crossbucklaw17.PedPlays", spec := "pedPlays", apart := false, narrowed := true }
def PedPlaysUptoSaid : Prop := pedPlaysUptoRow.holds Try.pinned (OpenSpec.upto pedPlaysSpec)

/-- 'crossbucklaw17.PedCut', WHERE WHAT IT READS IS OF BULK AT MOST 1048576: true; the input reads as it did. -/
def pedCutUptoRow : OpenClaim := { program := "ytajechgbnmdpkaa", sum := "3738bf976d69939c889d76dcbfc577f85ef8130c3e96474caf7149b409842139", func := "crossbuck/crossbucklaw17.PedCut", spec := "pedCut", apart := false, narrowed := true }
def PedCutUptoSaid : Prop := pedCutUptoRow.holds Try.pinned (OpenSpec.upto pedCutSpec)

end Rows
end Go.Proofs.Ytajechgbnmdpkaa
