/-
  No cell of these rows narrows 'for every input' (looked for: loops, veiled, ifaces, maps, wideKeys, modest, calm, conditions, laid).
  DERIVED. THE GIVEN ROWS OF THIS SEAT. 4 by the template 'for every input the law returns true; each argument reads behind the call as it read before'; 0 by the template 'total and deterministic' (their statements: YtkfilolomjhdeaaTotals.lean).
  GIVEN WITH THE SEED: the statements are not yours to turn. If you find one false, say at which input.
  Laid BY PROGRAM, IN A SANDBOX (cutbox-rows.mjs): the forced cells as the released guide's own fill.sh prints them over the translation 46bc644a450b3437… (all of the seat's roots in one cut). By AI agents, Wed Nov 11 2026. No macro, syntax, notation, axiom, sorry.
-/
import Derived.Test.YtkfilolomjhdeaaChecked
import GoSem.Claim
import GoSem.ClaimJoined
import GoSem.ClaimMapViews
import Derived.JoinedTies
import Derived.KernelRfl
namespace Go.Proofs.Ytkfilolomjhdeaa
/- THE CELL 'sum', in the pinned program and in every row, IS THE sha256 OF THE DUMP (.gsa) THAT YtkfilolomjhdeaaProg.lean LOADS. Nothing in Lean hashes anything: it is a label: what it is worth is what the hold of that sum in a sandbox is worth. -/
noncomputable def Try.pinned : Pinned := { name := "ytkfilolomjhdeaa", sum := "46bc644a450b3437fd1addb8cfd5da75f104309d5d808637fda29cfd90a50878", checked := Try.checked }
namespace Rows
def none {H : Type} : Left H := { results := [], args := [] }

/-- 'crossbucklaw23.LampTexts': WHATEVER THE INPUT: true; the input reads as it did. -/
def lampTextsSpec : ChangeSpec := { name := "lampTexts", fn := fun _ => fun
  | [d] => { results := [.lit (.bool true)], args := [d] }
  | _ => none }
def lampTextsRow : OpenClaim := { program := "ytkfilolomjhdeaa", sum := "46bc644a450b3437fd1addb8cfd5da75f104309d5d808637fda29cfd90a50878", func := "crossbuck/crossbucklaw23.LampTexts", spec := "lampTexts", apart := false }
def LampTextsSaid : Prop := lampTextsRow.holds Try.pinned (OpenSpec.ofChange lampTextsSpec)

/-- ITS FALSE NEIGHBOUR: 'it returns false'. Refute it at one input. -/
def lampTextsWrong : ChangeSpec := { name := "lampTexts", fn := fun _ => fun
  | [d] => { results := [.lit (.bool false)], args := [d] }
  | _ => none }
def LampTextsWrongFalsely : Prop := lampTextsRow.holds Try.pinned (OpenSpec.ofChange lampTextsWrong)

/-- 'crossbucklaw23.LampSix': WHATEVER THE INPUT: true; the input reads as it did. -/
def lampSixSpec : ChangeSpec := { name := "lampSix", fn := fun _ => fun
  | [d1, d2] => { results := [.lit (.bool true)], args := [d1, d2] }
  | _ => none }
def lampSixRow : OpenClaim := { program := "ytkfilolomjhdeaa", sum := "46bc644a450b3437fd1addb8cfd5da75f104309d5d808637fda29cfd90a50878", func := "crossbuck/crossbucklaw23.LampSix", spec := "lampSix", apart := false }
def LampSixSaid : Prop := lampSixRow.holds Try.pinned (OpenSpec.ofChange lampSixSpec)

/-- ITS FALSE NEIGHBOUR: 'it returns false'. Refute it at one input. -/
def lampSixWrong : ChangeSpec := { name := "lampSix", fn := fun _ => fun
  | [d1, d2] => { results := [.lit (.bool false)], args := [d1, d2] }
  | _ => none }
def LampSixWrongFalsely : Prop := lampSixRow.holds Try.pinned (OpenSpec.ofChange lampSixWrong)

/-- 'crossbucklaw23.LampFlashes': WHATEVER THE INPUT: true; the input reads as it did. -/
def lampFlashesSpec : ChangeSpec := { name := "lampFlashes", fn := fun _ => fun
  | [d] => { results := [.lit (.bool true)], args := [d] }
  | _ => none }
def lampFlashesRow : OpenClaim := { program := "ytkfilolomjhdeaa", sum := "46bc644a450b3437fd1addb8cfd5da75f104309d5d808637fda29cfd90a50878", func := "crossbuck/crossbucklaw23.LampFlashes", spec := "lampFlashes", apart := false }
def LampFlashesSaid : Prop := lampFlashesRow.holds Try.pinned (OpenSpec.ofChange lampFlashesSpec)

/-- ITS FALSE NEIGHBOUR: 'it returns false'. Refute it at one input. -/
def lampFlashesWrong : ChangeSpec := { name := "lampFlashes", fn := fun _ => fun
  | [d] => { results := [.lit (.bool false)], args := [d] }
  | _ => none }
def LampFlashesWrongFalsely : Prop := lampFlashesRow.holds Try.pinned (OpenSpec.ofChange lampFlashesWrong)

/-- 'crossbucklaw23.LampAll': WHATEVER THE INPUT: true; the input reads as it did. -/
def lampAllSpec : ChangeSpec := { name := "lampAll", fn := fun _ => fun
  | [d1, d2] => { results := [.lit (.bool true)], args := [d1, d2] }
  | _ => none }
def lampAllRow : OpenClaim := { program := "ytkfilolomjhdeaa", sum := "46bc644a450b3437fd1addb8cfd5da75f104309d5d808637fda29cfd90a50878", func := "crossbuck/crossbucklaw23.LampAll", spec := "lampAll", apart := false }
def LampAllSaid : Prop := lampAllRow.holds Try.pinned (OpenSpec.ofChange lampAllSpec)

/-- ITS FALSE NEIGHBOUR: 'it returns false'. Refute it at one input. -/
def lampAllWrong : ChangeSpec := { name := "lampAll", fn := fun _ => fun
  | [d1, d2] => { results := [.lit (.bool false)], args := [d1, d2] }
  | _ => none }
def LampAllWrongFalsely : Prop := lampAllRow.holds Try.pinned (OpenSpec.ofChange lampAllWrong)

/- THE SECOND FORM. 'bulk': how many values and letters a reading holds, each counted each time it is reached (what is shared counts as often as it is met; a slice's spare places count too). A statement '..UptoSaid' is the law's where the arguments, and the package variables that the reading takes, are together of bulk at most 1048576: NARROWER than '..Said'. Prove '..Said' where nothing that the law and all that it calls make is longer than what came in: it says more and counts as full. Else prove '..UptoSaid'. A law counts once. -/
mutual
def uptoBulk {H : Type} : DataW H → Nat
  | .lit (.string bytes) => bytes.length + 1
  | .lit _ => 1
  | .nil => 1
  | .ptr d => uptoBulk d + 1
  | .slice elems spare => uptoBulkAll elems + uptoBulkAll spare + 1
  | .agg parts => uptoBulkAll parts + 1
  | .iface _ d => uptoBulk d + 1
  | .map entries => uptoBulkEntries entries + 1
  | .held _ => 1
def uptoBulkAll {H : Type} : List (DataW H) → Nat
  | [] => 0
  | d :: r => uptoBulk d + uptoBulkAll r
def uptoBulkEntries {H : Type} : List (Lit × DataW H) → Nat
  | [] => 0
  | x :: r => uptoBulkEntry x + uptoBulkEntries r
def uptoBulkEntry {H : Type} : Lit × DataW H → Nat
  | (.string bytes, d) => bytes.length + uptoBulk d + 1
  | (_, d) => uptoBulk d + 1
 end
def uptoSmall : (H : Type) → List (DataW H) → Bool := fun _ ds => decide (uptoBulkAll ds ≤ 1048576)
def OpenSpec.upto (s : _root_.Go.ChangeSpec) : _root_.Go.OpenSpec := { _root_.Go.OpenSpec.ofChange s with cond := some uptoSmall }

/-- 'crossbucklaw23.LampTexts', WHERE WHAT IT READS IS OF BULK AT MOST 1048576: true; the input reads as it did. -/
def lampTextsUptoRow : OpenClaim := { program := "ytkfilolomjhdeaa", sum := "46bc644a450b3437fd1addb8cfd5da75f104309d5d808637fda29cfd90a50878", func := "crossbuck/crossbucklaw23.LampTexts", spec := "lampTexts", apart := false, narrowed := true }
def LampTextsUptoSaid : Prop := lampTextsUptoRow.holds Try.pinned (OpenSpec.upto lampTextsSpec)

/-- 'crossbucklaw23.LampSix', WHERE WHAT IT READS IS OF BULK AT MOST 1048576: true; the input reads as it did. -/
def lampSixUptoRow : OpenClaim := { program := "ytkfilolomjhdeaa", sum := "46bc644a450b3437fd1addb8cfd5da75f104309d5d808637fda29cfd90a50878", func := "crossbuck/crossbucklaw23.LampSix", spec := "lampSix", apart := false, narrowed := true }
def LampSixUptoSaid : Prop := lampSixUptoRow.holds Try.pinned (OpenSpec.upto lampSixSpec)

/-- 'crossbucklaw23.LampFlashes', WHERE WHAT IT READS IS OF BULK AT MOST 1048576: true; the input reads as it did. -/
def lampFlashesUptoRow : OpenClaim := { program := "ytkfilolomjhdeaa", sum := "46bc644a450b3437fd1addb8cfd5da75f104309d5d808637fda29cfd90a50878", func := "crossbuck/crossbucklaw23.LampFlashes", spec := "lampFlashes", apart := false, narrowed := true }
def LampFlashesUptoSaid : Prop := lampFlashesUptoRow.holds Try.pinned (OpenSpec.upto lampFlashesSpec)

/-- 'crossbucklaw23.LampAll', WHERE WHAT IT READS IS OF BULK AT MOST 1048576: true; the input reads as it did. -/
def lampAllUptoRow : OpenClaim := { program := "ytkfilolomjhdeaa", sum := "46bc644a450b3437fd1addb8cfd5da75f104309d5d808637fda29cfd90a50878", func := "crossbuck/crossbucklaw23.LampAll", spec := "lampAll", apart := false, narrowed := true }
def LampAllUptoSaid : Prop := lampAllUptoRow.holds Try.pinned (OpenSpec.upto lampAllSpec)

end Rows
end Go.Proofs.Ytkfilolomjhdeaa
