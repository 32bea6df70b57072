/-
  No cell of these rows narrows 'for every input' (looked for: loops, veiled, ifaces, maps, wideKeys, modest, calm, conditions, laid).
  DERIVED. THE GIVEN ROWS OF THIS SEAT. 4 by the template 'for every input the law returns true; each argument reads behind the call as it read before'; 0 by the template 'total and deterministic' (their statements: YtbnbakienajhmaaTotals.lean).
  GIVEN WITH THE SEED: the statements are not yours to turn. If you find one false, say at which input.
  Laid BY PROGRAM, IN A SANDBOX (cutbox-rows.mjs): the forced cells as the released guide's own fill.sh prints them over the translation 96179228e86ecfc5… (all of the seat's roots in one cut). By AI agents, Wed Nov 11 2026. No macro, syntax, notation, axiom, sorry.
-/
import Derived.Test.YtbnbakienajhmaaChecked
import GoSem.Claim
import GoSem.ClaimJoined
import GoSem.ClaimMapViews
import Derived.JoinedTies
import Derived.KernelRfl
namespace Go.Proofs.Ytbnbakienajhmaa
/- THE CELL 'sum', in the pinned program and in every row, IS THE sha256 OF THE DUMP (.gsa) THAT YtbnbakienajhmaaProg.lean LOADS. Nothing in Lean hashes anything: it is a label: what it is worth is what the hold of that sum in a sandbox is worth. -/
noncomputable def Try.pinned : Pinned := { name := "ytbnbakienajhmaa", sum := "96179228e86ecfc5d274d2f016989ac85ba4a0f6d5c891f57964273eae099210", checked := Try.checked }
namespace Rows
def none {H : Type} : Left H := { results := [], args := [] }

/-- 'crossbucklaw19.RingPut': WHATEVER THE INPUT: true; the input reads as it did. -/
def ringPutSpec : ChangeSpec := { name := "ringPut", fn := fun _ => fun
  | [d1, d2] => { results := [.lit (.bool true)], args := [d1, d2] }
  | _ => none }
def ringPutRow : OpenClaim := { program := "ytbnbakienajhmaa", sum := "96179228e86ecfc5d274d2f016989ac85ba4a0f6d5c891f57964273eae099210", func := "crossbuck/crossbucklaw19.RingPut", spec := "ringPut", unfollowed := true, recurses := true, apart := false }
def RingPutSaid : Prop := ringPutRow.holds Try.pinned (OpenSpec.ofChange ringPutSpec)

/-- ITS FALSE NEIGHBOUR: 'it returns false'. Refute it at one input. -/
def ringPutWrong : ChangeSpec := { name := "ringPut", fn := fun _ => fun
  | [d1, d2] => { results := [.lit (.bool false)], args := [d1, d2] }
  | _ => none }
def RingPutWrongFalsely : Prop := ringPutRow.holds Try.pinned (OpenSpec.ofChange ringPutWrong)

/-- 'crossbucklaw19.RingMay': WHATEVER THE INPUT: true; the input reads as it did. -/
def ringMaySpec : ChangeSpec := { name := "ringMay", fn := fun _ => fun
  | [d1, d2, d3, d4] => { results := [.lit (.bool true)], args := [d1, d2, d3, d4] }
  | _ => none }
def ringMayRow : OpenClaim := { program := "ytbnbakienajhmaa", sum := "96179228e86ecfc5d274d2f016989ac85ba4a0f6d5c891f57964273eae099210", func := "crossbuck/crossbucklaw19.RingMay", spec := "ringMay", unfollowed := true, recurses := true, apart := false }
def RingMaySaid : Prop := ringMayRow.holds Try.pinned (OpenSpec.ofChange ringMaySpec)

/-- ITS FALSE NEIGHBOUR: 'it returns false'. Refute it at one input. -/
def ringMayWrong : ChangeSpec := { name := "ringMay", fn := fun _ => fun
  | [d1, d2, d3, d4] => { results := [.lit (.bool false)], args := [d1, d2, d3, d4] }
  | _ => none }
def RingMayWrongFalsely : Prop := ringMayRow.holds Try.pinned (OpenSpec.ofChange ringMayWrong)

/-- 'crossbucklaw19.RingOnce': WHATEVER THE INPUT: true; the input reads as it did. -/
def ringOnceSpec : ChangeSpec := { name := "ringOnce", fn := fun _ => fun
  | [d1, d2] => { results := [.lit (.bool true)], args := [d1, d2] }
  | _ => none }
def ringOnceRow : OpenClaim := { program := "ytbnbakienajhmaa", sum := "96179228e86ecfc5d274d2f016989ac85ba4a0f6d5c891f57964273eae099210", func := "crossbuck/crossbucklaw19.RingOnce", spec := "ringOnce", unfollowed := true, recurses := true, apart := false }
def RingOnceSaid : Prop := ringOnceRow.holds Try.pinned (OpenSpec.ofChange ringOnceSpec)

/-- ITS FALSE NEIGHBOUR: 'it returns false'. Refute it at one input. -/
def ringOnceWrong : ChangeSpec := { name := "ringOnce", fn := fun _ => fun
  | [d1, d2] => { results := [.lit (.bool false)], args := [d1, d2] }
  | _ => none }
def RingOnceWrongFalsely : Prop := ringOnceRow.holds Try.pinned (OpenSpec.ofChange ringOnceWrong)

/-- 'crossbucklaw19.RingServes': WHATEVER THE INPUT: true; the input reads as it did. -/
def ringServesSpec : ChangeSpec := { name := "ringServes", fn := fun _ => fun
  | [d1, d2, d3] => { results := [.lit (.bool true)], args := [d1, d2, d3] }
  | _ => none }
def ringServesRow : OpenClaim := { program := "ytbnbakienajhmaa", sum := "96179228e86ecfc5d274d2f016989ac85ba4a0f6d5c891f57964273eae099210", func := "crossbuck/crossbucklaw19.RingServes", spec := "ringServes", unfollowed := true, recurses := true, apart := false }
def RingServesSaid : Prop := ringServesRow.holds Try.pinned (OpenSpec.ofChange ringServesSpec)

/-- ITS FALSE NEIGHBOUR: 'it returns false'. Refute it at one input. -/
def ringServesWrong : ChangeSpec := { name := "ringServes", fn := fun _ => fun
  | [d1, d2, d3] => { results := [.lit (.bool false)], args := [d1, d2, d3] }
  | _ => none }
def RingServesWrongFalsely : Prop := ringServesRow.holds Try.pinned (OpenSpec.ofChange ringServesWrong)

/- THE SECOND FORM. 'bulk': how many values and letters a reading holds, each counted each time it is reached (what is shared counts as often as it is met; a slice's spare places count too). A statement '..UptoSaid' is the law's where the arguments, and the package variables that the reading takes, are together of bulk at most 1048576: NARROWER than '..Said'. Prove '..Said' where nothing that the law and all that it calls make is longer than what came in: it says more and counts as full. Else prove '..UptoSaid'. A law counts once. -/
mutual
def uptoBulk {H : Type} : DataW H → Nat
  | .lit (.string bytes) => bytes.length + 1
  | .lit _ => 1
  | .nil => 1
  | .ptr d => uptoBulk d + 1
  | .slice elems spare => uptoBulkAll elems + uptoBulkAll spare + 1
  | .agg parts => uptoBulkAll parts + 1
  | .iface _ d => uptoBulk d + 1
  | .map entries => uptoBulkEntries entries + 1
  | .held _ => 1
def uptoBulkAll {H : Type} : List (DataW H) → Nat
  | [] => 0
  | d :: r => uptoBulk d + uptoBulkAll r
def uptoBulkEntries {H : Type} : List (Lit × DataW H) → Nat
  | [] => 0
  | x :: r => uptoBulkEntry x + uptoBulkEntries r
def uptoBulkEntry {H : Type} : Lit × DataW H → Nat
  | (.string bytes, d) => bytes.length + uptoBulk d + 1
  | (_, d) => uptoBulk d + 1
 end
def uptoSmall : (H : Type) → List (DataW H) → Bool := fun _ ds => decide (uptoBulkAll ds ≤ 1048576)
def OpenSpec.upto (s : _root_.Go.ChangeSpec) : _root_.Go.OpenSpec := { _root_.Go.OpenSpec.ofChange s with cond := some uptoSmall }

/-- 'crossbucklaw19.RingPut', WHERE WHAT IT READS IS OF BULK AT MOST 1048576: true; the input reads as it did. -/
def ringPutUptoRow : OpenClaim := { program := "ytbnbakienajhmaa", sum := "96179228e86ecfc5d274d2f016989ac85ba4a0f6d5c891f57964273eae099210", func := "crossbuck/crossbucklaw19.RingPut", spec := "ringPut", unfollowed := true, recurses := true, apart := false, narrowed := true }
def RingPutUptoSaid : Prop := ringPutUptoRow.holds Try.pinned (OpenSpec.upto ringPutSpec)

/-- 'crossbucklaw19.RingMay', WHERE WHAT IT READS IS OF BULK AT MOST 1048576: true; the input reads as it did. -/
def ringMayUptoRow : OpenClaim := { program := "ytbnbakienajhmaa", sum := "96179228e86ecfc5d274d2f016989ac85ba4a0f6d5c891f57964273eae099210", func := "crossbuck/crossbucklaw19.RingMay", spec := "ringMay", unfollowed := true, recurses := true, apart := false, narrowed := true }
def RingMayUptoSaid : Prop := ringMayUptoRow.holds Try.pinned (OpenSpec.upto ringMaySpec)

/-- 'crossbucklaw19.RingOnce', WHERE WHAT IT READS IS OF BULK AT MOST 1048576: true; the input reads as it did. -/
def ringOnceUptoRow : OpenClaim := { program := "ytbnbakienajhmaa", sum := "96179228e86ecfc5d274d2f016989ac85ba4a0f6d5c891f57964273eae099210", func := "crossbuck/crossbucklaw19.RingOnce", spec := "ringOnce", unfollowed := true, recurses := true, apart := false, narrowed := true }
def RingOnceUptoSaid : Prop := ringOnceUptoRow.holds Try.pinned (OpenSpec.upto ringOnceSpec)

/-- 'crossbucklaw19.RingServes', WHERE WHAT IT READS IS OF BULK AT MOST 1048576: true; the input reads as it did. -/
def ringServesUptoRow : OpenClaim := { program := "ytbnbakienajhmaa", sum := "96179228e86ecfc5d274d2f016989ac85ba4a0f6d5c891f57964273eae099210", func := "crossbuck/crossbucklaw19.RingServes", spec := "ringServes", unfollowed := true, recurses := true, apart := false, narrowed := true }
def RingServesUptoSaid : Prop := ringServesUptoRow.holds Try.pinned (OpenSpec.upto ringServesSpec)

end Rows
end Go.Proofs.Ytbnbakienajhmaa
