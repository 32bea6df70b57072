/-
  No cell of these rows narrows 'for every input' (looked for: loops, veiled, ifaces, maps, wideKeys, modest, calm, conditions, laid).
  DERIVED. THE GIVEN ROWS OF THIS SEAT. 5 by the template 'for every input the law returns true; each argument reads behind the call as it read before'; 0 by the template 'total and deterministic' (their statements: YtocjiigpljokmaaTotals.lean).
  GIVEN WITH THE SEED: the statements are not yours to turn. If you find one false, say at which input.
  Laid BY PROGRAM, IN A SANDBOX (cutbox-rows.mjs): the forced cells as the released guide's own fill.sh prints them over the translation 03ed71ddf65b12da… (all of the seat's roots in one cut). By AI agents, Wed Nov 11 2026. No macro, syntax, notation, axiom, sorry.
-/
import Derived.Test.YtocjiigpljokmaaChecked
import GoSem.Claim
import GoSem.ClaimJoined
import GoSem.ClaimMapViews
import Derived.JoinedTies
import Derived.KernelRfl
namespace Go.Proofs.Ytocjiigpljokmaa
/- THE CELL 'sum', in the pinned program and in every row, IS THE sha256 OF THE DUMP (.gsa) THAT YtocjiigpljokmaaProg.lean LOADS. Nothing in Lean hashes anything: it is a label: what it is worth is what the hold of that sum in a sandbox is worth. -/
noncomputable def Try.pinned : Pinned := { name := "ytocjiigpljokmaa", sum := "03ed71ddf65b12da64bff0383c26cb3f6995441310e74f2c3a23ef1c9a4b35dc", checked := Try.checked }
namespace Rows
def none {H : Type} : Left H := { results := [], args := [] }

/-- 'crossbucklaw03.SetOf': WHATEVER THE INPUT: true; the input reads as it did. -/
def setOfSpec : ChangeSpec := { name := "setOf", fn := fun _ => fun
  | [d] => { results := [.lit (.bool true)], args := [d] }
  | _ => none }
def setOfRow : OpenClaim := { program := "ytocjiigpljokmaa", sum := "03ed71ddf65b12da64bff0383c26cb3f6995441310e74f2c3a23ef1c9a4b35dc", func := "crossbuck/crossbucklaw03.SetOf", spec := "setOf", unfollowed := true, recurses := true, apart := false }
def SetOfSaid : Prop := setOfRow.holds Try.pinned (OpenSpec.ofChange setOfSpec)

/-- ITS FALSE NEIGHBOUR: 'it returns false'. Refute it at one input. -/
def setOfWrong : ChangeSpec := { name := "setOf", fn := fun _ => fun
  | [d] => { results := [.lit (.bool false)], args := [d] }
  | _ => none }
def SetOfWrongFalsely : Prop := setOfRow.holds Try.pinned (OpenSpec.ofChange setOfWrong)

/-- 'crossbucklaw03.SetBack': WHATEVER THE INPUT: true; the input reads as it did. -/
def setBackSpec : ChangeSpec := { name := "setBack", fn := fun _ => fun
  | [d1, d2] => { results := [.lit (.bool true)], args := [d1, d2] }
  | _ => none }
def setBackRow : OpenClaim := { program := "ytocjiigpljokmaa", sum := "03ed71ddf65b12da64bff0383c26cb3f6995441310e74f2c3a23ef1c9a4b35dc", func := "crossbuck/crossbucklaw03.SetBack", spec := "setBack", unfollowed := true, recurses := true, apart := false }
def SetBackSaid : Prop := setBackRow.holds Try.pinned (OpenSpec.ofChange setBackSpec)

/-- ITS FALSE NEIGHBOUR: 'it returns false'. Refute it at one input. -/
def setBackWrong : ChangeSpec := { name := "setBack", fn := fun _ => fun
  | [d1, d2] => { results := [.lit (.bool false)], args := [d1, d2] }
  | _ => none }
def SetBackWrongFalsely : Prop := setBackRow.holds Try.pinned (OpenSpec.ofChange setBackWrong)

/-- 'crossbucklaw03.SetLeft': WHATEVER THE INPUT: true; the input reads as it did. -/
def setLeftSpec : ChangeSpec := { name := "setLeft", fn := fun _ => fun
  | [d1, d2] => { results := [.lit (.bool true)], args := [d1, d2] }
  | _ => none }
def setLeftRow : OpenClaim := { program := "ytocjiigpljokmaa", sum := "03ed71ddf65b12da64bff0383c26cb3f6995441310e74f2c3a23ef1c9a4b35dc", func := "crossbuck/crossbucklaw03.SetLeft", spec := "setLeft", unfollowed := true, recurses := true, apart := false }
def SetLeftSaid : Prop := setLeftRow.holds Try.pinned (OpenSpec.ofChange setLeftSpec)

/-- ITS FALSE NEIGHBOUR: 'it returns false'. Refute it at one input. -/
def setLeftWrong : ChangeSpec := { name := "setLeft", fn := fun _ => fun
  | [d1, d2] => { results := [.lit (.bool false)], args := [d1, d2] }
  | _ => none }
def SetLeftWrongFalsely : Prop := setLeftRow.holds Try.pinned (OpenSpec.ofChange setLeftWrong)

/-- 'crossbucklaw03.SetAll': WHATEVER THE INPUT: true; the input reads as it did. -/
def setAllSpec : ChangeSpec := { name := "setAll", fn := fun _ => fun
  | [d1, d2] => { results := [.lit (.bool true)], args := [d1, d2] }
  | _ => none }
def setAllRow : OpenClaim := { program := "ytocjiigpljokmaa", sum := "03ed71ddf65b12da64bff0383c26cb3f6995441310e74f2c3a23ef1c9a4b35dc", func := "crossbuck/crossbucklaw03.SetAll", spec := "setAll", unfollowed := true, recurses := true, apart := false }
def SetAllSaid : Prop := setAllRow.holds Try.pinned (OpenSpec.ofChange setAllSpec)

/-- ITS FALSE NEIGHBOUR: 'it returns false'. Refute it at one input. -/
def setAllWrong : ChangeSpec := { name := "setAll", fn := fun _ => fun
  | [d1, d2] => { results := [.lit (.bool false)], args := [d1, d2] }
  | _ => none }
def SetAllWrongFalsely : Prop := setAllRow.holds Try.pinned (OpenSpec.ofChange setAllWrong)

/-- 'crossbucklaw03.SetTurn': WHATEVER THE INPUT: true; the input reads as it did. -/
def setTurnSpec : ChangeSpec := { name := "setTurn", fn := fun _ => fun
  | [d1, d2, d3] => { results := [.lit (.bool true)], args := [d1, d2, d3] }
  | _ => none }
def setTurnRow : OpenClaim := { program := "ytocjiigpljokmaa", sum := "03ed71ddf65b12da64bff0383c26cb3f6995441310e74f2c3a23ef1c9a4b35dc", func := "crossbuck/crossbucklaw03.SetTurn", spec := "setTurn", unfollowed := true, recurses := true, apart := false }
def SetTurnSaid : Prop := setTurnRow.holds Try.pinned (OpenSpec.ofChange setTurnSpec)

/-- ITS FALSE NEIGHBOUR: 'it returns false'. Refute it at one input. -/
def setTurnWrong : ChangeSpec := { name := "setTurn", fn := fun _ => fun
  | [d1, d2, d3] => { results := [.lit (.bool false)], args := [d1, d2, d3] }
  | _ => none }
def SetTurnWrongFalsely : Prop := setTurnRow.holds Try.pinned (OpenSpec.ofChange setTurnWrong)

/- THE SECOND FORM. 'bulk': how many values and letters a reading holds, each counted each time it is reached (what is shared counts as often as it is met; a slice's spare places count too). A statement '..UptoSaid' is the law's where the arguments, and the package variables that the reading takes, are together of bulk at most 1048576: NARROWER than '..Said'. Prove '..Said' where nothing that the law and all that it calls make is longer than what came in: it says more and counts as full. Else prove '..UptoSaid'. A law counts once. -/
mutual
def uptoBulk {H : Type} : DataW H → Nat
  | .lit (.string bytes) => bytes.length + 1
  | .lit _ => 1
  | .nil => 1
  | .ptr d => uptoBulk d + 1
  | .slice elems spare => uptoBulkAll elems + uptoBulkAll spare + 1
  | .agg parts => uptoBulkAll parts + 1
  | .iface _ d => uptoBulk d + 1
  | .map entries => uptoBulkEntries entries + 1
  | .held _ => 1
def uptoBulkAll {H : Type} : List (DataW H) → Nat
  | [] => 0
  | d :: r => uptoBulk d + uptoBulkAll r
def uptoBulkEntries {H : Type} : List (Lit × DataW H) → Nat
  | [] => 0
  | x :: r => uptoBulkEntry x + uptoBulkEntries r
def uptoBulkEntry {H : Type} : Lit × DataW H → Nat
  | (.string bytes, d) => bytes.length + uptoBulk d + 1
  | (_, d) => uptoBulk d + 1
 end
def uptoSmall : (H : Type) → List (DataW H) → Bool := fun _ ds => decide (uptoBulkAll ds ≤ 1048576)
def OpenSpec.upto (s : _root_.Go.ChangeSpec) : _root_.Go.OpenSpec := { _root_.Go.OpenSpec.ofChange s with cond := some uptoSmall }

/-- 'crossbucklaw03.SetOf', WHERE WHAT IT READS IS OF BULK AT MOST 1048576: true; the input reads as it did. -/
def setOfUptoRow : OpenClaim := { program := "ytocjiigpljokmaa", sum := "03ed71ddf65b12da64bff0383c26cb3f6995441310e74f2c3a23ef1c9a4b35dc", func := "crossbuck/crossbucklaw03.SetOf", spec := "setOf", unfollowed := true, recurses := true, apart := false, narrowed := true }
def SetOfUptoSaid : Prop := setOfUptoRow.holds Try.pinned (OpenSpec.upto setOfSpec)

/-- 'crossbucklaw03.SetBack', WHERE WHAT IT READS IS OF BULK AT MOST 1048576: true; the input reads as it did. -/
def setBackUptoRow : OpenClaim := { program := "ytocjiigpljokmaa", sum := "03ed71ddf65b12da64bff0383c26cb3f6995441310e74f2c3a23ef1c9a4b35dc", func := "crossbuck/crossbucklaw03.SetBack", spec := "setBack", unfollowed := true, recurses := true, apart := false, narrowed := true }
def SetBackUptoSaid : Prop := setBackUptoRow.holds Try.pinned (OpenSpec.upto setBackSpec)

/-- 'crossbucklaw03.SetLeft', WHERE WHAT IT READS IS OF BULK AT MOST 1048576: true; the input reads as it did. -/
def setLeftUptoRow : OpenClaim := { program := "ytocjiigpljokmaa", sum := "03ed71ddf65b12da64bff0383c26cb3f6995441310e74f2c3a23ef1c9a4b35dc", func := "crossbuck/crossbucklaw03.SetLeft", spec := "setLeft", unfollowed := true, recurses := true, apart := false, narrowed := true }
def SetLeftUptoSaid : Prop := setLeftUptoRow.holds Try.pinned (OpenSpec.upto setLeftSpec)

/-- 'crossbucklaw03.SetAll', WHERE WHAT IT READS IS OF BULK AT MOST 1048576: true; the input reads as it did. -/
def setAllUptoRow : OpenClaim := { program := "ytocjiigpljokmaa", sum := "03ed71ddf65b12da64bff0383c26cb3f6995441310e74f2c3a23ef1c9a4b35dc", func := "crossbuck/crossbucklaw03.SetAll", spec := "setAll", unfollowed := true, recurses := true, apart := false, narrowed := true }
def SetAllUptoSaid : Prop := setAllUptoRow.holds Try.pinned (OpenSpec.upto setAllSpec)

/-- 'crossbucklaw03.SetTurn', WHERE WHAT IT READS IS OF BULK AT MOST 1048576: true; the input reads as it did. -/
def setTurnUptoRow : OpenClaim := { program := "ytocjiigpljokmaa", sum := "03ed71ddf65b12da64bff0383c26cb3f6995441310e74f2c3a23ef1c9a4b35dc", func := "crossbuck/crossbucklaw03.SetTurn", spec := "setTurn", unfollowed := true, recurses := true, apart := false, narrowed := true }
def SetTurnUptoSaid : Prop := setTurnUptoRow.holds Try.pinned (OpenSpec.upto setTurnSpec)

end Rows
end Go.Proofs.Ytocjiigpljokmaa
