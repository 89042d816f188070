/-
  No cell of these rows narrows 'for every input' (looked for: loops, veiled, ifaces, maps, wideKeys, modest, calm, conditions, laid).
  DERIVED. THE GIVEN ROWS OF THIS SEAT. 7 by the template 'for every input the law returns true; each argument reads behind the call as it read before'; 0 by the template 'total and deterministic' (their statements: YthachclpelhaiaaTotals.lean).
  GIVEN WITH THE SEED: the statements are not yours to turn. If you find one false, say at which input.
  Laid BY PROGRAM, IN A SANDBOX (cutbox-rows.mjs): the forced cells as the released guide's own fill.sh prints them over the translation f0343dc32e5a8d22… (all of the seat's roots in one cut). By AI agents, Wed Nov 11 2026. No macro, syntax, notation, axiom, sorry.
-/
import Derived.Test.YthachclpelhaiaaChecked
import GoSem.Claim
import GoSem.ClaimJoined
import GoSem.ClaimMapViews
import Derived.JoinedTies
import Derived.KernelRfl
namespace Go.Proofs.Ythachclpelhaiaa
/- THE CELL 'sum', in the pinned program and in every row, IS THE sha256 OF THE DUMP (.gsa) THAT YthachclpelhaiaaProg.lean LOADS. Nothing in Lean hashes anything: it is a label: what it is worth is what the hold of that sum in a sandbox is worth. -/
noncomputable def Try.pinned : Pinned := { name := "ythachclpelhaiaa", sum := "f0343dc32e5a8d22489815c8ab2fee61257b534aeef8c743a32ea642d0a75142", checked := Try.checked }
namespace Rows
def none {H : Type} : Left H := { results := [], args := [] }

/-- 'taffraillaw15.MsgOrder': WHATEVER THE INPUT: true; the input reads as it did. -/
def msgOrderSpec : ChangeSpec := { name := "msgOrder", fn := fun _ => fun
  | [d1, d2] => { results := [.lit (.bool true)], args := [d1, d2] }
  | _ => none }
def msgOrderRow : OpenClaim := { program := "ythachclpelhaiaa", sum := "f0343dc32e5a8d22489815c8ab2fee61257b534aeef8c743a32ea642d0a75142", func := "taffrail/taffraillaw15.MsgOrder", spec := "msgOrder", unfollowed := true, recurses := true, apart := false }
def MsgOrderSaid : Prop := msgOrderRow.holds Try.pinned (OpenSpec.ofChange msgOrderSpec)

/-- ITS FALSE NEIGHBOUR: 'it returns false'. Refute it at one input. -/
def msgOrderWrong : ChangeSpec := { name := "msgOrder", fn := fun _ => fun
  | [d1, d2] => { results := [.lit (.bool false)], args := [d1, d2] }
  | _ => none }
def MsgOrderWrongFalsely : Prop := msgOrderRow.holds Try.pinned (OpenSpec.ofChange msgOrderWrong)

/-- 'taffraillaw15.MsgLeast': WHATEVER THE INPUT: true; the input reads as it did. -/
def msgLeastSpec : ChangeSpec := { name := "msgLeast", fn := fun _ => fun
  | [d1, d2] => { results := [.lit (.bool true)], args := [d1, d2] }
  | _ => none }
def msgLeastRow : OpenClaim := { program := "ythachclpelhaiaa", sum := "f0343dc32e5a8d22489815c8ab2fee61257b534aeef8c743a32ea642d0a75142", func := "taffrail/taffraillaw15.MsgLeast", spec := "msgLeast", unfollowed := true, recurses := true, apart := false }
def MsgLeastSaid : Prop := msgLeastRow.holds Try.pinned (OpenSpec.ofChange msgLeastSpec)

/-- ITS FALSE NEIGHBOUR: 'it returns false'. Refute it at one input. -/
def msgLeastWrong : ChangeSpec := { name := "msgLeast", fn := fun _ => fun
  | [d1, d2] => { results := [.lit (.bool false)], args := [d1, d2] }
  | _ => none }
def MsgLeastWrongFalsely : Prop := msgLeastRow.holds Try.pinned (OpenSpec.ofChange msgLeastWrong)

/-- 'taffraillaw15.MsgCuts': WHATEVER THE INPUT: true; the input reads as it did. -/
def msgCutsSpec : ChangeSpec := { name := "msgCuts", fn := fun _ => fun
  | [d1, d2, d3] => { results := [.lit (.bool true)], args := [d1, d2, d3] }
  | _ => none }
def msgCutsRow : OpenClaim := { program := "ythachclpelhaiaa", sum := "f0343dc32e5a8d22489815c8ab2fee61257b534aeef8c743a32ea642d0a75142", func := "taffrail/taffraillaw15.MsgCuts", spec := "msgCuts", unfollowed := true, recurses := true, apart := false }
def MsgCutsSaid : Prop := msgCutsRow.holds Try.pinned (OpenSpec.ofChange msgCutsSpec)

/-- ITS FALSE NEIGHBOUR: 'it returns false'. Refute it at one input. -/
def msgCutsWrong : ChangeSpec := { name := "msgCuts", fn := fun _ => fun
  | [d1, d2, d3] => { results := [.lit (.bool false)], args := [d1, d2, d3] }
  | _ => none }
def MsgCutsWrongFalsely : Prop := msgCutsRow.holds Try.pinned (OpenSpec.ofChange msgCutsWrong)

/-- 'taffraillaw15.MsgOwn': WHATEVER THE INPUT: true; the input reads as it did. -/
def msgOwnSpec : ChangeSpec := { name := "msgOwn", fn := fun _ => fun
  | [d1, d2, d3] => { results := [.lit (.bool true)], args := [d1, d2, d3] }
  | _ => none }
def msgOwnRow : OpenClaim := { program := "ythachclpelhaiaa", sum := "f0343dc32e5a8d22489815c8ab2fee61257b534aeef8c743a32ea642d0a75142", func := "taffrail/taffraillaw15.MsgOwn", spec := "msgOwn", unfollowed := true, recurses := true, apart := false }
def MsgOwnSaid : Prop := msgOwnRow.holds Try.pinned (OpenSpec.ofChange msgOwnSpec)

/-- ITS FALSE NEIGHBOUR: 'it returns false'. Refute it at one input. -/
def msgOwnWrong : ChangeSpec := { name := "msgOwn", fn := fun _ => fun
  | [d1, d2, d3] => { results := [.lit (.bool false)], args := [d1, d2, d3] }
  | _ => none }
def MsgOwnWrongFalsely : Prop := msgOwnRow.holds Try.pinned (OpenSpec.ofChange msgOwnWrong)

/-- 'taffraillaw15.MsgFull': WHATEVER THE INPUT: true; the input reads as it did. -/
def msgFullSpec : ChangeSpec := { name := "msgFull", fn := fun _ => fun
  | [d] => { results := [.lit (.bool true)], args := [d] }
  | _ => none }
def msgFullRow : OpenClaim := { program := "ythachclpelhaiaa", sum := "f0343dc32e5a8d22489815c8ab2fee61257b534aeef8c743a32ea642d0a75142", func := "taffrail/taffraillaw15.MsgFull", spec := "msgFull", unfollowed := true, recurses := true, apart := false }
def MsgFullSaid : Prop := msgFullRow.holds Try.pinned (OpenSpec.ofChange msgFullSpec)

/-- ITS FALSE NEIGHBOUR: 'it returns false'. Refute it at one input. -/
def msgFullWrong : ChangeSpec := { name := "msgFull", fn := fun _ => fun
  | [d] => { results := [.lit (.bool false)], args := [d] }
  | _ => none }
def MsgFullWrongFalsely : Prop := msgFullRow.holds Try.pinned (OpenSpec.ofChange msgFullWrong)

/-- 'taffraillaw15.MsgDoes': WHATEVER THE INPUT: true; the input reads as it did. -/
def msgDoesSpec : ChangeSpec := { name := "msgDoes", fn := fun _ => fun
  | [d1, d2, d3, d4, d5] => { results := [.lit (.bool true)], args := [d1, d2, d3, d4, d5] }
  | _ => none }
def msgDoesRow : OpenClaim := { program := "ythachclpelhaiaa", sum := "f0343dc32e5a8d22489815c8ab2fee61257b534aeef8c743a32ea642d0a75142", func := "taffrail/taffraillaw15.MsgDoes", spec := "msgDoes", unfollowed := true, recurses := true, apart := false }
def MsgDoesSaid : Prop := msgDoesRow.holds Try.pinned (OpenSpec.ofChange msgDoesSpec)

/-- ITS FALSE NEIGHBOUR: 'it returns false'. Refute it at one input. -/
def msgDoesWrong : ChangeSpec := { name := "msgDoes", fn := fun _ => fun
  | [d1, d2, d3, d4, d5] => { results := [.lit (.bool false)], args := [d1, d2, d3, d4, d5] }
  | _ => none }
def MsgDoesWrongFalsely : Prop := msgDoesRow.holds Try.pinned (OpenSpec.ofChange msgDoesWrong)

/-- 'taffraillaw15.MsgRoom': WHATEVER THE INPUT: true; the input reads as it did. -/
def msgRoomSpec : ChangeSpec := { name := "msgRoom", fn := fun _ => fun
  | [d1, d2, d3] => { results := [.lit (.bool true)], args := [d1, d2, d3] }
  | _ => none }
def msgRoomRow : OpenClaim := { program := "ythachclpelhaiaa", sum := "f0343dc32e5a8d22489815c8ab2fee61257b534aeef8c743a32ea642d0a75142", func := "taffrail/taffraillaw15.MsgRoom", spec := "msgRoom", unfollowed := true, recurses := true, apart := false }
def MsgRoomSaid : Prop := msgRoomRow.holds Try.pinned (OpenSpec.ofChange msgRoomSpec)

/-- ITS FALSE NEIGHBOUR: 'it returns false'. Refute it at one input. -/
def msgRoomWrong : ChangeSpec := { name := "msgRoom", fn := fun _ => fun
  | [d1, d2, d3] => { results := [.lit (.bool false)], args := [d1, d2, d3] }
  | _ => none }
def MsgRoomWrongFalsely : Prop := msgRoomRow.holds Try.pinned (OpenSpec.ofChange msgRoomWrong)

/- THE SECOND FORM. 'bulk': how many values and letters a reading holds, each counted each time it is reached (what is shared counts as often as it is met; a slice's spare places count too). A statement '..UptoSaid' is the law's where the arguments, and the package variables that the reading takes, are together of bulk at most 1048576: NARROWER than '..Said'. Prove '..Said' where nothing that the law and all that it calls make is longer than what came in: it says more and counts as full. Else prove '..UptoSaid'. A law counts once. -/
mutual
def uptoBulk {H : Type} : DataW H → Nat
  | .lit (.string bytes) => bytes.length + 1
  | .lit _ => 1
  | .nil => 1
  | .ptr d => uptoBulk d + 1
  | .slice elems spare => uptoBulkAll elems + uptoBulkAll spare + 1
  | .agg parts => uptoBulkAll parts + 1
  | .iface _ d => uptoBulk d + 1
  | .map entries => uptoBulkEntries entries + 1
  | .held _ => 1
def uptoBulkAll {H : Type} : List (DataW H) → Nat
  | [] => 0
  | d :: r => uptoBulk d + uptoBulkAll r
def uptoBulkEntries {H : Type} : List (Lit × DataW H) → Nat
  | [] => 0
  | x :: r => uptoBulkEntry x + uptoBulkEntries r
def uptoBulkEntry {H : Type} : Lit × DataW H → Nat
  | (.string bytes, d) => bytes.length + uptoBulk d + 1
  | (_, d) => uptoBulk d + 1
 end
def uptoSmall : (H : Type) → List (DataW H) → Bool := fun _ ds => decide (uptoBulkAll ds ≤ 1048576)
def OpenSpec.upto (s : _root_.Go.ChangeSpec) : _root_.Go.OpenSpec := { _root_.Go.OpenSpec.ofChange s with cond := some uptoSmall }

/-- 'taffraillaw15.MsgOrder', WHERE WHAT IT READS IS OF BULK AT MOST 1048576: true; the input reads as it did. -/
def msgOrderUptoRow : OpenClaim := { program := "ythachclpelhaiaa", sum := "f0343dc32e5a8d22489815c8ab2fee61257b534aeef8c743a32ea642d0a75142", func := "taffrail/taffraillaw15.MsgOrder", spec := "msgOrder", unfollowed := true, recurses := true, apart := false, narrowed := true }
def MsgOrderUptoSaid : Prop := msgOrderUptoRow.holds Try.pinned (OpenSpec.upto msgOrderSpec)

/-- 'taffraillaw15.MsgLeast', WHERE WHAT IT READS IS OF BULK AT MOST 1048576: true; the input reads as it did. -/
def msgLeastUptoRow : OpenClaim := { program := "ythachclpelhaiaa", sum := "f0343dc32e5a8d22489815c8ab2fee61257b534aeef8c743a32ea642d0a75142", func := "taffrail/taffraillaw15.MsgLeast", spec := "msgLeast", unfollowed := true, recurses := true, apart := false, narrowed := true }
def MsgLeastUptoSaid : Prop := msgLeastUptoRow.holds Try.pinned (OpenSpec.upto msgLeastSpec)

/-- 'taffraillaw15.MsgCuts', WHERE WHAT IT READS IS OF BULK AT MOST 1048576: true; the input reads as it did. -/
def msgCutsUptoRow : OpenClaim := { program := "ythachclpelhaiaa", sum := "f0343dc32e5a8d22489815c8ab2fee61257b534aeef8c743a32ea642d0a75142", func := "taffrail/taffraillaw15.MsgCuts", spec := "msgCuts", unfollowed := true, recurses := true, apart := false, narrowed := true }
def MsgCutsUptoSaid : Prop := msgCutsUptoRow.holds Try.pinned (OpenSpec.upto msgCutsSpec)

/-- 'taffraillaw15.MsgOwn', WHERE WHAT IT READS IS OF BULK AT MOST 1048576: true; the input reads as it did. -/
def msgOwnUptoRow : OpenClaim := { program := "ythachclpelhaiaa", sum := "f0343dc32e5a8d22489815c8ab2fee61257b534aeef8c743a32ea642d0a75142", func := "taffrail/taffraillaw15.MsgOwn", spec := "msgOwn", unfollowed := true, recurses := true, apart := false, narrowed := true }
def MsgOwnUptoSaid : Prop := msgOwnUptoRow.holds Try.pinned (OpenSpec.upto msgOwnSpec)

/-- 'taffraillaw15.MsgFull', WHERE WHAT IT READS IS OF BULK AT MOST 1048576: true; the input reads as it did. -/
def msgFullUptoRow : OpenClaim := { program := "ythachclpelhaiaa", sum := "f0343dc32e5a8d22489815c8ab2fee61257b534aeef8c743a32ea642d0a75142", func := "taffrail/taffraillaw15.MsgFull", spec := "msgFull", unfollowed := true, recurses := true, apart := false, narrowed := true }
def MsgFullUptoSaid : Prop := msgFullUptoRow.holds Try.pinned (OpenSpec.upto msgFullSpec)

/-- 'taffraillaw15.MsgDoes', WHERE WHAT IT READS IS OF BULK AT MOST 1048576: true; the input reads as it did. -/
def msgDoesUptoRow : OpenClaim := { program := "ythachclpelhaiaa", sum := "f0343dc32e5a8d22489815c8ab2fee61257b534aeef8c743a32ea642d0a75142", func := "taffrail/taffraillaw15.MsgDoes", spec := "msgDoes", unfollowed := true, recurses := true, apart := false, narrowed := true }
def MsgDoesUptoSaid : Prop := msgDoesUptoRow.holds Try.pinned (OpenSpec.upto msgDoesSpec)

/-- 'taffraillaw15.MsgRoom', WHERE WHAT IT READS IS OF BULK AT MOST 1048576: true; the input reads as it did. -/
def msgRoomUptoRow : OpenClaim := { program := "ythachclpelhaiaa", sum := "f0343dc32e5a8d22489815c8ab2fee61257b534aeef8c743a32ea642d0a75142", func := "taffrail/taffraillaw15.MsgRoom", spec := "msgRoom", unfollowed := true, recurses := true, apart := false, narrowed := true }
def MsgRoomUptoSaid : Prop := msgRoomUptoRow.holds Try.pinned (OpenSpec.upto msgRoomSpec)

end Rows
end Go.Proofs.Ythachclpelhaiaa
