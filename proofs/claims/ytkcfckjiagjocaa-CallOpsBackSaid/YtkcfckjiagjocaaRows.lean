/-
  No cell of these rows narrows 'for every input' (looked for: loops, veiled, ifaces, maps, wideKeys, modest, calm, conditions, laid).
  DERIVED. THE GIVEN ROWS OF THIS SEAT. 6 by the template 'for every input the law returns true; each argument reads behind the call as it read before'; 0 by the template 'total and deterministic' (their statements: YtkcfckjiagjocaaTotals.lean).
  GIVEN WITH THE SEED: the statements are not yours to turn. If you find one false, say at which input.
  Laid BY PROGRAM, IN A SANDBOX (cutbox-rows.mjs): the forced cells as the released guide's own fill.sh prints them over the translation ea468eed43590b8b… (all of the seat's roots in one cut). By AI agents, Wed Nov 11 2026. No macro, syntax, notation, axiom, sorry.
-/
import Derived.Test.YtkcfckjiagjocaaChecked
import GoSem.Claim
import GoSem.ClaimJoined
import GoSem.ClaimMapViews
import Derived.JoinedTies
import Derived.KernelRfl
namespace Go.Proofs.Ytkcfckjiagjocaa
/- THE CELL 'sum', in the pinned program and in every row, IS THE sha256 OF THE DUMP (.gsa) THAT YtkcfckjiagjocaaProg.lean LOADS. Nothing in Lean hashes anything: it is a label: what it is worth is what the hold of that sum in a sandbox is worth. -/
noncomputable def Try.pinned : Pinned := { name := "ytkcfckjiagjocaa", sum := "ea468eed43590b8bdbd99c7104e7b4eb1832138eeb51a04ea4cc933d419ff35b", checked := Try.checked }
namespace Rows
def none {H : Type} : Left H := { results := [], args := [] }

/-- 'taffraillaw17.CallMakes': WHATEVER THE INPUT: true; the input reads as it did. -/
def callMakesSpec : ChangeSpec := { name := "callMakes", fn := fun _ => fun
  | [d1, d2] => { results := [.lit (.bool true)], args := [d1, d2] }
  | _ => none }
def callMakesRow : OpenClaim := { program := "ytkcfckjiagjocaa", sum := "ea468eed43590b8bdbd99c7104e7b4eb1832138eeb51a04ea4cc933d419ff35b", func := "taffrail/taffraillaw17.CallMakes", spec := "callMakes", inPlace := ["internal/abi.NoEscape"], apart := false }
def CallMakesSaid : Prop := callMakesRow.holds Try.pinned (OpenSpec.ofChange callMakesSpec)

/-- ITS FALSE NEIGHBOUR: 'it returns false'. Refute it at one input. -/
def callMakesWrong : ChangeSpec := { name := "callMakes", fn := fun _ => fun
  | [d1, d2] => { results := [.lit (.bool false)], args := [d1, d2] }
  | _ => none }
def CallMakesWrongFalsely : Prop := callMakesRow.holds Try.pinned (OpenSpec.ofChange callMakesWrong)

/-- 'taffraillaw17.CallNames': WHATEVER THE INPUT: true; the input reads as it did. -/
def callNamesSpec : ChangeSpec := { name := "callNames", fn := fun _ => fun
  | [d1, d2] => { results := [.lit (.bool true)], args := [d1, d2] }
  | _ => none }
def callNamesRow : OpenClaim := { program := "ytkcfckjiagjocaa", sum := "ea468eed43590b8bdbd99c7104e7b4eb1832138eeb51a04ea4cc933d419ff35b", func := "taffrail/taffraillaw17.CallNames", spec := "callNames", inPlace := ["internal/abi.NoEscape"], apart := false }
def CallNamesSaid : Prop := callNamesRow.holds Try.pinned (OpenSpec.ofChange callNamesSpec)

/-- ITS FALSE NEIGHBOUR: 'it returns false'. Refute it at one input. -/
def callNamesWrong : ChangeSpec := { name := "callNames", fn := fun _ => fun
  | [d1, d2] => { results := [.lit (.bool false)], args := [d1, d2] }
  | _ => none }
def CallNamesWrongFalsely : Prop := callNamesRow.holds Try.pinned (OpenSpec.ofChange callNamesWrong)

/-- 'taffraillaw17.CallBack': WHATEVER THE INPUT: true; the input reads as it did. -/
def callBackSpec : ChangeSpec := { name := "callBack", fn := fun _ => fun
  | [d1, d2] => { results := [.lit (.bool true)], args := [d1, d2] }
  | _ => none }
def callBackRow : OpenClaim := { program := "ytkcfckjiagjocaa", sum := "ea468eed43590b8bdbd99c7104e7b4eb1832138eeb51a04ea4cc933d419ff35b", func := "taffrail/taffraillaw17.CallBack", spec := "callBack", inPlace := ["internal/abi.NoEscape"], apart := false }
def CallBackSaid : Prop := callBackRow.holds Try.pinned (OpenSpec.ofChange callBackSpec)

/-- ITS FALSE NEIGHBOUR: 'it returns false'. Refute it at one input. -/
def callBackWrong : ChangeSpec := { name := "callBack", fn := fun _ => fun
  | [d1, d2] => { results := [.lit (.bool false)], args := [d1, d2] }
  | _ => none }
def CallBackWrongFalsely : Prop := callBackRow.holds Try.pinned (OpenSpec.ofChange callBackWrong)

/-- 'taffraillaw17.CallSizes': WHATEVER THE INPUT: true; the input reads as it did. -/
def callSizesSpec : ChangeSpec := { name := "callSizes", fn := fun _ => fun
  | [d1, d2] => { results := [.lit (.bool true)], args := [d1, d2] }
  | _ => none }
def callSizesRow : OpenClaim := { program := "ytkcfckjiagjocaa", sum := "ea468eed43590b8bdbd99c7104e7b4eb1832138eeb51a04ea4cc933d419ff35b", func := "taffrail/taffraillaw17.CallSizes", spec := "callSizes", inPlace := ["internal/abi.NoEscape"], apart := false }
def CallSizesSaid : Prop := callSizesRow.holds Try.pinned (OpenSpec.ofChange callSizesSpec)

/-- ITS FALSE NEIGHBOUR: 'it returns false'. Refute it at one input. -/
def callSizesWrong : ChangeSpec := { name := "callSizes", fn := fun _ => fun
  | [d1, d2] => { results := [.lit (.bool false)], args := [d1, d2] }
  | _ => none }
def CallSizesWrongFalsely : Prop := callSizesRow.holds Try.pinned (OpenSpec.ofChange callSizesWrong)

/-- 'taffraillaw17.CallOps': WHATEVER THE INPUT: true; the input reads as it did. -/
def callOpsSpec : ChangeSpec := { name := "callOps", fn := fun _ => fun
  | [d1, d2] => { results := [.lit (.bool true)], args := [d1, d2] }
  | _ => none }
def callOpsRow : OpenClaim := { program := "ytkcfckjiagjocaa", sum := "ea468eed43590b8bdbd99c7104e7b4eb1832138eeb51a04ea4cc933d419ff35b", func := "taffrail/taffraillaw17.CallOps", spec := "callOps", inPlace := ["internal/abi.NoEscape"], unfollowed := true, recurses := true, apart := false }
def CallOpsSaid : Prop := callOpsRow.holds Try.pinned (OpenSpec.ofChange callOpsSpec)

/-- ITS FALSE NEIGHBOUR: 'it returns false'. Refute it at one input. -/
def callOpsWrong : ChangeSpec := { name := "callOps", fn := fun _ => fun
  | [d1, d2] => { results := [.lit (.bool false)], args := [d1, d2] }
  | _ => none }
def CallOpsWrongFalsely : Prop := callOpsRow.holds Try.pinned (OpenSpec.ofChange callOpsWrong)

/-- 'taffraillaw17.CallOpsBack': WHATEVER THE INPUT: true; the input reads as it did. -/
def callOpsBackSpec : ChangeSpec := { name := "callOpsBack", fn := fun _ => fun
  | [d1, d2] => { results := [.lit (.bool true)], args := [d1, d2] }
  | _ => none }
def callOpsBackRow : OpenClaim := { program := "ytkcfckjiagjocaa", sum := "ea468eed43590b8bdbd99c7104e7b4eb1832138eeb51a04ea4cc933d419ff35b", func := "taffrail/taffraillaw17.CallOpsBack", spec := "callOpsBack", inPlace := ["internal/abi.NoEscape"], unfollowed := true, recurses := true, apart := false }
def CallOpsBackSaid : Prop := callOpsBackRow.holds Try.pinned (OpenSpec.ofChange callOpsBackSpec)

/-- ITS FALSE NEIGHBOUR: 'it returns false'. Refute it at one input. -/
def callOpsBackWrong : ChangeSpec := { name := "callOpsBack", fn := fun _ => fun
  | [d1, d2] => { results := [.lit (.bool false)], args := [d1, d2] }
  | _ => none }
def CallOpsBackWrongFalsely : Prop := callOpsBackRow.holds Try.pinned (OpenSpec.ofChange callOpsBackWrong)

/- THE SECOND FORM. 'bulk': how many values and letters a reading holds, each counted each time it is reached (what is shared counts as often as it is met; a slice's spare places count too). A statement '..UptoSaid' is the law's where the arguments, and the package variables that the reading takes, are together of bulk at most 1048576: NARROWER than '..Said'. Prove '..Said' where nothing that the law and all that it calls make is longer than what came in: it says more and counts as full. Else prove '..UptoSaid'. A law counts once. -/
mutual
def uptoBulk {H : Type} : DataW H → Nat
  | .lit (.string bytes) => bytes.length + 1
  | .lit _ => 1
  | .nil => 1
  | .ptr d => uptoBulk d + 1
  | .slice elems spare => uptoBulkAll elems + uptoBulkAll spare + 1
  | .agg parts => uptoBulkAll parts + 1
  | .iface _ d => uptoBulk d + 1
  | .map entries => uptoBulkEntries entries + 1
  | .held _ => 1
def uptoBulkAll {H : Type} : List (DataW H) → Nat
  | [] => 0
  | d :: r => uptoBulk d + uptoBulkAll r
def uptoBulkEntries {H : Type} : List (Lit × DataW H) → Nat
  | [] => 0
  | x :: r => uptoBulkEntry x + uptoBulkEntries r
def uptoBulkEntry {H : Type} : Lit × DataW H → Nat
  | (.string bytes, d) => bytes.length + uptoBulk d + 1
  | (_, d) => uptoBulk d + 1
 end
def uptoSmall : (H : Type) → List (DataW H) → Bool := fun _ ds => decide (uptoBulkAll ds ≤ 1048576)
def OpenSpec.upto (s : _root_.Go.ChangeSpec) : _root_.Go.OpenSpec := { _root_.Go.OpenSpec.ofChange s with cond := some uptoSmall }

/-- 'taffraillaw17.CallMakes', WHERE WHAT IT READS IS OF BULK AT MOST 1048576: true; the input reads as it did. -/
def callMakesUptoRow : OpenClaim := { program := "ytkcfckjiagjocaa", sum := "ea468eed43590b8bdbd99c7104e7b4eb1832138eeb51a04ea4cc933d419ff35b", func := "taffrail/taffraillaw17.CallMakes", spec := "callMakes", inPlace := ["internal/abi.NoEscape"], apart := false, narrowed := true }
def CallMakesUptoSaid : Prop := callMakesUptoRow.holds Try.pinned (OpenSpec.upto callMakesSpec)

/-- 'taffraillaw17.CallNames', WHERE WHAT IT READS IS OF BULK AT MOST 1048576: true; the input reads as it did. -/
def callNamesUptoRow : OpenClaim := { program := "ytkcfckjiagjocaa", sum := "ea468eed43590b8bdbd99c7104e7b4eb1832138eeb51a04ea4cc933d419ff35b", func := "taffrail/taffraillaw17.CallNames", spec := "callNames", inPlace := ["internal/abi.NoEscape"], apart := false, narrowed := true }
def CallNamesUptoSaid : Prop := callNamesUptoRow.holds Try.pinned (OpenSpec.upto callNamesSpec)

/-- 'taffraillaw17.CallBack', WHERE WHAT IT READS IS OF BULK AT MOST 1048576: true; the input reads as it did. -/
def callBackUptoRow : OpenClaim := { program := "ytkcfckjiagjocaa", sum := "ea468eed43590b8bdbd99c7104e7b4eb1832138eeb51a04ea4cc933d419ff35b", func := "taffrail/taffraillaw17.CallBack", spec := "callBack", inPlace := ["internal/abi.NoEscape"], apart := false, narrowed := true }
def CallBackUptoSaid : Prop := callBackUptoRow.holds Try.pinned (OpenSpec.upto callBackSpec)

/-- 'taffraillaw17.CallSizes', WHERE WHAT IT READS IS OF BULK AT MOST 1048576: true; the input reads as it did. -/
def callSizesUptoRow : OpenClaim := { program := "ytkcfckjiagjocaa", sum := "ea468eed43590b8bdbd99c7104e7b4eb1832138eeb51a04ea4cc933d419ff35b", func := "taffrail/taffraillaw17.CallSizes", spec := "callSizes", inPlace := ["internal/abi.NoEscape"], apart := false, narrowed := true }
def CallSizesUptoSaid : Prop := callSizesUptoRow.holds Try.pinned (OpenSpec.upto callSizesSpec)

/-- 'taffraillaw17.CallOps', WHERE WHAT IT READS IS OF BULK AT MOST 1048576: true; the input reads as it did. -/
def callOpsUptoRow : OpenClaim := { program := "ytkcfckjiagjocaa", sum := "ea468eed43590b8bdbd99c7104e7b4eb1832138eeb51a04ea4cc933d419ff35b", func := "taffrail/taffraillaw17.CallOps", spec := "callOps", inPlace := ["internal/abi.NoEscape"], unfollowed := true, recurses := true, apart := false, narrowed := true }
def CallOpsUptoSaid : Prop := callOpsUptoRow.holds Try.pinned (OpenSpec.upto callOpsSpec)

/-- 'taffraillaw17.CallOpsBack', WHERE WHAT IT READS IS OF BULK AT MOST 1048576: true; the input reads as it did. -/
def callOpsBackUptoRow : OpenClaim := { program := "ytkcfckjiagjocaa", sum := "ea468eed43590b8bdbd99c7104e7b4eb1832138eeb51a04ea4cc933d419ff35b", func := "taffrail/taffraillaw17.CallOpsBack", spec := "callOpsBack", inPlace := ["internal/abi.NoEscape"], unfollowed := true, recurses := true, apart := false, narrowed := true }
def CallOpsBackUptoSaid : Prop := callOpsBackUptoRow.holds Try.pinned (OpenSpec.upto callOpsBackSpec)

end Rows
end Go.Proofs.Ytkcfckjiagjocaa
