/-
  No cell of these rows narrows 'for every input' (looked for: loops, veiled, ifaces, maps, wideKeys, modest, calm, conditions, laid).
  DERIVED. THE GIVEN ROWS OF THIS SEAT. 6 by the template 'for every input the law returns true; each argument reads behind the call as it read before'; 0 by the template 'total and deterministic' (their statements: YteahdmldipokeaaTotals.lean).
  GIVEN WITH THE SEED: the statements are not yours to turn. If you find one false, say at which input.
  Laid BY PROGRAM, IN A SANDBOX (cutbox-rows.mjs): the forced cells as the released guide's own fill.sh prints them over the translation 91d9a9a477688310… (all of the seat's roots in one cut). By AI agents, Wed Nov 11 2026. No macro, syntax, notation, axiom, sorry.
-/
import Derived.Test.YteahdmldipokeaaChecked
import GoSem.Claim
import GoSem.ClaimJoined
import GoSem.ClaimMapViews
import Derived.JoinedTies
import Derived.KernelRfl
namespace Go.Proofs.Yteahdmldipokeaa
/- THE CELL 'sum', in the pinned program and in every row, IS THE sha256 OF THE DUMP (.gsa) THAT YteahdmldipokeaaProg.lean LOADS. Nothing in Lean hashes anything: it is a label: what it is worth is what the hold of that sum in a sandbox is worth. -/
noncomputable def Try.pinned : Pinned := { name := "yteahdmldipokeaa", sum := "91d9a9a47768831024017c8c48e87b974fb32b77e15a8478b304e2eee22549f7", checked := Try.checked }
namespace Rows
def none {H : Type} : Left H := { results := [], args := [] }

/-- 'taffraillaw16.ShmGoes': WHATEVER THE INPUT: true; the input reads as it did. -/
def shmGoesSpec : ChangeSpec := { name := "shmGoes", fn := fun _ => fun
  | [d1, d2, d3] => { results := [.lit (.bool true)], args := [d1, d2, d3] }
  | _ => none }
def shmGoesRow : OpenClaim := { program := "yteahdmldipokeaa", sum := "91d9a9a47768831024017c8c48e87b974fb32b77e15a8478b304e2eee22549f7", func := "taffrail/taffraillaw16.ShmGoes", spec := "shmGoes", unfollowed := true, recurses := true, apart := false }
def ShmGoesSaid : Prop := shmGoesRow.holds Try.pinned (OpenSpec.ofChange shmGoesSpec)

/-- ITS FALSE NEIGHBOUR: 'it returns false'. Refute it at one input. -/
def shmGoesWrong : ChangeSpec := { name := "shmGoes", fn := fun _ => fun
  | [d1, d2, d3] => { results := [.lit (.bool false)], args := [d1, d2, d3] }
  | _ => none }
def ShmGoesWrongFalsely : Prop := shmGoesRow.holds Try.pinned (OpenSpec.ofChange shmGoesWrong)

/-- 'taffraillaw16.ShmFull': WHATEVER THE INPUT: true; the input reads as it did. -/
def shmFullSpec : ChangeSpec := { name := "shmFull", fn := fun _ => fun
  | [d1, d2, d3] => { results := [.lit (.bool true)], args := [d1, d2, d3] }
  | _ => none }
def shmFullRow : OpenClaim := { program := "yteahdmldipokeaa", sum := "91d9a9a47768831024017c8c48e87b974fb32b77e15a8478b304e2eee22549f7", func := "taffrail/taffraillaw16.ShmFull", spec := "shmFull", unfollowed := true, recurses := true, apart := false }
def ShmFullSaid : Prop := shmFullRow.holds Try.pinned (OpenSpec.ofChange shmFullSpec)

/-- ITS FALSE NEIGHBOUR: 'it returns false'. Refute it at one input. -/
def shmFullWrong : ChangeSpec := { name := "shmFull", fn := fun _ => fun
  | [d1, d2, d3] => { results := [.lit (.bool false)], args := [d1, d2, d3] }
  | _ => none }
def ShmFullWrongFalsely : Prop := shmFullRow.holds Try.pinned (OpenSpec.ofChange shmFullWrong)

/-- 'taffraillaw16.ShmWrong': WHATEVER THE INPUT: true; the input reads as it did. -/
def shmWrongSpec : ChangeSpec := { name := "shmWrong", fn := fun _ => fun
  | [d1, d2] => { results := [.lit (.bool true)], args := [d1, d2] }
  | _ => none }
def shmWrongRow : OpenClaim := { program := "yteahdmldipokeaa", sum := "91d9a9a47768831024017c8c48e87b974fb32b77e15a8478b304e2eee22549f7", func := "taffrail/taffraillaw16.ShmWrong", spec := "shmWrong", unfollowed := true, recurses := true, apart := false }
def ShmWrongSaid : Prop := shmWrongRow.holds Try.pinned (OpenSpec.ofChange shmWrongSpec)

/-- ITS FALSE NEIGHBOUR: 'it returns false'. Refute it at one input. -/
def shmWrongWrong : ChangeSpec := { name := "shmWrong", fn := fun _ => fun
  | [d1, d2] => { results := [.lit (.bool false)], args := [d1, d2] }
  | _ => none }
def ShmWrongWrongFalsely : Prop := shmWrongRow.holds Try.pinned (OpenSpec.ofChange shmWrongWrong)

/-- 'taffraillaw16.ShmOwn': WHATEVER THE INPUT: true; the input reads as it did. -/
def shmOwnSpec : ChangeSpec := { name := "shmOwn", fn := fun _ => fun
  | [d] => { results := [.lit (.bool true)], args := [d] }
  | _ => none }
def shmOwnRow : OpenClaim := { program := "yteahdmldipokeaa", sum := "91d9a9a47768831024017c8c48e87b974fb32b77e15a8478b304e2eee22549f7", func := "taffrail/taffraillaw16.ShmOwn", spec := "shmOwn", unfollowed := true, recurses := true, apart := false }
def ShmOwnSaid : Prop := shmOwnRow.holds Try.pinned (OpenSpec.ofChange shmOwnSpec)

/-- ITS FALSE NEIGHBOUR: 'it returns false'. Refute it at one input. -/
def shmOwnWrong : ChangeSpec := { name := "shmOwn", fn := fun _ => fun
  | [d] => { results := [.lit (.bool false)], args := [d] }
  | _ => none }
def ShmOwnWrongFalsely : Prop := shmOwnRow.holds Try.pinned (OpenSpec.ofChange shmOwnWrong)

/-- 'taffraillaw16.ShmDoes': WHATEVER THE INPUT: true; the input reads as it did. -/
def shmDoesSpec : ChangeSpec := { name := "shmDoes", fn := fun _ => fun
  | [d1, d2] => { results := [.lit (.bool true)], args := [d1, d2] }
  | _ => none }
def shmDoesRow : OpenClaim := { program := "yteahdmldipokeaa", sum := "91d9a9a47768831024017c8c48e87b974fb32b77e15a8478b304e2eee22549f7", func := "taffrail/taffraillaw16.ShmDoes", spec := "shmDoes", unfollowed := true, recurses := true, apart := false }
def ShmDoesSaid : Prop := shmDoesRow.holds Try.pinned (OpenSpec.ofChange shmDoesSpec)

/-- ITS FALSE NEIGHBOUR: 'it returns false'. Refute it at one input. -/
def shmDoesWrong : ChangeSpec := { name := "shmDoes", fn := fun _ => fun
  | [d1, d2] => { results := [.lit (.bool false)], args := [d1, d2] }
  | _ => none }
def ShmDoesWrongFalsely : Prop := shmDoesRow.holds Try.pinned (OpenSpec.ofChange shmDoesWrong)

/-- 'taffraillaw16.ShmSizes': WHATEVER THE INPUT: true; the input reads as it did. -/
def shmSizesSpec : ChangeSpec := { name := "shmSizes", fn := fun _ => fun
  | [d] => { results := [.lit (.bool true)], args := [d] }
  | _ => none }
def shmSizesRow : OpenClaim := { program := "yteahdmldipokeaa", sum := "91d9a9a47768831024017c8c48e87b974fb32b77e15a8478b304e2eee22549f7", func := "taffrail/taffraillaw16.ShmSizes", spec := "shmSizes", unfollowed := true, recurses := true, apart := false }
def ShmSizesSaid : Prop := shmSizesRow.holds Try.pinned (OpenSpec.ofChange shmSizesSpec)

/-- ITS FALSE NEIGHBOUR: 'it returns false'. Refute it at one input. -/
def shmSizesWrong : ChangeSpec := { name := "shmSizes", fn := fun _ => fun
  | [d] => { results := [.lit (.bool false)], args := [d] }
  | _ => none }
def ShmSizesWrongFalsely : Prop := shmSizesRow.holds Try.pinned (OpenSpec.ofChange shmSizesWrong)

/- THE SECOND FORM. 'bulk': how many values and letters a reading holds, each counted each time it is reached (what is shared counts as often as it is met; a slice's spare places count too). A statement '..UptoSaid' is the law's where the arguments, and the package variables that the reading takes, are together of bulk at most 1048576: NARROWER than '..Said'. Prove '..Said' where nothing that the law and all that it calls make is longer than what came in: it says more and counts as full. Else prove '..UptoSaid'. A law counts once. -/
mutual
def uptoBulk {H : Type} : DataW H → Nat
  | .lit (.string bytes) => bytes.length + 1
  | .lit _ => 1
  | .nil => 1
  | .ptr d => uptoBulk d + 1
  | .slice elems spare => uptoBulkAll elems + uptoBulkAll spare + 1
  | .agg parts => uptoBulkAll parts + 1
  | .iface _ d => uptoBulk d + 1
  | .map entries => uptoBulkEntries entries + 1
  | .held _ => 1
def uptoBulkAll {H : Type} : List (DataW H) → Nat
  | [] => 0
  | d :: r => uptoBulk d + uptoBulkAll r
def uptoBulkEntries {H : Type} : List (Lit × DataW H) → Nat
  | [] => 0
  | x :: r => uptoBulkEntry x + uptoBulkEntries r
def uptoBulkEntry {H : Type} : Lit × DataW H → Nat
  | (.string bytes, d) => bytes.length + uptoBulk d + 1
  | (_, d) => uptoBulk d + 1
 end
def uptoSmall : (H : Type) → List (DataW H) → Bool := fun _ ds => decide (uptoBulkAll ds ≤ 1048576)
def OpenSpec.upto (s : _root_.Go.ChangeSpec) : _root_.Go.OpenSpec := { _root_.Go.OpenSpec.ofChange s with cond := some uptoSmall }

/-- 'taffraillaw16.ShmGoes', WHERE WHAT IT READS IS OF BULK AT MOST 1048576: true; the input reads as it did. -/
def shmGoesUptoRow : OpenClaim := { program := "yteahdmldipokeaa", sum := "91d9a9a47768831024017c8c48e87b974fb32b77e15a8478b304e2eee22549f7", func := "taffrail/taffraillaw16.ShmGoes", spec := "shmGoes", unfollowed := true, recurses := true, apart := false, narrowed := true }
def ShmGoesUptoSaid : Prop := shmGoesUptoRow.holds Try.pinned (OpenSpec.upto shmGoesSpec)

/-- 'taffraillaw16.ShmFull', WHERE WHAT IT READS IS OF BULK AT MOST 1048576: true; the input reads as it did. -/
def shmFullUptoRow : OpenClaim := { program := "yteahdmldipokeaa", sum := "91d9a9a47768831024017c8c48e87b974fb32b77e15a8478b304e2eee22549f7", func := "taffrail/taffraillaw16.ShmFull", spec := "shmFull", unfollowed := true, recurses := true, apart := false, narrowed := true }
def ShmFullUptoSaid : Prop := shmFullUptoRow.holds Try.pinned (OpenSpec.upto shmFullSpec)

/-- 'taffraillaw16.ShmWrong', WHERE WHAT IT READS IS OF BULK AT MOST 1048576: true; the input reads as it did. -/
def shmWrongUptoRow : OpenClaim := { program := "yteahdmldipokeaa", sum := "91d9a9a47768831024017c8c48e87b974fb32b77e15a8478b304e2eee22549f7", func := "taffrail/taffraillaw16.ShmWrong", spec := "shmWrong", unfollowed := true, recurses := true, apart := false, narrowed := true }
def ShmWrongUptoSaid : Prop := shmWrongUptoRow.holds Try.pinned (OpenSpec.upto shmWrongSpec)

/-- 'taffraillaw16.ShmOwn', WHERE WHAT IT READS IS OF BULK AT MOST 1048576: true; the input reads as it did. -/
def shmOwnUptoRow : OpenClaim := { program := "yteahdmldipokeaa", sum := "91d9a9a47768831024017c8c48e87b974fb32b77e15a8478b304e2eee22549f7", func := "taffrail/taffraillaw16.ShmOwn", spec := "shmOwn", unfollowed := true, recurses := true, apart := false, narrowed := true }
def ShmOwnUptoSaid : Prop := shmOwnUptoRow.holds Try.pinned (OpenSpec.upto shmOwnSpec)

/-- 'taffraillaw16.ShmDoes', WHERE WHAT IT READS IS OF BULK AT MOST 1048576: true; the input reads as it did. -/
def shmDoesUptoRow : OpenClaim := { program := "yteahdmldipokeaa", sum := "91d9a9a47768831024017c8c48e87b974fb32b77e15a8478b304e2eee22549f7", func := "taffrail/taffraillaw16.ShmDoes", spec := "shmDoes", unfollowed := true, recurses := true, apart := false, narrowed := true }
def ShmDoesUptoSaid : Prop := shmDoesUptoRow.holds Try.pinned (OpenSpec.upto shmDoesSpec)

/-- 'taffraillaw16.ShmSizes', WHERE WHAT IT READS IS OF BULK AT MOST 1048576: true; the input reads as it did. -/
def shmSizesUptoRow : OpenClaim := { program := "yteahdmldipokeaa", sum := "91d9a9a47768831024017c8c48e87b974fb32b77e15a8478b304e2eee22549f7", func := "taffrail/taffraillaw16.ShmSizes", spec := "shmSizes", unfollowed := true, recurses := true, apart := false, narrowed := true }
def ShmSizesUptoSaid : Prop := shmSizesUptoRow.holds Try.pinned (OpenSpec.upto shmSizesSpec)

end Rows
end Go.Proofs.Yteahdmldipokeaa
