/-
  No cell of these rows narrows 'for every input' (looked for: loops, veiled, ifaces, maps, wideKeys, modest, calm, conditions, laid).
  DERIVED. THE GIVEN ROWS OF THIS SEAT. 6 by the template 'for every input the law returns true; each argument reads behind the call as it read before'; 0 by the template 'total and deterministic' (their statements: YtkfpohhlibcliaaTotals.lean).
  GIVEN WITH THE SEED: the statements are not yours to turn. If you find one false, say at which input.
  Laid BY PROGRAM, IN A SANDBOX (cutbox-rows.mjs): the forced cells as the released guide's own fill.sh prints them over the translation f81d4b274c7c97d0… (all of the seat's roots in one cut). By AI agents, Wed Nov 11 2026. No macro, syntax, notation, axiom, sorry.
-/
import Derived.Test.YtkfpohhlibcliaaChecked
import GoSem.Claim
import GoSem.ClaimJoined
import GoSem.ClaimMapViews
import Derived.JoinedTies
import Derived.KernelRfl
namespace Go.Proofs.Ytkfpohhlibcliaa
/- THE CELL 'sum', in the pinned program and in every row, IS THE sha256 OF THE DUMP (.gsa) THAT YtkfpohhlibcliaaProg.lean LOADS. Nothing in Lean hashes anything: it is a label: what it is worth is what the hold of that sum in a sandbox is worth. -/
noncomputable def Try.pinned : Pinned := { name := "ytkfpohhlibcliaa", sum := "f81d4b274c7c97d08cde81f8a0698d1a7c39c767882c337ce6a821c0105cdf27", checked := Try.checked }
namespace Rows
def none {H : Type} : Left H := { results := [], args := [] }

/-- 'taffraillaw07.QueueTexts': WHATEVER THE INPUT: true; the input reads as it did. -/
def queueTextsSpec : ChangeSpec := { name := "queueTexts", fn := fun _ => fun
  | [d] => { results := [.lit (.bool true)], args := [d] }
  | _ => none }
def queueTextsRow : OpenClaim := { program := "ytkfpohhlibcliaa", sum := "f81d4b274c7c97d08cde81f8a0698d1a7c39c767882c337ce6a821c0105cdf27", func := "taffrail/taffraillaw07.QueueTexts", spec := "queueTexts", unfollowed := true, recurses := true, apart := false }
def QueueTextsSaid : Prop := queueTextsRow.holds Try.pinned (OpenSpec.ofChange queueTextsSpec)

/-- ITS FALSE NEIGHBOUR: 'it returns false'. Refute it at one input. -/
def queueTextsWrong : ChangeSpec := { name := "queueTexts", fn := fun _ => fun
  | [d] => { results := [.lit (.bool false)], args := [d] }
  | _ => none }
def QueueTextsWrongFalsely : Prop := queueTextsRow.holds Try.pinned (OpenSpec.ofChange queueTextsWrong)

/-- 'taffraillaw07.QueueOrder': WHATEVER THE INPUT: true; the input reads as it did. -/
def queueOrderSpec : ChangeSpec := { name := "queueOrder", fn := fun _ => fun
  | [d1, d2] => { results := [.lit (.bool true)], args := [d1, d2] }
  | _ => none }
def queueOrderRow : OpenClaim := { program := "ytkfpohhlibcliaa", sum := "f81d4b274c7c97d08cde81f8a0698d1a7c39c767882c337ce6a821c0105cdf27", func := "taffrail/taffraillaw07.QueueOrder", spec := "queueOrder", unfollowed := true, recurses := true, apart := false }
def QueueOrderSaid : Prop := queueOrderRow.holds Try.pinned (OpenSpec.ofChange queueOrderSpec)

/-- ITS FALSE NEIGHBOUR: 'it returns false'. Refute it at one input. -/
def queueOrderWrong : ChangeSpec := { name := "queueOrder", fn := fun _ => fun
  | [d1, d2] => { results := [.lit (.bool false)], args := [d1, d2] }
  | _ => none }
def QueueOrderWrongFalsely : Prop := queueOrderRow.holds Try.pinned (OpenSpec.ofChange queueOrderWrong)

/-- 'taffraillaw07.QueueOwn': WHATEVER THE INPUT: true; the input reads as it did. -/
def queueOwnSpec : ChangeSpec := { name := "queueOwn", fn := fun _ => fun
  | [d] => { results := [.lit (.bool true)], args := [d] }
  | _ => none }
def queueOwnRow : OpenClaim := { program := "ytkfpohhlibcliaa", sum := "f81d4b274c7c97d08cde81f8a0698d1a7c39c767882c337ce6a821c0105cdf27", func := "taffrail/taffraillaw07.QueueOwn", spec := "queueOwn", unfollowed := true, recurses := true, apart := false }
def QueueOwnSaid : Prop := queueOwnRow.holds Try.pinned (OpenSpec.ofChange queueOwnSpec)

/-- ITS FALSE NEIGHBOUR: 'it returns false'. Refute it at one input. -/
def queueOwnWrong : ChangeSpec := { name := "queueOwn", fn := fun _ => fun
  | [d] => { results := [.lit (.bool false)], args := [d] }
  | _ => none }
def QueueOwnWrongFalsely : Prop := queueOwnRow.holds Try.pinned (OpenSpec.ofChange queueOwnWrong)

/-- 'taffraillaw07.QueueDrops': WHATEVER THE INPUT: true; the input reads as it did. -/
def queueDropsSpec : ChangeSpec := { name := "queueDrops", fn := fun _ => fun
  | [d1, d2] => { results := [.lit (.bool true)], args := [d1, d2] }
  | _ => none }
def queueDropsRow : OpenClaim := { program := "ytkfpohhlibcliaa", sum := "f81d4b274c7c97d08cde81f8a0698d1a7c39c767882c337ce6a821c0105cdf27", func := "taffrail/taffraillaw07.QueueDrops", spec := "queueDrops", unfollowed := true, recurses := true, apart := false }
def QueueDropsSaid : Prop := queueDropsRow.holds Try.pinned (OpenSpec.ofChange queueDropsSpec)

/-- ITS FALSE NEIGHBOUR: 'it returns false'. Refute it at one input. -/
def queueDropsWrong : ChangeSpec := { name := "queueDrops", fn := fun _ => fun
  | [d1, d2] => { results := [.lit (.bool false)], args := [d1, d2] }
  | _ => none }
def QueueDropsWrongFalsely : Prop := queueDropsRow.holds Try.pinned (OpenSpec.ofChange queueDropsWrong)

/-- 'taffraillaw07.QueueDoes': WHATEVER THE INPUT: true; the input reads as it did. -/
def queueDoesSpec : ChangeSpec := { name := "queueDoes", fn := fun _ => fun
  | [d] => { results := [.lit (.bool true)], args := [d] }
  | _ => none }
def queueDoesRow : OpenClaim := { program := "ytkfpohhlibcliaa", sum := "f81d4b274c7c97d08cde81f8a0698d1a7c39c767882c337ce6a821c0105cdf27", func := "taffrail/taffraillaw07.QueueDoes", spec := "queueDoes", unfollowed := true, recurses := true, apart := false }
def QueueDoesSaid : Prop := queueDoesRow.holds Try.pinned (OpenSpec.ofChange queueDoesSpec)

/-- ITS FALSE NEIGHBOUR: 'it returns false'. Refute it at one input. -/
def queueDoesWrong : ChangeSpec := { name := "queueDoes", fn := fun _ => fun
  | [d] => { results := [.lit (.bool false)], args := [d] }
  | _ => none }
def QueueDoesWrongFalsely : Prop := queueDoesRow.holds Try.pinned (OpenSpec.ofChange queueDoesWrong)

/-- 'taffraillaw07.QueueFull': WHATEVER THE INPUT: true; the input reads as it did. -/
def queueFullSpec : ChangeSpec := { name := "queueFull", fn := fun _ => fun
  | [d1, d2] => { results := [.lit (.bool true)], args := [d1, d2] }
  | _ => none }
def queueFullRow : OpenClaim := { program := "ytkfpohhlibcliaa", sum := "f81d4b274c7c97d08cde81f8a0698d1a7c39c767882c337ce6a821c0105cdf27", func := "taffrail/taffraillaw07.QueueFull", spec := "queueFull", unfollowed := true, recurses := true, apart := false }
def QueueFullSaid : Prop := queueFullRow.holds Try.pinned (OpenSpec.ofChange queueFullSpec)

/-- ITS FALSE NEIGHBOUR: 'it returns false'. Refute it at one input. -/
def queueFullWrong : ChangeSpec := { name := "queueFull", fn := fun _ => fun
  | [d1, d2] => { results := [.lit (.bool false)], args := [d1, d2] }
  | _ => none }
def QueueFullWrongFalsely : Prop := queueFullRow.holds Try.pinned (OpenSpec.ofChange queueFullWrong)

/- THE SECOND FORM. 'bulk': how many values and letters a reading holds, each counted each time it is reached (what is shared counts as often as it is met; a slice's spare places count too). A statement '..UptoSaid' is the law's where the arguments, and the package variables that the reading takes, are together of bulk at most 1048576: NARROWER than '..Said'. Prove '..Said' where nothing that the law and all that it calls make is longer than what came in: it says more and counts as full. Else prove '..UptoSaid'. A law counts once. -/
mutual
def uptoBulk {H : Type} : DataW H → Nat
  | .lit (.string bytes) => bytes.length + 1
  | .lit _ => 1
  | .nil => 1
  | .ptr d => uptoBulk d + 1
  | .slice elems spare => uptoBulkAll elems + uptoBulkAll spare + 1
  | .agg parts => uptoBulkAll parts + 1
  | .iface _ d => uptoBulk d + 1
  | .map entries => uptoBulkEntries entries + 1
  | .held _ => 1
def uptoBulkAll {H : Type} : List (DataW H) → Nat
  | [] => 0
  | d :: r => uptoBulk d + uptoBulkAll r
def uptoBulkEntries {H : Type} : List (Lit × DataW H) → Nat
  | [] => 0
  | x :: r => uptoBulkEntry x + uptoBulkEntries r
def uptoBulkEntry {H : Type} : Lit × DataW H → Nat
  | (.string bytes, d) => bytes.length + uptoBulk d + 1
  | (_, d) => uptoBulk d + 1
 end
def uptoSmall : (H : Type) → List (DataW H) → Bool := fun _ ds => decide (uptoBulkAll ds ≤ 1048576)
def OpenSpec.upto (s : _root_.Go.ChangeSpec) : _root_.Go.OpenSpec := { _root_.Go.OpenSpec.ofChange s with cond := some uptoSmall }

/-- 'taffraillaw07.QueueTexts', WHERE WHAT IT READS IS OF BULK AT MOST 1048576: true; the input reads as it did. -/
def queueTextsUptoRow : OpenClaim := { program := "ytkfpohhlibcliaa", sum := "f81d4b274c7c97d08cde81f8a0698d1a7c39c767882c337ce6a821c0105cdf27", func := "taffrail/taffraillaw07.QueueTexts", spec := "queueTexts", unfollowed := true, recurses := true, apart := false, narrowed := true }
def QueueTextsUptoSaid : Prop := queueTextsUptoRow.holds Try.pinned (OpenSpec.upto queueTextsSpec)

/-- 'taffraillaw07.QueueOrder', WHERE WHAT IT READS IS OF BULK AT MOST 1048576: true; the input reads as it did. -/
def queueOrderUptoRow : OpenClaim := { program := "ytkfpohhlibcliaa", sum := "f81d4b274c7c97d08cde81f8a0698d1a7c39c767882c337ce6a821c0105cdf27", func := "taffrail/taffraillaw07.QueueOrder", spec := "queueOrder", unfollowed := true, recurses := true, apart := false, narrowed := true }
def QueueOrderUptoSaid : Prop := queueOrderUptoRow.holds Try.pinned (OpenSpec.upto queueOrderSpec)

/-- 'taffraillaw07.QueueOwn', WHERE WHAT IT READS IS OF BULK AT MOST 1048576: true; the input reads as it did. -/
def queueOwnUptoRow : OpenClaim := { program := "ytkfpohhlibcliaa", sum := "f81d4b274c7c97d08cde81f8a0698d1a7c39c767882c337ce6a821c0105cdf27", func := "taffrail/taffraillaw07.QueueOwn", spec := "queueOwn", unfollowed := true, recurses := true, apart := false, narrowed := true }
def QueueOwnUptoSaid : Prop := queueOwnUptoRow.holds Try.pinned (OpenSpec.upto queueOwnSpec)

/-- 'taffraillaw07.QueueDrops', WHERE WHAT IT READS IS OF BULK AT MOST 1048576: true; the input reads as it did. -/
def queueDropsUptoRow : OpenClaim := { program := "ytkfpohhlibcliaa", sum := "f81d4b274c7c97d08cde81f8a0698d1a7c39c767882c337ce6a821c0105cdf27", func := "taffrail/taffraillaw07.QueueDrops", spec := "queueDrops", unfollowed := true, recurses := true, apart := false, narrowed := true }
def QueueDropsUptoSaid : Prop := queueDropsUptoRow.holds Try.pinned (OpenSpec.upto queueDropsSpec)

/-- 'taffraillaw07.QueueDoes', WHERE WHAT IT READS IS OF BULK AT MOST 1048576: true; the input reads as it did. -/
def queueDoesUptoRow : OpenClaim := { program := "ytkfpohhlibcliaa", sum := "f81d4b274c7c97d08cde81f8a0698d1a7c39c767882c337ce6a821c0105cdf27", func := "taffrail/taffraillaw07.QueueDoes", spec := "queueDoes", unfollowed := true, recurses := true, apart := false, narrowed := true }
def QueueDoesUptoSaid : Prop := queueDoesUptoRow.holds Try.pinned (OpenSpec.upto queueDoesSpec)

/-- 'taffraillaw07.QueueFull', WHERE WHAT IT READS IS OF BULK AT MOST 1048576: true; the input reads as it did. -/
def queueFullUptoRow : OpenClaim := { program := "ytkfpohhlibcliaa", sum := "f81d4b274c7c97d08cde81f8a0698d1a7c39c767882c337ce6a821c0105cdf27", func := "taffrail/taffraillaw07.QueueFull", spec := "queueFull", unfollowed := true, recurses := true, apart := false, narrowed := true }
def QueueFullUptoSaid : Prop := queueFullUptoRow.holds Try.pinned (OpenSpec.upto queueFullSpec)

end Rows
end Go.Proofs.Ytkfpohhlibcliaa
