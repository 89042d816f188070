/-
  No cell of these rows narrows 'for every input' (looked for: loops, veiled, ifaces, maps, wideKeys, modest, calm, conditions, laid).
  DERIVED. THE GIVEN ROWS OF THIS SEAT. 7 by the template 'for every input the law returns true; each argument reads behind the call as it read before'; 0 by the template 'total and deterministic' (their statements: YtkhlfbmjokjhmaaTotals.lean).
  GIVEN WITH THE SEED: the statements are not yours to turn. If you find one false, say at which input.
  Laid BY PROGRAM, IN A SANDBOX (cutbox-rows.mjs): the forced cells as the released guide's own fill.sh prints them over the translation f352e955b4504140… (all of the seat's roots in one cut). By AI agents, Wed Nov 11 2026. No macro, syntax, notation, axiom, sorry.
-/
import Derived.Test.YtkhlfbmjokjhmaaChecked
import GoSem.Claim
import GoSem.ClaimJoined
import GoSem.ClaimMapViews
import Derived.JoinedTies
import Derived.KernelRfl
namespace Go.Proofs.Ytkhlfbmjokjhmaa
/- THE CELL 'sum', in the pinned program and in every row, IS THE sha256 OF THE DUMP (.gsa) THAT YtkhlfbmjokjhmaaProg.lean LOADS. Nothing in Lean hashes anything: it is a label: what it is worth is what the hold of that sum in a sandbox is worth. -/
noncomputable def Try.pinned : Pinned := { name := "ytkhlfbmjokjhmaa", sum := "f352e955b45041404abfdd496a4fe999fb52231be627c543bdaef14cc7179f42", checked := Try.checked }
namespace Rows
def none {H : Type} : Left H := { results := [], args := [] }

/-- 'taffraillaw01.FramesMany': WHATEVER THE INPUT: true; the input reads as it did. -/
def framesManySpec : ChangeSpec := { name := "framesMany", fn := fun _ => fun
  | [d1, d2] => { results := [.lit (.bool true)], args := [d1, d2] }
  | _ => none }
def framesManyRow : OpenClaim := { program := "ytkhlfbmjokjhmaa", sum := "f352e955b45041404abfdd496a4fe999fb52231be627c543bdaef14cc7179f42", func := "taffrail/taffraillaw01.FramesMany", spec := "framesMany", unfollowed := true, recurses := true, apart := false }
def FramesManySaid : Prop := framesManyRow.holds Try.pinned (OpenSpec.ofChange framesManySpec)

/-- ITS FALSE NEIGHBOUR: 'it returns false'. Refute it at one input. -/
def framesManyWrong : ChangeSpec := { name := "framesMany", fn := fun _ => fun
  | [d1, d2] => { results := [.lit (.bool false)], args := [d1, d2] }
  | _ => none }
def FramesManyWrongFalsely : Prop := framesManyRow.holds Try.pinned (OpenSpec.ofChange framesManyWrong)

/-- 'taffraillaw01.FramesFirst': WHATEVER THE INPUT: true; the input reads as it did. -/
def framesFirstSpec : ChangeSpec := { name := "framesFirst", fn := fun _ => fun
  | [d] => { results := [.lit (.bool true)], args := [d] }
  | _ => none }
def framesFirstRow : OpenClaim := { program := "ytkhlfbmjokjhmaa", sum := "f352e955b45041404abfdd496a4fe999fb52231be627c543bdaef14cc7179f42", func := "taffrail/taffraillaw01.FramesFirst", spec := "framesFirst", unfollowed := true, recurses := true, apart := false }
def FramesFirstSaid : Prop := framesFirstRow.holds Try.pinned (OpenSpec.ofChange framesFirstSpec)

/-- ITS FALSE NEIGHBOUR: 'it returns false'. Refute it at one input. -/
def framesFirstWrong : ChangeSpec := { name := "framesFirst", fn := fun _ => fun
  | [d] => { results := [.lit (.bool false)], args := [d] }
  | _ => none }
def FramesFirstWrongFalsely : Prop := framesFirstRow.holds Try.pinned (OpenSpec.ofChange framesFirstWrong)

/-- 'taffraillaw01.FramesKeep': WHATEVER THE INPUT: true; the input reads as it did. -/
def framesKeepSpec : ChangeSpec := { name := "framesKeep", fn := fun _ => fun
  | [d1, d2, d3, d4, d5] => { results := [.lit (.bool true)], args := [d1, d2, d3, d4, d5] }
  | _ => none }
def framesKeepRow : OpenClaim := { program := "ytkhlfbmjokjhmaa", sum := "f352e955b45041404abfdd496a4fe999fb52231be627c543bdaef14cc7179f42", func := "taffrail/taffraillaw01.FramesKeep", spec := "framesKeep", unfollowed := true, recurses := true, apart := false }
def FramesKeepSaid : Prop := framesKeepRow.holds Try.pinned (OpenSpec.ofChange framesKeepSpec)

/-- ITS FALSE NEIGHBOUR: 'it returns false'. Refute it at one input. -/
def framesKeepWrong : ChangeSpec := { name := "framesKeep", fn := fun _ => fun
  | [d1, d2, d3, d4, d5] => { results := [.lit (.bool false)], args := [d1, d2, d3, d4, d5] }
  | _ => none }
def FramesKeepWrongFalsely : Prop := framesKeepRow.holds Try.pinned (OpenSpec.ofChange framesKeepWrong)

/-- 'taffraillaw01.FramesZero': WHATEVER THE INPUT: true; the input reads as it did. -/
def framesZeroSpec : ChangeSpec := { name := "framesZero", fn := fun _ => fun
  | [d1, d2] => { results := [.lit (.bool true)], args := [d1, d2] }
  | _ => none }
def framesZeroRow : OpenClaim := { program := "ytkhlfbmjokjhmaa", sum := "f352e955b45041404abfdd496a4fe999fb52231be627c543bdaef14cc7179f42", func := "taffrail/taffraillaw01.FramesZero", spec := "framesZero", unfollowed := true, recurses := true, apart := false }
def FramesZeroSaid : Prop := framesZeroRow.holds Try.pinned (OpenSpec.ofChange framesZeroSpec)

/-- ITS FALSE NEIGHBOUR: 'it returns false'. Refute it at one input. -/
def framesZeroWrong : ChangeSpec := { name := "framesZero", fn := fun _ => fun
  | [d1, d2] => { results := [.lit (.bool false)], args := [d1, d2] }
  | _ => none }
def FramesZeroWrongFalsely : Prop := framesZeroRow.holds Try.pinned (OpenSpec.ofChange framesZeroWrong)

/-- 'taffraillaw01.FramesCount': WHATEVER THE INPUT: true; the input reads as it did. -/
def framesCountSpec : ChangeSpec := { name := "framesCount", fn := fun _ => fun
  | [d] => { results := [.lit (.bool true)], args := [d] }
  | _ => none }
def framesCountRow : OpenClaim := { program := "ytkhlfbmjokjhmaa", sum := "f352e955b45041404abfdd496a4fe999fb52231be627c543bdaef14cc7179f42", func := "taffrail/taffraillaw01.FramesCount", spec := "framesCount", unfollowed := true, recurses := true, apart := false }
def FramesCountSaid : Prop := framesCountRow.holds Try.pinned (OpenSpec.ofChange framesCountSpec)

/-- ITS FALSE NEIGHBOUR: 'it returns false'. Refute it at one input. -/
def framesCountWrong : ChangeSpec := { name := "framesCount", fn := fun _ => fun
  | [d] => { results := [.lit (.bool false)], args := [d] }
  | _ => none }
def FramesCountWrongFalsely : Prop := framesCountRow.holds Try.pinned (OpenSpec.ofChange framesCountWrong)

/-- 'taffraillaw01.FramesDo': WHATEVER THE INPUT: true; the input reads as it did. -/
def framesDoSpec : ChangeSpec := { name := "framesDo", fn := fun _ => fun
  | [d1, d2] => { results := [.lit (.bool true)], args := [d1, d2] }
  | _ => none }
def framesDoRow : OpenClaim := { program := "ytkhlfbmjokjhmaa", sum := "f352e955b45041404abfdd496a4fe999fb52231be627c543bdaef14cc7179f42", func := "taffrail/taffraillaw01.FramesDo", spec := "framesDo", unfollowed := true, recurses := true, apart := false }
def FramesDoSaid : Prop := framesDoRow.holds Try.pinned (OpenSpec.ofChange framesDoSpec)

/-- ITS FALSE NEIGHBOUR: 'it returns false'. Refute it at one input. -/
def framesDoWrong : ChangeSpec := { name := "framesDo", fn := fun _ => fun
  | [d1, d2] => { results := [.lit (.bool false)], args := [d1, d2] }
  | _ => none }
def FramesDoWrongFalsely : Prop := framesDoRow.holds Try.pinned (OpenSpec.ofChange framesDoWrong)

/-- 'taffraillaw01.FramesNone': WHATEVER THE INPUT: true; the input reads as it did. -/
def framesNoneSpec : ChangeSpec := { name := "framesNone", fn := fun _ => fun
  | [d] => { results := [.lit (.bool true)], args := [d] }
  | _ => none }
def framesNoneRow : OpenClaim := { program := "ytkhlfbmjokjhmaa", sum := "f352e955b45041404abfdd496a4fe999fb52231be627c543bdaef14cc7179f42", func := "taffrail/taffraillaw01.FramesNone", spec := "framesNone", unfollowed := true, recurses := true, apart := false }
def FramesNoneSaid : Prop := framesNoneRow.holds Try.pinned (OpenSpec.ofChange framesNoneSpec)

/-- ITS FALSE NEIGHBOUR: 'it returns false'. Refute it at one input. -/
def framesNoneWrong : ChangeSpec := { name := "framesNone", fn := fun _ => fun
  | [d] => { results := [.lit (.bool false)], args := [d] }
  | _ => none }
def FramesNoneWrongFalsely : Prop := framesNoneRow.holds Try.pinned (OpenSpec.ofChange framesNoneWrong)

/- THE SECOND FORM. 'bulk': how many values and letters a reading holds, each counted each time it is reached (what is shared counts as often as it is met; a slice's spare places count too). A statement '..UptoSaid' is the law's where the arguments, and the package variables that the reading takes, are together of bulk at most 1048576: NARROWER than '..Said'. Prove '..Said' where nothing that the law and all that it calls make is longer than what came in: it says more and counts as full. Else prove '..UptoSaid'. A law counts once. -/
mutual
def uptoBulk {H : Type} : DataW H → Nat
  | .lit (.string bytes) => bytes.length + 1
  | .lit _ => 1
  | .nil => 1
  | .ptr d => uptoBulk d + 1
  | .slice elems spare => uptoBulkAll elems + uptoBulkAll spare + 1
  | .agg parts => uptoBulkAll parts + 1
  | .iface _ d => uptoBulk d + 1
  | .map entries => uptoBulkEntries entries + 1
  | .held _ => 1
def uptoBulkAll {H : Type} : List (DataW H) → Nat
  | [] => 0
  | d :: r => uptoBulk d + uptoBulkAll r
def uptoBulkEntries {H : Type} : List (Lit × DataW H) → Nat
  | [] => 0
  | x :: r => uptoBulkEntry x + uptoBulkEntries r
def uptoBulkEntry {H : Type} : Lit × DataW H → Nat
  | (.string bytes, d) => bytes.length + uptoBulk d + 1
  | (_, d) => uptoBulk d + 1
 end
def uptoSmall : (H : Type) → List (DataW H) → Bool := fun _ ds => decide (uptoBulkAll ds ≤ 1048576)
def OpenSpec.upto (s : _root_.Go.ChangeSpec) : _root_.Go.OpenSpec := { _root_.Go.OpenSpec.ofChange s with cond := some uptoSmall }

/-- 'taffraillaw01.FramesMany', WHERE WHAT IT READS IS OF BULK AT MOST 1048576: true; the input reads as it did. -/
def framesManyUptoRow : OpenClaim := { program := "ytkhlfbmjokjhmaa", sum := "f352e955b45041404abfdd496a4fe999fb52231be627c543bdaef14cc7179f42", func := "taffrail/taffraillaw01.FramesMany", spec := "framesMany", unfollowed := true, recurses := true, apart := false, narrowed := true }
def FramesManyUptoSaid : Prop := framesManyUptoRow.holds Try.pinned (OpenSpec.upto framesManySpec)

/-- 'taffraillaw01.FramesFirst', WHERE WHAT IT READS IS OF BULK AT MOST 1048576: true; the input reads as it did. -/
def framesFirstUptoRow : OpenClaim := { program := "ytkhlfbmjokjhmaa", sum := "f352e955b45041404abfdd496a4fe999fb52231be627c543bdaef14cc7179f42", func := "taffrail/taffraillaw01.FramesFirst", spec := "framesFirst", unfollowed := true, recurses := true, apart := false, narrowed := true }
def FramesFirstUptoSaid : Prop := framesFirstUptoRow.holds Try.pinned (OpenSpec.upto framesFirstSpec)

/-- 'taffraillaw01.FramesKeep', WHERE WHAT IT READS IS OF BULK AT MOST 1048576: true; the input reads as it did. -/
def framesKeepUptoRow : OpenClaim := { program := "ytkhlfbmjokjhmaa", sum := "f352e955b45041404abfdd496a4fe999fb52231be627c543bdaef14cc7179f42", func := "taffrail/taffraillaw01.FramesKeep", spec := "framesKeep", unfollowed := true, recurses := true, apart := false, narrowed := true }
def FramesKeepUptoSaid : Prop := framesKeepUptoRow.holds Try.pinned (OpenSpec.upto framesKeepSpec)

/-- 'taffraillaw01.FramesZero', WHERE WHAT IT READS IS OF BULK AT MOST 1048576: true; the input reads as it did. -/
def framesZeroUptoRow : OpenClaim := { program := "ytkhlfbmjokjhmaa", sum := "f352e955b45041404abfdd496a4fe999fb52231be627c543bdaef14cc7179f42", func := "taffrail/taffraillaw01.FramesZero", spec := "framesZero", unfollowed := true, recurses := true, apart := false, narrowed := true }
def FramesZeroUptoSaid : Prop := framesZeroUptoRow.holds Try.pinned (OpenSpec.upto framesZeroSpec)

/-- 'taffraillaw01.FramesCount', WHERE WHAT IT READS IS OF BULK AT MOST 1048576: true; the input reads as it did. -/
def framesCountUptoRow : OpenClaim := { program := "ytkhlfbmjokjhmaa", sum := "f352e955b45041404abfdd496a4fe999fb52231be627c543bdaef14cc7179f42", func := "taffrail/taffraillaw01.FramesCount", spec := "framesCount", unfollowed := true, recurses := true, apart := false, narrowed := true }
def FramesCountUptoSaid : Prop := framesCountUptoRow.holds Try.pinned (OpenSpec.upto framesCountSpec)

/-- 'taffraillaw01.FramesDo', WHERE WHAT IT READS IS OF BULK AT MOST 1048576: true; the input reads as it did. -/
def framesDoUptoRow : OpenClaim := { program := "ytkhlfbmjokjhmaa", sum := "f352e955b45041404abfdd496a4fe999fb52231be627c543bdaef14cc7179f42", func := "taffrail/taffraillaw01.FramesDo", spec := "framesDo", unfollowed := true, recurses := true, apart := false, narrowed := true }
def FramesDoUptoSaid : Prop := framesDoUptoRow.holds Try.pinned (OpenSpec.upto framesDoSpec)

/-- 'taffraillaw01.FramesNone', WHERE WHAT IT READS IS OF BULK AT MOST 1048576: true; the input reads as it did. -/
def framesNoneUptoRow : OpenClaim := { program := "ytkhlfbmjokjhmaa", sum := "f352e955b45041404abfdd496a4fe999fb52231be627c543bdaef14cc7179f42", func := "taffrail/taffraillaw01.FramesNone", spec := "framesNone", unfollowed := true, recurses := true, apart := false, narrowed := true }
def FramesNoneUptoSaid : Prop := framesNoneUptoRow.holds Try.pinned (OpenSpec.upto framesNoneSpec)

end Rows
end Go.Proofs.Ytkhlfbmjokjhmaa
