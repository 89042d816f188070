/-
  TopLoops: the row, and the card that ties what it lists to the program's text.
-/
import Derived.Test.YtcpfmjlceoiofaaGreatDoorL47
import Derived.Test.YtcpfmjlceoiofaaGreatDoorL36
import Derived.JoinedOf
import Derived.SevenTiedAt
set_option linter.unusedSimpArgs false
set_option linter.unusedVariables false
set_option linter.unusedSectionVars false
namespace Go.Proofs.YtcpfmjlceoiofaaGreatDoor.topLoops
open Go.ChangeShapes Go.WideShapes Go.ChangeAt Go.RowKit
theorem named : Tryz.prog.funcNamed "taffrail/taffrailtop.TopLoops" = some 3 := by kernel_rfl
theorem inst : Tryz.f3.isInstance Tryz.prog Rows.topLoopsRow.origin Rows.topLoopsRow.targs := of_decide_eq_true (by kernel_rfl)
theorem wrap : Tryz.f3.isWrapper Tryz.prog Rows.topLoopsRow.wrapper Rows.topLoopsRow.mainSum := by
  unfold Func.isWrapper
  first | (rw [if_pos (by decide +kernel)]; kernel_rfl) | (rw [if_neg (by decide +kernel)]; exact ⟨rfl, rfl⟩)
theorem over : Rows.topLoopsRow.holds Tryz.pinned (OpenSpec.ofChange Rows.topLoopsSpec) :=
  OpenClaim.holds_of_wide 3 Tryz.f3 rfl rfl rfl rfl rfl rfl rfl ⟨rfl, rfl, rfl, rfl, rfl⟩ rfl rfl rfl rfl rfl named Tryz.func3 closed
    inst wrap (fun os started H enc _ => lifted os started H enc)
end Go.Proofs.YtcpfmjlceoiofaaGreatDoor.topLoops
