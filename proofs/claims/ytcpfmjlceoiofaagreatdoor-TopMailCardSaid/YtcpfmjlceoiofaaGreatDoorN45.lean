/-
  TopMail: the row, and the card that ties what it lists to the program's text.
-/
import Derived.Test.YtcpfmjlceoiofaaGreatDoorN44
import Derived.Test.YtcpfmjlceoiofaaGreatDoorN32
import Derived.JoinedOf
import Derived.SevenTiedAt
set_option linter.unusedSimpArgs false
set_option linter.unusedVariables false
set_option linter.unusedSectionVars false
namespace Go.Proofs.YtcpfmjlceoiofaaGreatDoor.topMail
open Go.ChangeShapes Go.WideShapes Go.ChangeAt Go.RowKit
theorem named : Tryz.prog.funcNamed "taffrail/taffrailtop.TopMail" = some 6 := by kernel_rfl
theorem inst : Tryz.f6.isInstance Tryz.prog Rows.topMailRow.origin Rows.topMailRow.targs := of_decide_eq_true (by kernel_rfl)
theorem wrap : Tryz.f6.isWrapper Tryz.prog Rows.topMailRow.wrapper Rows.topMailRow.mainSum := by
  unfold Func.isWrapper
  first | (rw [if_pos (by decide +kernel)]; kernel_rfl) | (rw [if_neg (by decide +kernel)]; exact ⟨rfl, rfl⟩)
theorem over : Rows.topMailRow.holds Tryz.pinned (OpenSpec.ofChange Rows.topMailSpec) :=
  OpenClaim.holds_of_wide 6 Tryz.f6 rfl rfl rfl rfl rfl rfl rfl ⟨rfl, rfl, rfl, rfl, rfl⟩ rfl rfl rfl rfl rfl named Tryz.func6 closed
    inst wrap (fun os started H enc _ => lifted os started H enc)
end Go.Proofs.YtcpfmjlceoiofaaGreatDoor.topMail
