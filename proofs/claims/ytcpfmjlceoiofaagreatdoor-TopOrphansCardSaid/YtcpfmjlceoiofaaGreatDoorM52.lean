/-
  TopOrphans: the row, and the card that ties what it lists to the program's text.
-/
import Derived.Test.YtcpfmjlceoiofaaGreatDoorM51
import Derived.Test.YtcpfmjlceoiofaaGreatDoorM38
import Derived.JoinedOf
import Derived.SevenTiedAt
set_option linter.unusedSimpArgs false
set_option linter.unusedVariables false
set_option linter.unusedSectionVars false
namespace Go.Proofs.YtcpfmjlceoiofaaGreatDoor.topOrphans
open Go.ChangeShapes Go.WideShapes Go.ChangeAt Go.RowKit
theorem named : Tryz.prog.funcNamed "taffrail/taffrailtop.TopOrphans" = some 5 := by kernel_rfl
theorem inst : Tryz.f5.isInstance Tryz.prog Rows.topOrphansRow.origin Rows.topOrphansRow.targs := of_decide_eq_true (by kernel_rfl)
theorem wrap : Tryz.f5.isWrapper Tryz.prog Rows.topOrphansRow.wrapper Rows.topOrphansRow.mainSum := by
  unfold Func.isWrapper
  first | (rw [if_pos (by decide +kernel)]; kernel_rfl) | (rw [if_neg (by decide +kernel)]; exact ⟨rfl, rfl⟩)
theorem over : Rows.topOrphansRow.holds Tryz.pinned (OpenSpec.ofChange Rows.topOrphansSpec) :=
  OpenClaim.holds_of_wide 5 Tryz.f5 rfl rfl rfl rfl rfl rfl rfl ⟨rfl, rfl, rfl, rfl, rfl⟩ rfl rfl rfl rfl rfl named Tryz.func5 closed
    inst wrap (fun os started H enc _ => lifted os started H enc)
end Go.Proofs.YtcpfmjlceoiofaaGreatDoor.topOrphans
