/-
  TopMail: closed facts of the row.
-/
import Derived.Test.YtcpfmjlceoiofaaGreatDoorRows
import Derived.JoinedOf
set_option linter.unusedSimpArgs false
set_option linter.unusedVariables false
set_option linter.unusedSectionVars false
namespace Go.Proofs.YtcpfmjlceoiofaaGreatDoor.topMail
theorem j9 : ((Rows.topMailRow.inPlace == Tryz.prog.inPlace 6)) = true := by kernel_rfl
end Go.Proofs.YtcpfmjlceoiofaaGreatDoor.topMail
