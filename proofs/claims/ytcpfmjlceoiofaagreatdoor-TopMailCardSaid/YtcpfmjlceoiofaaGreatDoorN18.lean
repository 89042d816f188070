/-
  TopMail: closed facts of the row.
-/
import Derived.Test.YtcpfmjlceoiofaaGreatDoorRows
import Derived.JoinedOf
set_option linter.unusedSimpArgs false
set_option linter.unusedVariables false
set_option linter.unusedSectionVars false
namespace Go.Proofs.YtcpfmjlceoiofaaGreatDoor.topMail
theorem j6 : ((Tryz.prog.stops == [])) = true := by kernel_rfl
theorem j8 : ((Tryz.prog.stopKnobs == [])) = true := by kernel_rfl
theorem j22 : ((Rows.topMailRow.plainKeys == Tryz.prog.plainKeys)) = true := by kernel_rfl
end Go.Proofs.YtcpfmjlceoiofaaGreatDoor.topMail
