/-
  TopOrphans: closed facts of the row.
-/
import Derived.Test.YtcpfmjlceoiofaaGreatDoorRows
import Derived.JoinedOf
set_option linter.unusedSimpArgs false
set_option linter.unusedVariables false
set_option linter.unusedSectionVars false
namespace Go.Proofs.YtcpfmjlceoiofaaGreatDoor.topOrphans
theorem j11 : ((Rows.topOrphansRow.recurses == Tryz.prog.recurses 5)) = true := by kernel_rfl
end Go.Proofs.YtcpfmjlceoiofaaGreatDoor.topOrphans
