/-
  TopLoops: closed facts of the row.
-/
import Derived.Test.YtcpfmjlceoiofaaGreatDoorRows
import Derived.JoinedOf
set_option linter.unusedSimpArgs false
set_option linter.unusedVariables false
set_option linter.unusedSectionVars false
namespace Go.Proofs.YtcpfmjlceoiofaaGreatDoor.topLoops
theorem j10 : ((Rows.topLoopsRow.unfollowed == Tryz.prog.unfollowed 3)) = true := by kernel_rfl
end Go.Proofs.YtcpfmjlceoiofaaGreatDoor.topLoops
