/-
  A part of the tie: put together.
-/
import Derived.Test.YtcpfmjlceoiofaaGreatDoorRows
import Derived.LaidByTextLater
import Derived.SevenTiedAt
import Derived.Test.YtcpfmjlceoiofaaGreatDoorN21
import Derived.Test.YtcpfmjlceoiofaaGreatDoorN22
import Derived.Test.YtcpfmjlceoiofaaGreatDoorN23
import Derived.Test.YtcpfmjlceoiofaaGreatDoorN24
import Derived.Test.YtcpfmjlceoiofaaGreatDoorN25
import Derived.Test.YtcpfmjlceoiofaaGreatDoorN26
import Derived.Test.YtcpfmjlceoiofaaGreatDoorN27
import Derived.Test.YtcpfmjlceoiofaaGreatDoorN28
import Derived.Test.YtcpfmjlceoiofaaGreatDoorN29
import Derived.Test.YtcpfmjlceoiofaaGreatDoorN30
set_option linter.unusedSimpArgs false
set_option linter.unusedVariables false
set_option linter.unusedSectionVars false
set_option linter.unusedSimpArgs false
set_option linter.unusedVariables false
set_option linter.unusedSectionVars false
namespace Go.Proofs.YtcpfmjlceoiofaaGreatDoor
open Go
set_option maxRecDepth 100000
theorem tieA : Tryz.prog.laidByTextLater tieLaid tieKinds true :=
  Program.laidByTextLater_by_run_h 400 8 tieK0 tieK1 tieK2 tieK3 tieK4 tieK5 tieK6 tieK7 tieK8 tieK9
theorem noOwnUnsafeA : Tryz.pinned.checked.prog.headLifts.contains "ownunsafe" = false := by kernel_rfl
theorem topMail_row_tie : Rows.topMailRow.laidByTextAt .later Tryz.pinned tieKinds true :=
  OpenClaim.laidByTextAt_later rfl rfl tieA noOwnUnsafeA
end Go.Proofs.YtcpfmjlceoiofaaGreatDoor
