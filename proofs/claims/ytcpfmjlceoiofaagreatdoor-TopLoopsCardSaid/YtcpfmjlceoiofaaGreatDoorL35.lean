/-
  A part of the tie: put together.
-/
import Derived.Test.YtcpfmjlceoiofaaGreatDoorRows
import Derived.LaidByTextLater
import Derived.SevenTiedAt
import Derived.Test.YtcpfmjlceoiofaaGreatDoorL25
import Derived.Test.YtcpfmjlceoiofaaGreatDoorL26
import Derived.Test.YtcpfmjlceoiofaaGreatDoorL27
import Derived.Test.YtcpfmjlceoiofaaGreatDoorL28
import Derived.Test.YtcpfmjlceoiofaaGreatDoorL29
import Derived.Test.YtcpfmjlceoiofaaGreatDoorL30
import Derived.Test.YtcpfmjlceoiofaaGreatDoorL31
import Derived.Test.YtcpfmjlceoiofaaGreatDoorL32
import Derived.Test.YtcpfmjlceoiofaaGreatDoorL33
import Derived.Test.YtcpfmjlceoiofaaGreatDoorL34
set_option linter.unusedSimpArgs false
set_option linter.unusedVariables false
set_option linter.unusedSectionVars false
namespace Go.Proofs.YtcpfmjlceoiofaaGreatDoor
open Go
set_option maxRecDepth 100000
theorem tieA : Tryz.prog.laidByTextLater tieLaid tieKinds true :=
  Program.laidByTextLater_by_run_h 400 8 tieK0 tieK1 tieK2 tieK3 tieK4 tieK5 tieK6 tieK7 tieK8 tieK9
theorem noOwnUnsafeA : Tryz.pinned.checked.prog.headLifts.contains "ownunsafe" = false := by kernel_rfl
theorem topLoops_row_tie : Rows.topLoopsRow.laidByTextAt .later Tryz.pinned tieKinds true :=
  OpenClaim.laidByTextAt_later rfl rfl tieA noOwnUnsafeA
theorem topFull_row_tie : Rows.topFullRow.laidByTextAt .later Tryz.pinned tieKinds true :=
  OpenClaim.laidByTextAt_later rfl rfl tieA noOwnUnsafeA
theorem topOrphans_row_tie : Rows.topOrphansRow.laidByTextAt .later Tryz.pinned tieKinds true :=
  OpenClaim.laidByTextAt_later rfl rfl tieA noOwnUnsafeA
theorem topMail_row_tie : Rows.topMailRow.laidByTextAt .later Tryz.pinned tieKinds true :=
  OpenClaim.laidByTextAt_later rfl rfl tieA noOwnUnsafeA
theorem topRefuses_row_tie : Rows.topRefusesRow.laidByTextAt .later Tryz.pinned tieKinds true :=
  OpenClaim.laidByTextAt_later rfl rfl tieA noOwnUnsafeA
end Go.Proofs.YtcpfmjlceoiofaaGreatDoor
