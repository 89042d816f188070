/-
  A part of the tie: one closed fact.
-/
import Derived.Test.YtcpfmjlceoiofaaGreatDoorRows
import Derived.LaidByTextLater
import Derived.SevenTiedAt
import Derived.Test.YtcpfmjlceoiofaaGreatDoorN20
set_option linter.unusedSimpArgs false
set_option linter.unusedVariables false
set_option linter.unusedSectionVars false
set_option linter.unusedSimpArgs false
set_option linter.unusedVariables false
set_option linter.unusedSectionVars false
namespace Go.Proofs.YtcpfmjlceoiofaaGreatDoor
open Go
set_option maxRecDepth 100000
theorem tieK3 : tieLaid.map (fun x => Tryz.prog.kindOfLater x.1) = tieKinds.map some := by kernel_rfl
end Go.Proofs.YtcpfmjlceoiofaaGreatDoor
