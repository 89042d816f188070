/-
  A part of the tie: one closed fact.
-/
import Derived.Test.YtcpfmjlceoiofaaGreatDoorRows
import Derived.LaidByTextLater
import Derived.SevenTiedAt
import Derived.Test.YtcpfmjlceoiofaaGreatDoorN20
set_option linter.unusedSimpArgs false
set_option linter.unusedVariables false
set_option linter.unusedSectionVars false
set_option linter.unusedSimpArgs false
set_option linter.unusedVariables false
set_option linter.unusedSectionVars false
namespace Go.Proofs.YtcpfmjlceoiofaaGreatDoor
open Go
set_option maxRecDepth 100000
theorem tieK7 : ∀ os tape, (DataW.laidRun Tryz.prog (varsWorld Tryz.prog 400 (varsId Tryz.prog) os tape).memory 8 ((tieLaid.filter fun x => x.2.handleName?.isNone).map (·.1))).map (·.1) = some (tieLaid.filter fun x => x.2.handleName?.isNone) := fun _ _ => by kernel_rfl
end Go.Proofs.YtcpfmjlceoiofaaGreatDoor
