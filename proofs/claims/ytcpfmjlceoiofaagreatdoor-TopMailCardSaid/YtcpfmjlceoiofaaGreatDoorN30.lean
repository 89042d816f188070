/-
  A part of the tie: one closed fact.
-/
import Derived.Test.YtcpfmjlceoiofaaGreatDoorRows
import Derived.LaidByTextLater
import Derived.SevenTiedAt
import Derived.Test.YtcpfmjlceoiofaaGreatDoorN20
set_option linter.unusedSimpArgs false
set_option linter.unusedVariables false
set_option linter.unusedSectionVars false
set_option linter.unusedSimpArgs false
set_option linter.unusedVariables false
set_option linter.unusedSectionVars false
namespace Go.Proofs.YtcpfmjlceoiofaaGreatDoor
open Go
set_option maxRecDepth 100000
theorem tieK9 : ∀ os tape, (tieLaid.filter fun x => x.2.handleName?.isSome).all (handleAtB Tryz.prog (varsWorld Tryz.prog 400 (varsId Tryz.prog) os tape).memory) = true := fun _ _ => by kernel_rfl
end Go.Proofs.YtcpfmjlceoiofaaGreatDoor
