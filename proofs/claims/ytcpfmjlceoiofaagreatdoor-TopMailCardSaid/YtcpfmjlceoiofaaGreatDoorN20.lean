/-
  A part of the tie: what is laid.
-/
import Derived.Test.YtcpfmjlceoiofaaGreatDoorRows
import Derived.LaidByTextLater
import Derived.SevenTiedAt
set_option linter.unusedSimpArgs false
set_option linter.unusedVariables false
set_option linter.unusedSectionVars false
set_option linter.unusedSimpArgs false
set_option linter.unusedVariables false
set_option linter.unusedSectionVars false
namespace Go.Proofs.YtcpfmjlceoiofaaGreatDoor
open Go
set_option maxRecDepth 100000
abbrev tieLaid : List (String × DataW Unit) := [("errors.errorType", Rows.laid_errors_errorType), ("taffrail/pipe.errWait", Rows.laid_taffrail_pipe_errWait), ("taffrail/pipe.errBroken", Rows.laid_taffrail_pipe_errBroken), ("taffrail/sem.errRange", Rows.laid_taffrail_sem_errRange), ("taffrail/sem.errAgain", Rows.laid_taffrail_sem_errAgain), ("taffrail/sem.errWait", Rows.laid_taffrail_sem_errWait), ("internal/strconv.uint64pow10", Rows.laid_internal_strconv_uint64pow10), ("math/bits.deBruijn32tab", Rows.laid_math_bits_deBruijn32tab), ("math/bits.deBruijn64tab", Rows.laid_math_bits_deBruijn64tab)]
abbrev tieKinds : List LaidKind := [.handle, .sentinel, .sentinel, .sentinel, .sentinel, .sentinel, .data, .data, .data]
end Go.Proofs.YtcpfmjlceoiofaaGreatDoor
