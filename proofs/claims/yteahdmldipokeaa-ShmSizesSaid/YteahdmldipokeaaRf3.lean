/-
  The document's answer for layer 1: Read, Write.
-/
import Derived.Test.YteahdmldipokeaaRf2
namespace Go.Proofs.Yteahdmldipokeaa
open Go.RowKit
attribute [local irreducible] W L QL PureOp thenQ blockQ retQ Spec IterOk YSpec roundQ scopeQ noGoQ
attribute [local irreducible] AS ASi
set_option maxHeartbeats 1600000
section
variable (r : RefP) {M : List Frm}
end
end Go.Proofs.Yteahdmldipokeaa
