/- A division of the reference's, evaluated. -/
import Derived.ProofKit
import Derived.Test.YtolidijpmnompaaGreatDoorGK4Basea
set_option linter.unusedVariables false
set_option linter.unusedSimpArgs false
set_option linter.unusedSectionVars false
set_option maxRecDepth 100000
open Go.Proofs
namespace Go.Lift.Y1
theorem dv1:evFun Tryz.prog hints primA 200 0 105 [wd 0 5,wd 0 1] []=some (wd 0 5,[]):=kr
end Go.Lift.Y1
