/-
  package dual: Prices; DualPrices.
-/
import Derived.Test.YtejifalflkbekaaDoorBu29
import Derived.Test.YtejifalflkbekaaDoorWak18
set_option maxRecDepth 100000
set_option linter.unusedSimpArgs false
set_option linter.unusedVariables false
namespace Go.Proofs.YtejifalflkbekaaDoor
open Go Go.Abs Go.Proofs.YtejifalflkbekaaDoor.Bs
/-! ### DualPrices -/
end Go.Proofs.YtejifalflkbekaaDoor
