/-
  package dual: Prices; DualPrices.
-/
import Derived.Test.YtejifalflkbekaaDoorBu38
import Derived.Test.YtejifalflkbekaaDoorWak18
set_option maxRecDepth 100000
set_option linter.unusedSimpArgs false
set_option linter.unusedVariables false
namespace Go.Proofs.YtejifalflkbekaaDoor
open Go Go.Abs Go.Proofs.YtejifalflkbekaaDoor.Bs
theorem Bs.SetB.kept' {p : Nat → Prop} {H H' : AH} {v : Value} {B : List Bool} (h : SetB p H v B) (hw : WF H) (hk : Keep [] H H') : SetB p H' v B:=h.up2 (fun _ h => h) (.kept hw hk)
/-! ### DualPrices -/
end Go.Proofs.YtejifalflkbekaaDoor
