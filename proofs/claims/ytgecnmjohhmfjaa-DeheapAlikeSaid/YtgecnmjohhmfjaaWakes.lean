/-
  Layer 7: no package-level variable is read.
-/
import Derived.Test.YtgecnmjohhmfjaaIr
import Derived.Test.YtgecnmjohhmfjaaA31
set_option maxRecDepth 100000
namespace Go.Proofs.Ytgecnmjohhmfjaa
open Go Go.Abs
def G : GTab := []
theorem goodG_ok : goodG Try.prog.globals.size G = true := rfl
theorem ground_nil {H : AH} : GroundA G H := fun _ h => by cases h
end Go.Proofs.Ytgecnmjohhmfjaa
