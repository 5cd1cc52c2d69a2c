/-
  Layer 13: what the document fixes ('wakes'), reckoned.
-/
import Derived.Test.YtlcddhgfkkjhkaaIr
import Derived.Test.YtlcddhgfkkjhkaaA31
set_option maxRecDepth 100000
namespace Go.Proofs.Ytlcddhgfkkjhkaa
open Go Go.Abs
def G : GTab := []
theorem goodG_ok : goodG Try.prog.globals.size G = true := rfl
theorem ground_nil {H : AH} : GroundA G H := fun _ h => by cases h
theorem wakes13_spec {H : AH} : AFn Try.prog F_law13_wakes [] H fun u H' => u = .bool true ∧ H' = H :=
  AFn.reckon mixed tab_ok 400 60 goodG_ok (by kernel_rfl) rfl rfl ground_nil
end Go.Proofs.Ytlcddhgfkkjhkaa
