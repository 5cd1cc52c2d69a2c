/-
  package knap: the items but for one.
-/
import Derived.Test.YtllfcbacpoaphaaKn10
import Derived.Test.YtllfcbacpoaphaaBu16
set_option maxRecDepth 100000
set_option linter.unusedSimpArgs false
set_option linter.unusedVariables false
namespace Go.Proofs.Ytllfcbacpoaphaa
open Go Go.Abs
end Go.Proofs.Ytllfcbacpoaphaa
