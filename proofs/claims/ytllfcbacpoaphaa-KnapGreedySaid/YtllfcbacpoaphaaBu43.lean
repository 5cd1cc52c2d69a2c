/-
  The document's Gcd, Make and Floor, of numbers from nought on.
-/
import Derived.Test.YtllfcbacpoaphaaKr2
import Derived.Test.YtllfcbacpoaphaaBu17
import Derived.Test.YtllfcbacpoaphaaBu33

set_option maxRecDepth 100000
set_option linter.unusedSimpArgs false
set_option linter.unusedVariables false
namespace Go.Abs
open Go
end Go.Abs
namespace Go.Proofs.Ytllfcbacpoaphaa
open Go Go.Abs
end Go.Proofs.Ytllfcbacpoaphaa

set_option maxRecDepth 100000
namespace Go.Abs
open Go
end Go.Abs
namespace Go.Proofs.Ytllfcbacpoaphaa
open Go Go.Abs
end Go.Proofs.Ytllfcbacpoaphaa

set_option maxRecDepth 100000
namespace Go.Proofs.Ytllfcbacpoaphaa
open Go Go.Abs
end Go.Proofs.Ytllfcbacpoaphaa
