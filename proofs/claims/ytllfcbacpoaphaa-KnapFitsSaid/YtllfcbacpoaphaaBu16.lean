/-
  Lists of numbers: what seat E needs.
-/
import Derived.Test.YtllfcbacpoaphaaRen
import Derived.Test.YtllfcbacpoaphaaIrT
import Derived.Test.YtllfcbacpoaphaaA31
import Derived.Test.YtllfcbacpoaphaaProg
import Derived.KernelRfl
import Derived.Test.YtllfcbacpoaphaaIr
import Derived.Test.YtllfcbacpoaphaaBigN
import Derived.Test.YtllfcbacpoaphaaNum2

set_option maxRecDepth 100000
set_option linter.unusedSimpArgs false
set_option linter.unusedVariables false
namespace Go.Proofs.Ytllfcbacpoaphaa
open Go Go.Abs
end Go.Proofs.Ytllfcbacpoaphaa

set_option maxRecDepth 100000
namespace Go.Proofs.Ytllfcbacpoaphaa
open Go Go.Abs
variable {vs : List Value} {H : AH} {Q : Value → AH → Prop}
end Go.Proofs.Ytllfcbacpoaphaa

set_option maxRecDepth 100000
namespace Go.Abs
open Go
end Go.Abs
namespace Go.Proofs.Ytllfcbacpoaphaa
open Go Go.Abs
end Go.Proofs.Ytllfcbacpoaphaa
namespace Go.Proofs.Ytllfcbacpoaphaa
open Go Go.Abs
end Go.Proofs.Ytllfcbacpoaphaa
namespace Go.Proofs.Ytllfcbacpoaphaa
open Go Go.Abs
def sgn (s : Bool) (m : Nat) : Int:=if s then -(m : Int) else m
theorem sgn_abs (n : Int) : sgn (decide (n < 0)) n.natAbs = n:=by unfold sgn; split <;> (rename_i h; simp at h; omega)
end Go.Proofs.Ytllfcbacpoaphaa
