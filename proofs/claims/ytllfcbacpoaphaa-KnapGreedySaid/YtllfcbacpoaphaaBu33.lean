/-
  Quotients made less: gcd, exact quotients, ratio.Make.
-/
import Derived.Test.YtllfcbacpoaphaaKn1
import Derived.Test.YtllfcbacpoaphaaKn7
import Derived.Test.YtllfcbacpoaphaaLs

set_option maxRecDepth 100000
set_option linter.unusedSimpArgs false
set_option linter.unusedVariables false
namespace Go.Abs
open Go
end Go.Abs
namespace Go.Proofs.Ytllfcbacpoaphaa
open Go Go.Abs
end Go.Proofs.Ytllfcbacpoaphaa

set_option maxRecDepth 100000
namespace Go.Abs
open Go
end Go.Abs
namespace Go.Proofs.Ytllfcbacpoaphaa
open Go Go.Abs
end Go.Proofs.Ytllfcbacpoaphaa

set_option maxRecDepth 100000
namespace Go.Abs
theorem may_zero {L : List (Int × Int)} {room : Int} (h : mayB L room = true) : mayB L 0 = true:=by
 rw [mayB_iff] at h ⊢
 exact ⟨h.len,by omega,h.val⟩
end Go.Abs
namespace Go.Proofs.Ytllfcbacpoaphaa
open Go Go.Abs
end Go.Proofs.Ytllfcbacpoaphaa

set_option maxRecDepth 100000
namespace Go.Proofs.Ytllfcbacpoaphaa
open Go Go.Abs
end Go.Proofs.Ytllfcbacpoaphaa
