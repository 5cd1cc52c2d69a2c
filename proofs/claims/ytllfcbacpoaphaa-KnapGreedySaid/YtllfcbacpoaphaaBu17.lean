/-
  The compiled bodies of the functions of this seat, as the kernel reckons them (written by a program of this place).
-/
import Derived.Test.YtllfcbacpoaphaaA31
import Derived.Test.YtllfcbacpoaphaaProg
import Derived.KernelRfl
import Derived.Test.YtllfcbacpoaphaaIr
import Derived.Test.YtllfcbacpoaphaaBigN
import Derived.Test.YtllfcbacpoaphaaNum2
import Derived.Test.YtllfcbacpoaphaaLs

set_option maxRecDepth 100000
namespace Go.Proofs.Ytllfcbacpoaphaa
open Go Go.Abs
variable {vs : List Value} {H : AH} {Q : Value → AH → Prop}
end Go.Proofs.Ytllfcbacpoaphaa

set_option maxRecDepth 100000
namespace Go.Abs
open Go
end Go.Abs
namespace Go.Proofs.Ytllfcbacpoaphaa
open Go Go.Abs
end Go.Proofs.Ytllfcbacpoaphaa
namespace Go.Proofs.Ytllfcbacpoaphaa
open Go Go.Abs
end Go.Proofs.Ytllfcbacpoaphaa
namespace Go.Proofs.Ytllfcbacpoaphaa
open Go Go.Abs
def sgn (s : Bool) (m : Nat) : Int:=if s then -(m : Int) else m
theorem sgn_abs (n : Int) : sgn (decide (n < 0)) n.natAbs = n:=by unfold sgn; split <;> (rename_i h; simp at h; omega)
end Go.Proofs.Ytllfcbacpoaphaa

set_option maxRecDepth 100000
namespace Go.Proofs.Ytllfcbacpoaphaa
open Go Go.Abs
theorem sgn_mul (a b : Int) : a * b = sgn (decide (a < 0) != decide (b < 0)) (a.natAbs * b.natAbs):=by
 have h1:=sgn_abs a
 have h2:=sgn_abs b
 conv => lhs; rw [← h1,← h2]
 cases decide (a < 0) <;> cases decide (b < 0) <;> simp [sgn,Int.mul_neg,Int.neg_mul]
theorem sgn_neg {s : Bool} {m : Nat} : decide (sgn s m < 0) = (s && decide (m ≠ 0)):=by
 cases s
 ·simp only [sgn,Bool.false_eq_true,if_false,Bool.false_and]; exact decide_eq_false (by omega)
 ·simp only [sgn,if_true,Bool.true_and]; exact decide_eq_decide.2 (by omega)
end Go.Proofs.Ytllfcbacpoaphaa
