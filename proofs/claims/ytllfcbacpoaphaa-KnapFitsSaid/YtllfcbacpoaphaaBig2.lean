/-
  The document's big numbers (2): Add, Mul.
-/
import Derived.Test.YtllfcbacpoaphaaBu16
set_option maxRecDepth 100000
set_option linter.unusedSimpArgs false
set_option linter.unusedVariables false
namespace Go.Proofs.Ytllfcbacpoaphaa
open Go Go.Abs
/-! ### products -/
theorem sgn_mul (a b : Int) : a * b = sgn (decide (a < 0) != decide (b < 0)) (a.natAbs * b.natAbs):=by
 have h1:=sgn_abs a
 have h2:=sgn_abs b
 conv => lhs; rw [← h1,← h2]
 cases decide (a < 0) <;> cases decide (b < 0) <;> simp [sgn,Int.mul_neg,Int.neg_mul]
theorem sgn_neg {s : Bool} {m : Nat} : decide (sgn s m < 0) = (s && decide (m ≠ 0)):=by
 cases s
 ·simp only [sgn,Bool.false_eq_true,if_false,Bool.false_and]; exact decide_eq_false (by omega)
 ·simp only [sgn,if_true,Bool.true_and]; exact decide_eq_decide.2 (by omega)
end Go.Proofs.Ytllfcbacpoaphaa
