/-
  Contracts of package num (2): sums.
-/
import Derived.Test.YtejifalflkbekaaDoorNum
set_option maxRecDepth 100000
set_option linter.unusedSimpArgs false
set_option linter.unusedVariables false
namespace Go.Proofs.YtejifalflkbekaaDoor
open Go Go.Abs
theorem size_spec {H : AH} {a : Int} (ha : I64 a) : AFn Tryd.prog F_num_size [.int .i64 a] H fun u H' => u = uv a.natAbs ∧ H' = H:=by
 refine AFn.enter mixed ir_num_size_eq (by simp [ir_num_size]) fun hw => ?_
 obtain ⟨h1,h2⟩:=ha
 by_cases h0 : a < 0
 ·have hwr : Value.int .u64 (IntKind.u64.wrap a) = uv (18446744073709551616 - a.natAbs):=by
   unfold uv; congr 1
   simp [IntKind.wrap,IntKind.signed,IntKind.bits]; omega
  have hn:=uv_neg (a:=18446744073709551616 - a.natAbs) (by omega) (by omega)
  rw [show 18446744073709551616 - (18446744073709551616 - a.natAbs) = a.natAbs by omega] at hn
  generalize 18446744073709551616 - a.natAbs = x at *
  generalize a.natAbs = y at *
  simp (disch:=omega) [-getElem?_pos,if_pos,if_neg,decide_eq_true,decide_eq_false,ir_num_size,h0,hwr,↓hn]
 ·have hwr : Value.int .u64 (IntKind.u64.wrap a) = uv a.natAbs:=by
   unfold uv; congr 1
   simp [IntKind.wrap,IntKind.signed,IntKind.bits]; omega
  generalize a.natAbs = y at *
  simp (disch:=omega) [-getElem?_pos,if_pos,if_neg,decide_eq_true,decide_eq_false,ir_num_size,h0,hwr]
end Go.Proofs.YtejifalflkbekaaDoor
