/-
  Contracts of package num (2): sums.
-/
import Derived.Test.YtllfcbacpoaphaaNum
set_option maxRecDepth 100000
set_option linter.unusedSimpArgs false
set_option linter.unusedVariables false
namespace Go.Proofs.Ytllfcbacpoaphaa
open Go Go.Abs
theorem size_spec {H : AH} {a : Int} (ha : I64 a) : AFn Try.prog F_num_size [.int .i64 a] H fun u H' => u = uv a.natAbs ∧ H' = H:=by
 refine AFn.enter mixed ir_num_size_eq (by simp [ir_num_size]) fun hw => ?_
 obtain ⟨h1,h2⟩:=ha
 by_cases h0 : a < 0
 ·have hwr : Value.int .u64 (IntKind.u64.wrap a) = uv (18446744073709551616 - a.natAbs):=by
   unfold uv; congr 1
   simp [IntKind.wrap,IntKind.signed,IntKind.bits]; omega
  have hn:=uv_neg (a:=18446744073709551616 - a.natAbs) (by omega) (by omega)
  rw [show 18446744073709551616 - (18446744073709551616 - a.natAbs) = a.natAbs by omega] at hn
  generalize 18446744073709551616 - a.natAbs = x at *
  generalize a.natAbs = y at *
  simp (disch:=omega) [-getElem?_pos,if_pos,if_neg,decide_eq_true,decide_eq_false,ir_num_size,h0,hwr,↓hn]
 ·have hwr : Value.int .u64 (IntKind.u64.wrap a) = uv a.natAbs:=by
   unfold uv; congr 1
   simp [IntKind.wrap,IntKind.signed,IntKind.bits]; omega
  generalize a.natAbs = y at *
  simp (disch:=omega) [-getElem?_pos,if_pos,if_neg,decide_eq_true,decide_eq_false,ir_num_size,h0,hwr]
def fitsI (n : Int) : Bool:=decide (-9223372036854775808 ≤ n ∧ n ≤ 9223372036854775807)
def shortI (n : Int) : Int:=if fitsI n then n else 0
theorem short_spec {H : AH} {n : Int} (h : n.natAbs < W64 * W64) : AFn Try.prog F_num_short [wV n] H fun u H' => u = .tuple #[.int .i64 (shortI n),.bool (fitsI n)] ∧ H' = H:=by
 refine AFn.calm (fun H0 hs => ?_) rfl
 refine AFn.enter mixed ir_num_short_eq (by simp [ir_num_short]) fun hw => ?_
 have h1:=Nat.div_add_mod n.natAbs W64
 have h2:=Nat.mod_lt n.natAbs (show 0 < W64 by decide)
 unfold wV wv
 by_cases hh : n.natAbs / W64 = 0
 ·rw [hh,Nat.mul_zero,Nat.zero_add] at h1
  rw [hh,h1]
  rw [h1] at h2
  have g0 : abin .neq (uv 0) (uv 0) = some (.bool false):=by rw [uv_neq]; rfl
  by_cases hn : n < 0
  ·have g2 : abin .gtr (uv n.natAbs) (uv 9223372036854775808) = some (.bool (!fitsI n)):=by
    rw [uv_gtr]; unfold fitsI; congr 2; rw [← decide_not]; congr 1; apply propext; omega
   have g3:=uv_neg (a:=n.natAbs) (by omega) h2
   by_cases hf : fitsI n = true
   ·have hwr : IntKind.i64.wrap ((18446744073709551616 - n.natAbs : Nat) : Int) = n:=by
     unfold fitsI at hf
     simp at hf
     simp [IntKind.wrap,IntKind.signed,IntKind.bits]; omega
    have hsi : shortI n = n:=by unfold shortI; rw [if_pos hf]
    have hux:=uv_def (18446744073709551616 - n.natAbs)
    rw [hf,Bool.not_true] at g2
    rw [hf,hsi]
    generalize hx : 18446744073709551616 - n.natAbs = x at *
    generalize n.natAbs = y at *
    simp (disch:=omega) [-getElem?_pos,if_pos,if_neg,decide_eq_true,decide_eq_false,ir_num_short,hn,↓g0,↓g2,↓g3,hwr,hux]
   ·have hf' : fitsI n = false:=by simpa using hf
    have hsi : shortI n = 0:=by unfold shortI; rw [if_neg hf]
    rw [hf',Bool.not_false] at g2
    rw [hf',hsi]
    generalize n.natAbs = y at *
    simp (disch:=omega) [-getElem?_pos,if_pos,if_neg,decide_eq_true,decide_eq_false,ir_num_short,hn,↓g0,↓g2]
  ·have g2 : abin .gtr (uv n.natAbs) (uv 9223372036854775807) = some (.bool (!fitsI n)):=by
    rw [uv_gtr]; unfold fitsI; congr 2; rw [← decide_not]; congr 1; apply propext; omega
   by_cases hf : fitsI n = true
   ·have hwr : IntKind.i64.wrap (n.natAbs : Int) = n:=by
     unfold fitsI at hf
     simp at hf
     simp [IntKind.wrap,IntKind.signed,IntKind.bits]; omega
    have hsi : shortI n = n:=by unfold shortI; rw [if_pos hf]
    rw [hf,Bool.not_true] at g2
    rw [hf,hsi]
    have hux:=uv_def n.natAbs
    generalize n.natAbs = y at *
    rw [hux] at g2
    simp (disch:=omega) [-getElem?_pos,if_pos,if_neg,decide_eq_true,decide_eq_false,ir_num_short,hn,↓g0,↓g2,hwr,hux]
   ·have hf' : fitsI n = false:=by simpa using hf
    have hsi : shortI n = 0:=by unfold shortI; rw [if_neg hf]
    rw [hf',Bool.not_false] at g2
    rw [hf',hsi]
    generalize n.natAbs = y at *
    simp (disch:=omega) [-getElem?_pos,if_pos,if_neg,decide_eq_true,decide_eq_false,ir_num_short,hn,↓g0,↓g2]
 ·have hf' : fitsI n = false:=by
   unfold fitsI
   have : W64 * 1 ≤ W64 * (n.natAbs / W64):=Nat.mul_le_mul_left _ (Nat.pos_of_ne_zero hh)
   simp only [W64] at this h1
   simp; omega
  have hsi : shortI n = 0:=by unfold shortI; rw [hf']; rfl
  have g0 : abin .neq (uv (n.natAbs / W64)) (uv 0) = some (.bool true):=by rw [uv_neq]; simp [hh]
  rw [hf',hsi]
  generalize n.natAbs / W64 = hi at *
  generalize n.natAbs % W64 = lo at *
  clear h1
  simp (disch:=omega) [-getElem?_pos,if_pos,if_neg,decide_eq_true,decide_eq_false,ir_num_short,↓g0]
end Go.Proofs.Ytllfcbacpoaphaa
