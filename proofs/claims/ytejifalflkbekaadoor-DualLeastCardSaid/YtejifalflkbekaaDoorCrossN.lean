/-
  Contracts of package num (4): which of two products is greater.
-/
import Derived.Test.YtejifalflkbekaaDoorNum3
set_option maxRecDepth 100000
set_option linter.unusedSimpArgs false
set_option linter.unusedVariables false
namespace Go.Abs
open Go
def sg (z : Int) : Int:=if z < 0 then -1 else if 0 < z then 1 else 0
theorem sg_lt {z : Int} : sg z < 0 ↔ z < 0:=by unfold sg; (repeat' split) <;> omega
theorem cmpW_sg {a b : Nat} : (if a < b then (-1 : Int) else if b < a then 1 else 0) = sg ((a : Int) - b):=by
 unfold sg; (repeat' split) <;> first | rfl | omega
end Go.Abs
namespace Go.Proofs.YtejifalflkbekaaDoor
open Go Go.Abs
theorem isNaNI_spec {H : AH} (a : Int) : AFn Tryd.prog F_cmp_isNaN_int [.int .i64 a] H fun u H' => u = .bool false ∧ H' = H:=by
 refine AFn.enter mixed ir_cmp_isNaN_int_eq (by simp [ir_cmp_isNaN_int]) fun hw => ?_
 simp (disch:=omega) [-getElem?_pos,if_pos,if_neg,decide_eq_true,decide_eq_false,ir_cmp_isNaN_int]
theorem Cross_spec {H : AH} {a b c d : Int} (ha : I64 a) (hb : I64 b) (hc : I64 c) (hd : I64 d) : AFn Tryd.prog F_num_Cross [.int .i64 a,.int .i64 b,.int .i64 c,.int .i64 d] H fun u H' => u = .int .i64 (sg (a * d - c * b)) ∧ H' = H:=by
 refine AFn.calm (fun H0 hs => ?_) rfl
 refine AFn.enter mixed ir_num_Cross_eq (by simp [ir_num_Cross]) fun hw => ?_
 have t1:=times_spec (H:=H0) ha hd
 have t2:=times_spec (H:=H0) hc hb
 generalize a * d = m at *
 generalize c * b = n at *
 simp (disch:=omega) [-getElem?_pos,if_pos,if_neg,decide_eq_true,decide_eq_false,ir_num_Cross]
 refine AFn.pure t1 ?_
 simp (disch:=omega) [-getElem?_pos,if_pos,if_neg,decide_eq_true,decide_eq_false,]
 refine AFn.pure t2 ?_
 have hd1:=fun H => @distance_spec H (decide (m < 0)) (decide (n < 0)) m.natAbs n.natAbs
 have hd2:=fun H => @distance_spec H (decide (n < 0)) (decide (m < 0)) n.natAbs m.natAbs
 unfold cmpW at hd1 hd2
 rw [cmpW_sg] at hd1 hd2
 have r1 : ∀ x y z : Value,Value.agg [x,y,z].toArray = .agg #[x,y,z]:=fun _ _ _ => rfl
 unfold wV wv at *
 by_cases hm : m < 0
 ·by_cases hn : n < 0
  ·have he : sg ((n.natAbs : Int) - m.natAbs) = sg (m - n):=by congr 1; omega
   rw [he] at hd2
   simp only [eq_true hm,eq_true hn,decide_true] at hd1 hd2 ⊢
   simp (disch:=omega) [-getElem?_pos,if_pos,if_neg,decide_eq_true,decide_eq_false,writeA,over,cut3,cut]
   refine AFn.pure (hd2 _) ?_
   simp (disch:=omega) [-getElem?_pos,if_pos,if_neg,decide_eq_true,decide_eq_false,]
  ·have he : sg (m - n) = -1:=by unfold sg; rw [if_pos (by omega)]
   simp only [eq_true hm,eq_false hn,decide_true,decide_false] at hd1 hd2 ⊢
   simp (disch:=omega) [-getElem?_pos,if_pos,if_neg,decide_eq_true,decide_eq_false,writeA,over,cut3,cut,he]
 ·by_cases hn : n < 0
  ·have he : sg (m - n) = 1:=by unfold sg; rw [if_neg (by omega),if_pos (by omega)]
   simp only [eq_false hm,eq_true hn,decide_true,decide_false] at hd1 hd2 ⊢
   simp (disch:=omega) [-getElem?_pos,if_pos,if_neg,decide_eq_true,decide_eq_false,writeA,over,cut3,cut,he]
  ·have he : sg ((m.natAbs : Int) - n.natAbs) = sg (m - n):=by congr 1; omega
   rw [he] at hd1
   simp only [eq_false hm,eq_false hn,decide_false] at hd1 hd2 ⊢
   simp (disch:=omega) [-getElem?_pos,if_pos,if_neg,decide_eq_true,decide_eq_false,writeA,over,cut3,cut]
   refine AFn.pure (hd1 _) ?_
   simp (disch:=omega) [-getElem?_pos,if_pos,if_neg,decide_eq_true,decide_eq_false,]
end Go.Proofs.YtejifalflkbekaaDoor
