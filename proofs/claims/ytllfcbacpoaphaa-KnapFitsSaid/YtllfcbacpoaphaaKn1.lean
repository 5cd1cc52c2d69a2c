/-
  package knap: which item comes ahead of another one.
-/
import Derived.Test.YtllfcbacpoaphaaKord
import Derived.Test.YtllfcbacpoaphaaNum3
import Derived.Test.YtllfcbacpoaphaaIrT
import Derived.Test.YtllfcbacpoaphaaIrK
set_option maxRecDepth 100000
set_option linter.unusedSimpArgs false
set_option linter.unusedVariables false
namespace Go.Abs
open Go
theorem cmpW_sg {a b : Nat} : (if a < b then (-1 : Int) else if b < a then 1 else 0) = sg ((a : Int) - b):=by
 unfold sg; (repeat' split) <;> first | rfl | omega
end Go.Abs
namespace Go.Proofs.Ytllfcbacpoaphaa
open Go Go.Abs
theorem isNaNI_spec {H : AH} (a : Int) : AFn Try.prog F_cmp_isNaN_int [.int .i64 a] H fun u H' => u = .bool false ∧ H' = H:=by
 refine AFn.enter mixed ir_cmp_isNaN_int_eq (by simp [ir_cmp_isNaN_int]) fun hw => ?_
 simp (disch:=omega) [-getElem?_pos,if_pos,if_neg,decide_eq_true,decide_eq_false,ir_cmp_isNaN_int]
theorem CompareI_spec {H : AH} (a b : Int) : AFn Try.prog F_cmp_Compare_int [.int .i64 a,.int .i64 b] H fun u H' => u = .int .i64 (sg (a - b)) ∧ H' = H:=by
 refine AFn.enter mixed ir_cmp_Compare_int_eq (by simp [ir_cmp_Compare_int]) fun hw => ?_
 simp (disch:=omega) [-getElem?_pos,if_pos,if_neg,decide_eq_true,decide_eq_false,ir_cmp_Compare_int]
 refine AFn.pure (isNaNI_spec _) ?_
 simp (disch:=omega) [-getElem?_pos,if_pos,if_neg,decide_eq_true,decide_eq_false,]
 refine AFn.pure (isNaNI_spec _) ?_
 have hs:=@sg_lt (a - b)
 have hg:=@sg_gt (a - b)
 have hr : -1 ≤ sg (a - b) ∧ sg (a - b) ≤ 1:=by unfold sg; (repeat' split) <;> omega
 by_cases h1 : a < b
 ·simp (disch:=omega) [-getElem?_pos,if_pos,if_neg,decide_eq_true,decide_eq_false,h1]; omega
 ·by_cases h2 : b < a
  ·simp (disch:=omega) [-getElem?_pos,if_pos,if_neg,decide_eq_true,decide_eq_false,h1,h2]; omega
  ·simp (disch:=omega) [-getElem?_pos,if_pos,if_neg,decide_eq_true,decide_eq_false,h1,h2]; omega
theorem Cross_spec {H : AH} {a b c d : Int} (ha : I64 a) (hb : I64 b) (hc : I64 c) (hd : I64 d) : AFn Try.prog F_num_Cross [.int .i64 a,.int .i64 b,.int .i64 c,.int .i64 d] H fun u H' => u = .int .i64 (sg (a * d - c * b)) ∧ H' = H:=by
 refine AFn.calm (fun H0 hs => ?_) rfl
 refine AFn.enter mixed ir_num_Cross_eq (by simp [ir_num_Cross]) fun hw => ?_
 have t1:=times_spec (H:=H0) ha hd
 have t2:=times_spec (H:=H0) hc hb
 generalize a * d = m at *
 generalize c * b = n at *
 simp (disch:=omega) [-getElem?_pos,if_pos,if_neg,decide_eq_true,decide_eq_false,ir_num_Cross]
 refine AFn.pure t1 ?_
 simp (disch:=omega) [-getElem?_pos,if_pos,if_neg,decide_eq_true,decide_eq_false,]
 refine AFn.pure t2 ?_
 have hd1:=fun H => @distance_spec H (decide (m < 0)) (decide (n < 0)) m.natAbs n.natAbs
 have hd2:=fun H => @distance_spec H (decide (n < 0)) (decide (m < 0)) n.natAbs m.natAbs
 unfold cmpW at hd1 hd2
 rw [cmpW_sg] at hd1 hd2
 have r1 : ∀ x y z : Value,Value.agg [x,y,z].toArray = .agg #[x,y,z]:=fun _ _ _ => rfl
 unfold wV wv at *
 by_cases hm : m < 0
 ·by_cases hn : n < 0
  ·have he : sg ((n.natAbs : Int) - m.natAbs) = sg (m - n):=by congr 1; omega
   rw [he] at hd2
   simp only [eq_true hm,eq_true hn,decide_true] at hd1 hd2 ⊢
   simp (disch:=omega) [-getElem?_pos,if_pos,if_neg,decide_eq_true,decide_eq_false,writeA,over,cut3,cut]
   refine AFn.pure (hd2 _) ?_
   simp (disch:=omega) [-getElem?_pos,if_pos,if_neg,decide_eq_true,decide_eq_false,]
  ·have he : sg (m - n) = -1:=by unfold sg; rw [if_pos (by omega)]
   simp only [eq_true hm,eq_false hn,decide_true,decide_false] at hd1 hd2 ⊢
   simp (disch:=omega) [-getElem?_pos,if_pos,if_neg,decide_eq_true,decide_eq_false,writeA,over,cut3,cut,he]
 ·by_cases hn : n < 0
  ·have he : sg (m - n) = 1:=by unfold sg; rw [if_neg (by omega),if_pos (by omega)]
   simp only [eq_false hm,eq_true hn,decide_true,decide_false] at hd1 hd2 ⊢
   simp (disch:=omega) [-getElem?_pos,if_pos,if_neg,decide_eq_true,decide_eq_false,writeA,over,cut3,cut,he]
  ·have he : sg ((m.natAbs : Int) - n.natAbs) = sg (m - n):=by congr 1; omega
   rw [he] at hd1
   simp only [eq_false hm,eq_false hn,decide_false] at hd1 hd2 ⊢
   simp (disch:=omega) [-getElem?_pos,if_pos,if_neg,decide_eq_true,decide_eq_false,writeA,over,cut3,cut]
   refine AFn.pure (hd1 _) ?_
   simp (disch:=omega) [-getElem?_pos,if_pos,if_neg,decide_eq_true,decide_eq_false,]
def itV (x : Int × Int) : Value:=.agg #[.int .i64 x.1,.int .i64 x.2]
theorem cut2i {a b : Value} : cut [a,b] 0 2 = some [a,b]:=by simp [cut]
theorem light_spec {H : AH} {x : Int × Int} : AFn Try.prog F_knap_worth_1 [itV x] H fun u H' => u = .int .i64 (if x.2 = 0 then 0 else 1) ∧ H' = H:=by
 refine AFn.calm (fun H0 hs => ?_) rfl
 refine AFn.enter mixed ir_knap_worth_1_eq (by simp [ir_knap_worth_1]) fun hw => ?_
 obtain ⟨a,b⟩:=x
 unfold itV
 by_cases h : b = 0
 ·subst h; simp (disch:=omega) [-getElem?_pos,if_pos,if_neg,decide_eq_true,decide_eq_false,ir_knap_worth_1]
 ·have h':=eq_false h
  simp (disch:=omega) [-getElem?_pos,if_pos,if_neg,decide_eq_true,decide_eq_false,ir_knap_worth_1,h']
theorem worth_spec {H : AH} {x y : Int × Int} (hx : I64 x.1 ∧ I64 x.2) (hy : I64 y.1 ∧ I64 y.2) : AFn Try.prog F_knap_worth [itV x,itV y] H fun u H' => u = .int .i64 (worthI x y) ∧ H' = H:=by
 refine AFn.calm (fun H0 hs => ?_) rfl
 refine AFn.enter mixed ir_knap_worth_eq (by simp [ir_knap_worth]) fun hw => ?_
 have l1:=fun H => @light_spec H x
 have l2:=fun H => @light_spec H y
 have hc:=fun H => Cross_spec (H:=H) hx.1 hx.2 hy.1 hy.2
 have hw0 : worthI x y = if x.2 = 0 then (if y.2 = 0 then 0 else -1) else if y.2 = 0 then 1 else - sg (x.1 * y.2 - y.1 * x.2):=rfl
 have hr : -1 ≤ sg (x.1 * y.2 - y.1 * x.2) ∧ sg (x.1 * y.2 - y.1 * x.2) ≤ 1:=by unfold sg; (repeat' split) <;> omega
 obtain ⟨a,b⟩:=x
 obtain ⟨c,d⟩:=y
 simp only at hw0 hr hc
 generalize sg (a * d - c * b) = z at *
 unfold itV at *
 simp (disch:=omega) [-getElem?_pos,if_pos,if_neg,decide_eq_true,decide_eq_false,ir_knap_worth,cut2i]
 refine AFnD.of (l1 _) ?_
 simp (disch:=omega) [-getElem?_pos,if_pos,if_neg,decide_eq_true,decide_eq_false,cut2i]
 refine AFnD.of (l2 _) ?_
 simp (disch:=omega) [-getElem?_pos,if_pos,if_neg,decide_eq_true,decide_eq_false,]
 refine AFnD.of (CompareI_spec _ _) ?_
 by_cases hb : b = 0
 ·by_cases hd : d = 0
  ·rw [if_pos hb,if_pos hd] at hw0
   subst hb hd
   simp (disch:=omega) [-getElem?_pos,if_pos,if_neg,decide_eq_true,decide_eq_false,hw0,sg]
  ·rw [if_pos hb,if_neg hd] at hw0
   have hd':=eq_false hd
   subst hb
   simp (disch:=omega) [-getElem?_pos,if_pos,if_neg,decide_eq_true,decide_eq_false,hw0,sg,hd']
 ·by_cases hd : d = 0
  ·rw [if_neg hb,if_pos hd] at hw0
   have hb':=eq_false hb
   subst hd
   simp (disch:=omega) [-getElem?_pos,if_pos,if_neg,decide_eq_true,decide_eq_false,hw0,sg,hb']
  ·rw [if_neg hb,if_neg hd] at hw0
   have hb':=eq_false hb
   have hd':=eq_false hd
   simp (disch:=omega) [-getElem?_pos,if_pos,if_neg,decide_eq_true,decide_eq_false,sg,hb',hd']
   refine AFn.pure (hc _) ?_
   simp (disch:=omega) [-getElem?_pos,if_pos,if_neg,decide_eq_true,decide_eq_false,hw0,IntWalk.i64_in]
def ordC (q : Nat) : Value:=.func (.func F_knap_Order_1) #[] #[.pointer (some ⟨q,0,none⟩)]
theorem ord1_spec {H : AH} {p : Nat → Prop} {q : Nat} {lv : Value} {L : List (Int × Int)} (hq : H.cells q = some [lv]) (hL : SlV p H lv L) {a b : Nat} (ha : a < L.length) (hb : b < L.length) :
  AFn Try.prog F_knap_Order_1 [.int .i64 (a : Int),.int .i64 (b : Int),.pointer (some ⟨q,0,none⟩)] H fun u H' => u = .int .i64 (worthI (itm L a) (itm L b)) ∧ H' = H:=by
 refine AFn.enter mixed ir_knap_Order_1_eq (by simp [ir_knap_Order_1]) fun hw => ?_
 obtain ⟨b0,off,sp,cap,cs,hv,q1,q2⟩:=pairs_rd hL (by omega)
 obtain ⟨a1,a2,a3,a4,a5⟩:=q2 a ha
 obtain ⟨c1,c2,c3,c4,c5⟩:=q2 b hb
 have hx:=worth_spec (H:=H) (x:=L[a]) (y:=L[b]) ⟨a4,a5⟩ ⟨c4,c5⟩
 have e1 : itm L (a : Int) = L[a]:=by unfold itm; rw [Int.toNat_natCast,List.getD_eq_getElem?_getD,List.getElem?_eq_getElem ha]; rfl
 have e2 : itm L (b : Int) = L[b]:=by unfold itm; rw [Int.toNat_natCast,List.getD_eq_getElem?_getD,List.getElem?_eq_getElem hb]; rfl
 rw [e1,e2]
 unfold itV at hx
 subst hv
 generalize L[a] = x at *
 generalize L[b] = y at *
 simp (disch:=omega) [-getElem?_pos,if_pos,if_neg,decide_eq_true,decide_eq_false,ir_knap_Order_1,hq,q1,a1,c1,ha,hb]
 refine AFnD.of hx ?_
 simp (disch:=omega) [-getElem?_pos,if_pos,if_neg,decide_eq_true,decide_eq_false,]
end Go.Proofs.Ytllfcbacpoaphaa
