/-
  KnapRelaxes: what relaxed items are worth, the price and the order, is the document's.
-/
import Derived.Test.YtllfcbacpoaphaaBu43
import Derived.Test.YtllfcbacpoaphaaKn12
import Derived.Test.YtllfcbacpoaphaaWak16
set_option maxRecDepth 100000
set_option linter.unusedSimpArgs false
set_option linter.unusedVariables false
namespace Go.Proofs.Ytllfcbacpoaphaa
open Go Go.Abs
def EqIK (H1 : AH) (v w : Value) (n : Nat) (k : Nat) (env : Env) (H' : AH) : Prop :=
 env 0 = some v ∧ env 1 = some w ∧ env 12 = some (.int .i64 n) ∧ env 13 = some (.int .i64 k) ∧ H' = H1
def EqQK (H1 : AH) (e : AExit) (env : Env) (H' : AH) : Prop:=e = .exit 0 ∧ H' = H1
theorem equalK_l0 {p q : Nat → Prop} {H1 : AH} {v w : Value} {A : List Int} (hA : SlV p H1 v A) (hB : SlV q H1 w A) {env : Env} (h : EqIK H1 v w A.length 0 env H1) : wpC Try.prog 26 (.loop ir_law16_equal_l0) (EqQK H1) env H1:=by
 refine loop_upto A.length (EqIK H1 v w A.length) (Q:=EqQK H1) h ?_
 rintro k env H' hk ⟨e0,e1,e12,e13,rfl⟩
 obtain ⟨n,hn⟩ : ∃ n,n = A.length:=⟨_,rfl⟩
 by_cases hkn : k < A.length
 ·obtain ⟨b0,off,sp,cap,cs,hcv,q1,q2⟩:=ints_rd hA (by omega)
  obtain ⟨q3,_⟩:=q2 k hkn
  obtain ⟨b1,off1,sp1,cap1,cs1,hcv1,p1,p2⟩:=ints_rd hB (by omega)
  obtain ⟨p3,_⟩:=p2 k hkn
  subst hcv hcv1
  generalize A[k] = x at *
  have hmx:=hA.max
  have hws : IntKind.i64.wrap ((k : Int) + 1) = (k : Int) + 1:=IntWalk.i64_in _ (by omega)
  simp (disch:=omega) [-getElem?_pos,if_pos,if_neg,decide_eq_true,decide_eq_false,ir_law16_equal_l0,e0,e1,e12,e13,hkn,q1,q3,p1,p3,hws]
  exact ⟨by simp [e0],by simp [e1],by simp [e12],by simp,rfl⟩
 ·obtain rfl : k = A.length:=by omega
  simp (disch:=omega) [-getElem?_pos,if_pos,if_neg,decide_eq_true,decide_eq_false,ir_law16_equal_l0,e12,e13]
  exact ⟨rfl,rfl⟩
theorem equalK_spec {p q : Nat → Prop} {H : AH} {v w : Value} {A : List Int} (hA : SlV p H v A) (hB : SlV q H w A) : AFn Try.prog F_law16_equal [v,w] H fun u H' => u = .bool true ∧ H' = H:=by
 refine AFn.enter mixed ir_law16_equal_eq (by simp [ir_law16_equal]) fun hw => ?_
 obtain ⟨xa,xc,hv⟩:=hA.slice
 obtain ⟨ya,yc,hw2⟩:=hB.slice
 subst hv hw2
 simp (disch:=omega) [-getElem?_pos,if_pos,if_neg,decide_eq_true,decide_eq_false,ir_law16_equal]
 refine wpC_use (equalK_l0 hA hB ⟨by simp,by simp,by simp,by simp,rfl⟩) ?_
 rintro e env2 H2 ⟨rfl,rfl⟩ _
 simp (disch:=omega) [-getElem?_pos,if_pos,if_neg,decide_eq_true,decide_eq_false,]
end Go.Proofs.Ytllfcbacpoaphaa
