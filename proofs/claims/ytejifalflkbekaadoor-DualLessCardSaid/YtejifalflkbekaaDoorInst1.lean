/-
  Contracts of package inst: which instances may be.
-/
import Derived.Test.YtejifalflkbekaaDoorInst0
import Derived.Test.YtejifalflkbekaaDoorIr
set_option maxRecDepth 100000
set_option linter.unusedSimpArgs false
set_option linter.unusedVariables false
namespace Go.Proofs.YtejifalflkbekaaDoor
open Go Go.Abs
abbrev Ty : Nat → Prop:=fun _ => True
abbrev instC (x : InstD) (iv cv sv : Value) : List Value:=[.int .i64 x.kind,.int .i64 x.cap,iv,cv,.int .i64 x.size,sv]
theorem inst_cut (x : InstD) (iv cv sv : Value) : cut (instC x iv cv sv) 0 6 = some (instC x iv cv sv):=rfl
theorem Kis_spec {H : AH} (k : Int) : AFn Tryd.prog F_inst_Kind_is [.int .i64 k] H fun u H' => u = .bool (decide (0 ≤ k ∧ k < 4)) ∧ H' = H:=by
 refine AFn.enter mixed ir_inst_Kind_is_eq (by simp [ir_inst_Kind_is]) fun hw => ?_
 by_cases h : 0 ≤ k <;> by_cases h2 : k < 4 <;> simp (disch:=omega) [-getElem?_pos,if_pos,if_neg,decide_eq_true,decide_eq_false,ir_inst_Kind_is,h,h2]
theorem Ksq_spec {H : AH} (k : Int) : AFn Tryd.prog F_inst_Kind_square [.int .i64 k] H fun u H' => u = .bool (decide (k = 1 ∨ k = 2)) ∧ H' = H:=by
 refine AFn.enter mixed ir_inst_Kind_square_eq (by simp [ir_inst_Kind_square]) fun hw => ?_
 by_cases h : k = 1 <;> by_cases h2 : k = 2 <;> simp (disch:=omega) [-getElem?_pos,if_pos,if_neg,decide_eq_true,decide_eq_false,ir_inst_Kind_square,h,h2]
theorem from_spec {H : AH} (n lo : Int) : AFn Tryd.prog F_inst_from [.int .i64 n,.int .i64 lo] H fun u H' => u = .bool (decide (Mag lo n)) ∧ H' = H:=by
 refine AFn.enter mixed ir_inst_from_eq (by simp [ir_inst_from]) fun hw => ?_
 by_cases h : lo ≤ n <;> by_cases h2 : n ≤ 2147483648 <;> simp (disch:=omega) [-getElem?_pos,if_pos,if_neg,decide_eq_true,decide_eq_false,ir_inst_from,h,h2,Mag]
section
variable {p : Nat → Prop} {H : AH} {v : Value} {x : InstD}
theorem Lean_spec (hx : InstV p H v x) : AFn Tryd.prog F_inst_Inst_lean [v] H fun u H' => u = .bool (tr x.Lean) ∧ H' = H:=by
 refine AFn.calm (fun H0 hs => ?_) rfl
 obtain ⟨iv,cv,sv,rfl,_,_,_,h1,h2,h3⟩:=hx.same hs
 obtain ⟨kind,cap,items,cost,size,sets⟩:=x
 simp only at h1 h2 h3 ⊢
 obtain ⟨a1,c1,rfl⟩:=h1.slice
 obtain ⟨a2,c2,rfl⟩:=h2.slice
 obtain ⟨a3,c3,rfl⟩:=h3.slice
 refine AFn.enter mixed ir_inst_Inst_lean_eq (by simp [ir_inst_Inst_lean]) fun hw => ?_
 have hL : tr (InstD.Lean ⟨kind,cap,items,cost,size,sets⟩) = true ↔ (kind = 0 ∨ (cap = 0 ∧ items.length = 0)) ∧ (kind = 1 ∨ kind = 2 ∨ cost.length = 0) ∧ (kind = 3 ∨ (size = 0 ∧ sets.length = 0)) :=
  tr_iff.trans ⟨fun ⟨q1,q2,q3⟩ => ⟨q1,q2,q3⟩,fun ⟨q1,q2,q3⟩ => ⟨q1,q2,q3⟩⟩
 generalize tr (InstD.Lean ⟨kind,cap,items,cost,size,sets⟩) = r at *
 clear h1 h2 h3 hx
 generalize items.length = ni at *
 generalize cost.length = nc at *
 generalize sets.length = ns at *
 by_cases k0 : kind = 0
 ·subst k0
  simp (disch:=omega) [-getElem?_pos,if_pos,if_neg,decide_eq_true,decide_eq_false,ir_inst_Inst_lean]
  refine AFn.pure (Ksq_spec 0) ?_
  by_cases hc : nc = 0
  ·by_cases hs : size = 0
   ·simp (disch:=omega) [-getElem?_pos,if_pos,if_neg,decide_eq_true,decide_eq_false,hc,hs]
    cases r <;> simp at hL ⊢ <;> omega
   ·simp (disch:=omega) [-getElem?_pos,if_pos,if_neg,decide_eq_true,decide_eq_false,hc,hs]
    cases r <;> simp at hL ⊢ <;> omega
  ·simp (disch:=omega) [-getElem?_pos,if_pos,if_neg,decide_eq_true,decide_eq_false,hc]
   cases r <;> simp at hL ⊢ <;> omega
 ·by_cases hci : cap = 0
  ·by_cases hi : ni = 0
   ·simp (disch:=omega) [-getElem?_pos,if_pos,if_neg,decide_eq_true,decide_eq_false,ir_inst_Inst_lean,k0,hci,hi]
    refine AFn.pure (Ksq_spec kind) ?_
    by_cases hsq : kind = 1 ∨ kind = 2
    ·have k3 : kind ≠ 3:=by omega
     by_cases hs : size = 0
     ·simp (disch:=omega) [-getElem?_pos,if_pos,if_neg,decide_eq_true,decide_eq_false,hsq,hs,k3]
      cases r <;> simp at hL ⊢ <;> omega
     ·simp (disch:=omega) [-getElem?_pos,if_pos,if_neg,decide_eq_true,decide_eq_false,hsq,hs,k3]
      cases r <;> simp at hL ⊢ <;> omega
    ·by_cases hc : nc = 0
     ·by_cases k3 : kind = 3
      ·simp (disch:=omega) [-getElem?_pos,if_pos,if_neg,decide_eq_true,decide_eq_false,hsq,hc,k3]
       cases r <;> simp at hL ⊢ <;> omega
      ·by_cases hs : size = 0
       ·simp (disch:=omega) [-getElem?_pos,if_pos,if_neg,decide_eq_true,decide_eq_false,hsq,hc,k3,hs]
        cases r <;> simp at hL ⊢ <;> omega
       ·simp (disch:=omega) [-getElem?_pos,if_pos,if_neg,decide_eq_true,decide_eq_false,hsq,hc,k3,hs]
        cases r <;> simp at hL ⊢ <;> omega
     ·simp (disch:=omega) [-getElem?_pos,if_pos,if_neg,decide_eq_true,decide_eq_false,hsq,hc]
      cases r <;> simp at hL ⊢ <;> omega
   ·simp (disch:=omega) [-getElem?_pos,if_pos,if_neg,decide_eq_true,decide_eq_false,ir_inst_Inst_lean,k0,hci,hi]
    cases r <;> simp at hL ⊢ <;> omega
  ·simp (disch:=omega) [-getElem?_pos,if_pos,if_neg,decide_eq_true,decide_eq_false,ir_inst_Inst_lean,k0,hci]
   cases r <;> simp at hL ⊢ <;> omega
theorem Few_spec (hx : InstV p H v x) : AFn Tryd.prog F_inst_Inst_few [v] H fun u H' => u = .bool (tr x.Few) ∧ H' = H:=by
 refine AFn.calm (fun H0 hs => ?_) rfl
 obtain ⟨iv,cv,sv,rfl,_,_,_,h1,h2,h3⟩:=hx.same hs
 obtain ⟨kind,cap,items,cost,size,sets⟩:=x
 simp only at h1 h2 h3 ⊢
 obtain ⟨a1,c1,rfl⟩:=h1.slice
 obtain ⟨a2,c2,rfl⟩:=h2.slice
 obtain ⟨a3,c3,rfl⟩:=h3.slice
 refine AFn.enter mixed ir_inst_Inst_few_eq (by simp [ir_inst_Inst_few]) fun hw => ?_
 have hL : tr (InstD.Few ⟨kind,cap,items,cost,size,sets⟩) = true ↔ (kind = 1 ∨ kind = 2 → 1 ≤ cost.length ∧ cost.length ≤ 64) ∧ items.length ≤ 4096 ∧ sets.length ≤ 4096 ∧ 0 ≤ size ∧ size ≤ 4096 :=
  tr_iff.trans ⟨fun ⟨q1,q2,q3,q4,q5⟩ => ⟨q1,q2,q3,q4,q5⟩,fun ⟨q1,q2,q3,q4,q5⟩ => ⟨q1,q2,q3,q4,q5⟩⟩
 generalize tr (InstD.Few ⟨kind,cap,items,cost,size,sets⟩) = r at *
 clear h1 h2 h3 hx
 generalize items.length = ni at *
 generalize cost.length = nc at *
 generalize sets.length = ns at *
 simp (disch:=omega) [-getElem?_pos,if_pos,if_neg,decide_eq_true,decide_eq_false,ir_inst_Inst_few]
 refine AFn.pure (Ksq_spec kind) ?_
 by_cases hsq : kind = 1 ∨ kind = 2
 ·by_cases q1 : nc < 1
  ·simp (disch:=omega) [-getElem?_pos,if_pos,if_neg,decide_eq_true,decide_eq_false,hsq]
   cases r <;> simp at hL ⊢ <;> omega
  ·by_cases q2 : nc > 64
   ·simp (disch:=omega) [-getElem?_pos,if_pos,if_neg,decide_eq_true,decide_eq_false,hsq]
    cases r <;> simp at hL ⊢ <;> omega
   ·by_cases i1 : ni ≤ 4096
    ·by_cases i2 : ns ≤ 4096
     ·by_cases i3 : 0 ≤ size
      ·simp (disch:=omega) [-getElem?_pos,if_pos,if_neg,decide_eq_true,decide_eq_false,hsq,i3]
       cases r <;> simp at hL ⊢ <;> omega
      ·simp (disch:=omega) [-getElem?_pos,if_pos,if_neg,decide_eq_true,decide_eq_false,hsq,i3]
       cases r <;> simp at hL ⊢ <;> omega
     ·simp (disch:=omega) [-getElem?_pos,if_pos,if_neg,decide_eq_true,decide_eq_false,hsq]
      cases r <;> simp at hL ⊢ <;> omega
    ·simp (disch:=omega) [-getElem?_pos,if_pos,if_neg,decide_eq_true,decide_eq_false,hsq]
     cases r <;> simp at hL ⊢ <;> omega
 ·by_cases i1 : ni ≤ 4096
  ·by_cases i2 : ns ≤ 4096
   ·by_cases i3 : 0 ≤ size
    ·simp (disch:=omega) [-getElem?_pos,if_pos,if_neg,decide_eq_true,decide_eq_false,hsq,i3]
     cases r <;> simp at hL ⊢ <;> omega
    ·simp (disch:=omega) [-getElem?_pos,if_pos,if_neg,decide_eq_true,decide_eq_false,hsq,i3]
     cases r <;> simp at hL ⊢ <;> omega
   ·simp (disch:=omega) [-getElem?_pos,if_pos,if_neg,decide_eq_true,decide_eq_false,hsq]
    cases r <;> simp at hL ⊢ <;> omega
  ·simp (disch:=omega) [-getElem?_pos,if_pos,if_neg,decide_eq_true,decide_eq_false,hsq]
   cases r <;> simp at hL ⊢ <;> omega
end
structure Bx (H1 : AH) (q : Nat) (x : InstD) (iv cv sv : Value) : Prop where
 c : H1.cells q = some (instC x iv cv sv)
 i : SlV Ty H1 iv x.items
 m : SlV Ty H1 cv x.cost
 s : SlV Ty H1 sv x.sets
theorem Bx.kept {H1 H2 : AH} {q : Nat} {x : InstD} {iv cv sv : Value} (h : Bx H1 q x iv cv sv) (hw : WF H1) (hk : Keep [] H1 H2) : Bx H2 q x iv cv sv :=
 ⟨cells_kept hw hk h.c,h.i.kept hw hk,h.m.kept hw hk,h.s.kept hw hk⟩
theorem Bx.make {p : Nat → Prop} {H0 : AH} (hw : WF H0) {x : InstD} {iv cv sv : Value} {t : Nat} (h1 : SlV p H0 iv x.items) (h2 : SlV p H0 cv x.cost) (h3 : SlV p H0 sv x.sets) : Bx (H0.alloc (.row (instC x iv cv sv) t true)) H0.next x iv cv sv :=
 ⟨AH.cells_alloc_new,(h1.kept hw .alloc).any,(h2.kept hw .alloc).any,(h3.kept hw .alloc).any⟩
end Go.Proofs.YtejifalflkbekaaDoor
