/-
  package dual, and the document: which sets may be; is an element in a set; prices together.
-/
import Derived.Test.YtejifalflkbekaaGreatDoorDs2
import Derived.Test.YtejifalflkbekaaGreatDoorBu28
import Derived.Test.YtejifalflkbekaaGreatDoorDp1
import Derived.Test.YtejifalflkbekaaGreatDoorRef09c
set_option maxRecDepth 100000
set_option linter.unusedSimpArgs false
set_option linter.unusedVariables false
namespace Go.Proofs.YtejifalflkbekaaGreatDoor
open Go Go.Abs Go.Proofs.YtejifalflkbekaaGreatDoor.Bs
theorem dInstV {p : Nat → Prop} {H : AH} {v : Value} {M : List SetD} {n : Int} (hn : I64 n) (h : SlV p H v M) : InstV p H (.agg #[.int .i64 3,.int .i64 0,.slice none 0 0,.slice none 0 0,.int .i64 n,v]) (dInst n M) :=
 ⟨.slice none 0 0,.slice none 0 0,v,rfl,by show I64 3; unfold I64; omega,by show I64 0; unfold I64; omega,hn,SlV.nil,SlV.nil,h⟩
theorem may_spec {p : Nat → Prop} {H : AH} {v : Value} {M : List SetD} {n : Int} (hn : I64 n) (h : SlV p H v M) : AFn Tryz.prog F_dual_may [.int .i64 n,v] H fun u H' => u = .bool (mayD n M) ∧ H' = H:=by
 refine AFn.enter mixed ir_dual_may_eq (by simp [ir_dual_may]) fun hw => ?_
 have hc:=Check_spec (dInstV hn h)
 have hcell:=h.cell
 have hm : mayD n M = decide ((dInst n M).check = 0):=rfl
 rw [hm]
 generalize (dInst n M).check = c at *
 simp (disch:=omega) [-getElem?_pos,if_pos,if_neg,decide_eq_true,decide_eq_false,ir_dual_may,hcell.1,hcell.2]
 refine AFn.pure hc ?_
 simp (disch:=omega) [-getElem?_pos,if_pos,if_neg,decide_eq_true,decide_eq_false,]
theorem mayR_spec {p : Nat → Prop} {H : AH} {v : Value} {M : List SetD} {n : Int} (hn : I64 n) (h : SlV p H v M) : AFn Tryz.prog F_ref18_may [.int .i64 n,v] H fun u H' => u = .bool (mayD n M) ∧ H' = H:=by
 refine AFn.enter mixed ir_ref18_may_eq (by simp [ir_ref18_may]) fun hw => ?_
 have hc:=Check9_spec (dInstV hn h)
 have hcell:=h.cell
 have hm : mayD n M = decide ((dInst n M).check = 0):=rfl
 rw [hm]
 generalize (dInst n M).check = c at *
 simp (disch:=omega) [-getElem?_pos,if_pos,if_neg,decide_eq_true,decide_eq_false,ir_ref18_may,hcell.1,hcell.2]
 refine AFn.pure hc ?_
 simp (disch:=omega) [-getElem?_pos,if_pos,if_neg,decide_eq_true,decide_eq_false,]
/-! ### is it in? -/
def RhI (H1 : AH) (q : Nat) (E : List Int) (e : Int) (k : Nat) (env : Env) (H' : AH) : Prop :=
 H' = H1 ∧ env 1 = some (.int .i64 e) ∧ env 2 = some (.pointer (some ⟨q,0,none⟩)) ∧ env 5 = some (.int .i64 k) ∧ ∀ j (h : j < E.length),j < k → E[j] ≠ e
def RhQ (E : List Int) (e : Int) (x : AExit) (env : Env) (H' : AH) : Prop:=(x = .exit 0 ∧ e ∉ E) ∨ (x = .ret ∧ e ∈ E ∧ env 4 = some (.bool true))
theorem hasR_l0 {p : Nat → Prop} {H1 : AH} {q : Nat} {c : Value} {ev : Value} {E : List Int} {e : Int} (hE : SlV p H1 ev E) (hl : E.length ≤ 1000000) (hc : H1.cells q = some [c,ev]) {env : Env} (h : RhI H1 q E e 0 env H1) :
  wpC Tryz.prog 20 (.loop ir_ref18_has_l0) (RhQ E e) env H1:=by
 refine loop_upto E.length (RhI H1 q E e) (Q:=RhQ E e) h ?_
 rintro k env H' hk ⟨rfl,e1,e2,e5,hno⟩
 obtain ⟨va,vc,hve⟩:=hE.slice
 by_cases hkn : k < E.length
 ·obtain ⟨b0,off,sp,cap,cs,hv,q1,q2⟩:=ints_rd hE (by omega)
  obtain ⟨q3,_⟩:=q2 k hkn
  subst hv
  by_cases hx : E[k] = e
  ·simp (disch:=omega) [-getElem?_pos,if_pos,if_neg,decide_eq_true,decide_eq_false,ir_ref18_has_l0,e1,e2,e5,hc,hkn,q1,q3,hx]
   exact .inr ⟨rfl,by rw [← hx]; exact List.getElem_mem hkn,by simp⟩
  ·simp (disch:=omega) [-getElem?_pos,if_pos,if_neg,decide_eq_true,decide_eq_false,ir_ref18_has_l0,e1,e2,e5,hc,hkn,q1,q3,hx,IntWalk.i64_in]
   refine ⟨rfl,by simp [e1],by simp [e2],by simp,fun j hj hjk => ?_⟩
   rcases Nat.lt_or_ge j k with hh | hh
   ·exact hno j hj hh
   ·have : j = k:=by omega
    subst this; exact hx
 ·obtain rfl : k = E.length:=by omega
  subst hve
  simp (disch:=omega) [-getElem?_pos,if_pos,if_neg,decide_eq_true,decide_eq_false,ir_ref18_has_l0,e1,e2,e5,hc]
  exact .inl ⟨rfl,fun he => by obtain ⟨j,hj,hh⟩:=List.getElem_of_mem he; exact hno j hj hj hh⟩
theorem hasR_spec {p : Nat → Prop} {H : AH} {ev : Value} {c : Int} {E : List Int} {e : Int} (hE : SlV p H ev E) (hl : E.length ≤ 1000000) : AFn Tryz.prog F_ref18_has [.agg #[.int .i64 c,ev],.int .i64 e] H fun u H' => u = .bool (decide (e ∈ E)) ∧ H' = H:=by
 refine AFn.calm (fun H0 hsm => ?_) rfl
 have hE0:=hE.same hsm
 refine AFn.enter mixed ir_ref18_has_eq (by simp [ir_ref18_has]) fun hw => ?_
 have k1 : Keep [] H0 (H0.alloc (.row [.int .i64 c,ev] T_secateurref09_Set true)):=.alloc
 have hE1:=hE0.kept hw k1
 have hc1 : (H0.alloc (.row [.int .i64 c,ev] T_secateurref09_Set true)).cells H0.next = some [.int .i64 c,ev]:=AH.cells_alloc_new
 obtain ⟨va,vc,rfl⟩:=hE.slice
 simp (disch:=omega) [-getElem?_pos,if_pos,if_neg,decide_eq_true,decide_eq_false,ir_ref18_has]
 generalize H0.alloc (.row [.int .i64 c,.slice va E.length vc] T_secateurref09_Set true) = H1 at *
 refine wpC_use (hasR_l0 (q:=H0.next) (e:=e) hE1 hl hc1 ⟨rfl,by simp,by simp,by simp,fun j hj h0 => by omega⟩) ?_
 rintro x env2 H2 (⟨rfl,hn⟩ | ⟨rfl,hy,f4⟩) _
 ·simp (disch:=omega) [-getElem?_pos,if_pos,if_neg,decide_eq_true,decide_eq_false,hn]
 ·simp (disch:=omega) [-getElem?_pos,if_pos,if_neg,decide_eq_true,decide_eq_false,hy,f4]
/-! ### prices together -/
end Go.Proofs.YtejifalflkbekaaGreatDoor
