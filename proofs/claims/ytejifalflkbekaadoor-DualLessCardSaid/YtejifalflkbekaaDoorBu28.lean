/-
  The compiled bodies of the functions of this seat, as the kernel reckons them (written by a program of this place).
-/
import Derived.Test.YtejifalflkbekaaDoorA31
import Derived.Test.YtejifalflkbekaaDoorProg
import Derived.KernelRfl
import Derived.Test.YtejifalflkbekaaDoorIr
import Derived.Test.YtejifalflkbekaaDoorInst3
import Derived.Test.YtejifalflkbekaaDoorDs2
import Derived.Test.YtejifalflkbekaaDoorBu26
import Derived.Test.YtejifalflkbekaaDoorDp1

set_option maxRecDepth 100000
namespace Go.Proofs.YtejifalflkbekaaDoor
open Go Go.Abs
variable {vs : List Value} {H : AH} {Q : Value → AH → Prop}
end Go.Proofs.YtejifalflkbekaaDoor

set_option maxRecDepth 100000
namespace Go.Proofs.YtejifalflkbekaaDoor
open Go Go.Abs
end Go.Proofs.YtejifalflkbekaaDoor

set_option maxRecDepth 100000
namespace Go.Proofs.YtejifalflkbekaaDoor
open Go Go.Abs
end Go.Proofs.YtejifalflkbekaaDoor

set_option maxRecDepth 100000
set_option maxHeartbeats 4000000
namespace Go.Proofs.YtejifalflkbekaaDoor
open Go Go.Abs
end Go.Proofs.YtejifalflkbekaaDoor

set_option maxRecDepth 100000
namespace Go.Proofs.YtejifalflkbekaaDoor
open Go Go.Abs Go.Proofs.YtejifalflkbekaaDoor.Bs
theorem dInstV {p : Nat → Prop} {H : AH} {v : Value} {M : List SetD} {n : Int} (hn : I64 n) (h : SlV p H v M) : InstV p H (.agg #[.int .i64 3,.int .i64 0,.slice none 0 0,.slice none 0 0,.int .i64 n,v]) (dInst n M) :=
 ⟨.slice none 0 0,.slice none 0 0,v,rfl,by show I64 3; unfold I64; omega,by show I64 0; unfold I64; omega,hn,SlV.nil,SlV.nil,h⟩
theorem may_spec {p : Nat → Prop} {H : AH} {v : Value} {M : List SetD} {n : Int} (hn : I64 n) (h : SlV p H v M) : AFn Tryd.prog F_dual_may [.int .i64 n,v] H fun u H' => u = .bool (mayD n M) ∧ H' = H:=by
 refine AFn.enter mixed ir_dual_may_eq (by simp [ir_dual_may]) fun hw => ?_
 have hc:=Check_spec (dInstV hn h)
 have hcell:=h.cell
 have hm : mayD n M = decide ((dInst n M).check = 0):=rfl
 rw [hm]
 generalize (dInst n M).check = c at *
 simp (disch:=omega) [-getElem?_pos,if_pos,if_neg,decide_eq_true,decide_eq_false,ir_dual_may,hcell.1,hcell.2]
 refine AFn.pure hc ?_
 simp (disch:=omega) [-getElem?_pos,if_pos,if_neg,decide_eq_true,decide_eq_false,]
end Go.Proofs.YtejifalflkbekaaDoor
