/-
  package dual: Bound.
-/
import Derived.Test.YtejifalflkbekaaDoorDs7
import Derived.Test.YtejifalflkbekaaDoorBu26
import Derived.Test.YtejifalflkbekaaDoorDs15

set_option maxRecDepth 100000
set_option linter.unusedSimpArgs false
set_option linter.unusedVariables false
namespace Go.Abs
open Go Go.Proofs.YtejifalflkbekaaDoor.Bs
end Go.Abs
namespace Go.Proofs.YtejifalflkbekaaDoor
open Go Go.Abs Go.Proofs.YtejifalflkbekaaDoor.Bs
end Go.Proofs.YtejifalflkbekaaDoor

set_option maxRecDepth 100000
namespace Go.Abs
open Go Go.Proofs.YtejifalflkbekaaDoor.Bs
theorem wipeM_succ {L : List SetD} {T : List Bool} {b : Nat → Bool} {k : Nat} (h : k < L.length) : wipeM L T b (k + 1) = if b k then wipe (wipeM L T b k) L[k].elems else wipeM L T b k:=by
 rw [wipeM,List.getElem?_eq_getElem h]; rfl
theorem costM_succ {L : List SetD} {b : Nat → Bool} {k : Nat} (h : k < L.length) : costM L b (k + 1) = if b k then costM L b k + L[k].cost else costM L b k:=by
 rw [costM,List.getElem?_eq_getElem h]; rfl
end Go.Abs
namespace Go.Proofs.YtejifalflkbekaaDoor
open Go Go.Abs Go.Proofs.YtejifalflkbekaaDoor.Bs
end Go.Proofs.YtejifalflkbekaaDoor
