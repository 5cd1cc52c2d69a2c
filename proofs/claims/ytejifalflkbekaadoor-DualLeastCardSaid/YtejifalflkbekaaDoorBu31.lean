/-
  The compiled bodies of the functions of this seat, as the kernel reckons them (written by a program of this place).
-/
import Derived.Test.YtejifalflkbekaaDoorA31
import Derived.Test.YtejifalflkbekaaDoorProg
import Derived.KernelRfl
import Derived.Test.YtejifalflkbekaaDoorIr
import Derived.Test.YtejifalflkbekaaDoorInst3

set_option maxRecDepth 100000
namespace Go.Proofs.YtejifalflkbekaaDoor
open Go Go.Abs
variable {vs : List Value} {H : AH} {Q : Value → AH → Prop}
end Go.Proofs.YtejifalflkbekaaDoor

set_option maxRecDepth 100000
namespace Go.Proofs.YtejifalflkbekaaDoor
open Go Go.Abs
end Go.Proofs.YtejifalflkbekaaDoor

set_option maxRecDepth 100000
namespace Go.Proofs.YtejifalflkbekaaDoor
open Go Go.Abs
end Go.Proofs.YtejifalflkbekaaDoor

set_option maxRecDepth 100000
set_option maxHeartbeats 4000000
namespace Go.Proofs.YtejifalflkbekaaDoor
open Go Go.Abs
end Go.Proofs.YtejifalflkbekaaDoor
