/-
  Contracts of package num (4): which of two products is greater.
-/
import Derived.Test.YtejifalflkbekaaGreatDoorBu27
import Derived.Test.YtejifalflkbekaaGreatDoorIrS
import Derived.Test.YtejifalflkbekaaGreatDoorSorted

set_option maxRecDepth 100000
set_option linter.unusedSimpArgs false
set_option linter.unusedVariables false
namespace Go.Abs
open Go
end Go.Abs
namespace Go.Proofs.YtejifalflkbekaaGreatDoor
open Go Go.Abs
end Go.Proofs.YtejifalflkbekaaGreatDoor

set_option maxRecDepth 100000
namespace Go.Proofs.YtejifalflkbekaaGreatDoor.Ps
open Go Go.Abs
end Go.Proofs.YtejifalflkbekaaGreatDoor.Ps
