/-
  Contracts of package num: wide numbers; the sum of numbers.
-/
import Derived.Test.YtejifalflkbekaaGreatDoorRen
import Derived.Test.YtejifalflkbekaaGreatDoorIrN

set_option maxRecDepth 100000
set_option linter.unusedSimpArgs false
set_option linter.unusedVariables false
namespace Go.Abs
open Go
end Go.Abs
namespace Go.Proofs.YtejifalflkbekaaGreatDoor
open Go Go.Abs
end Go.Proofs.YtejifalflkbekaaGreatDoor

set_option maxRecDepth 100000
namespace Go.Proofs.YtejifalflkbekaaGreatDoor
open Go Go.Abs
end Go.Proofs.YtejifalflkbekaaGreatDoor

set_option maxRecDepth 100000
namespace Go.Abs
open Go
end Go.Abs
namespace Go.Proofs.YtejifalflkbekaaGreatDoor
open Go Go.Abs
end Go.Proofs.YtejifalflkbekaaGreatDoor
