/-
  v[m:].
-/
import Derived.Test.YtejifalflkbekaaGreatDoorRen
set_option linter.unusedSimpArgs false
set_option linter.unusedVariables false
namespace Go.Abs
open Go
end Go.Abs
