/-
  Plain law: lists in order; the list in order of given things is one alone.
-/
import Derived.Test.YtejifalflkbekaaDoorA5
namespace Go.Abs
variable {α : Type} {lt : α → α → Bool}
end Go.Abs
