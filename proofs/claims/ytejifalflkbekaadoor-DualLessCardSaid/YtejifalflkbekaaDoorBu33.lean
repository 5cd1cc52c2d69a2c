/-
  Plain law: lists that are put in order by swaps within a range.
-/
import Derived.Test.YtejifalflkbekaaDoorBu26
import Derived.Test.YtejifalflkbekaaDoorSeq0

set_option maxRecDepth 100000
set_option linter.unusedSimpArgs false
set_option linter.unusedVariables false
namespace Go.Proofs.YtejifalflkbekaaDoor.Ps
open Go Go.Abs
end Go.Proofs.YtejifalflkbekaaDoor.Ps
/-
 Contracts of the library's sort (1): two things change their places; insertionSort,siftDown,heapSort,reverseRange.
-/
set_option maxRecDepth 100000
set_option linter.unusedSimpArgs false
set_option linter.unusedVariables false
namespace Go.Proofs.YtejifalflkbekaaDoor.Ps
open Go Go.Abs
end Go.Proofs.YtejifalflkbekaaDoor.Ps
/-
 Contracts of the library's sort (2): siftDown,heapSort,reverseRange.
-/
set_option maxRecDepth 100000
set_option linter.unusedSimpArgs false
set_option linter.unusedVariables false
namespace Go.Proofs.YtejifalflkbekaaDoor.Ps
open Go Go.Abs
end Go.Proofs.YtejifalflkbekaaDoor.Ps
/-
 Contracts of the library's sort (3): partition,partitionEqual.
-/
set_option maxRecDepth 100000
set_option linter.unusedSimpArgs false
set_option linter.unusedVariables false
namespace Go.Proofs.YtejifalflkbekaaDoor.Ps
open Go Go.Abs
end Go.Proofs.YtejifalflkbekaaDoor.Ps
/-
 Contracts of the library's sort (4): partition,partitionEqual.
-/
set_option maxRecDepth 100000
set_option linter.unusedSimpArgs false
set_option linter.unusedVariables false
namespace Go.Proofs.YtejifalflkbekaaDoor.Ps
open Go Go.Abs
end Go.Proofs.YtejifalflkbekaaDoor.Ps

set_option maxRecDepth 100000
namespace Go.Proofs.YtejifalflkbekaaDoor.Ps
open Go Go.Abs
end Go.Proofs.YtejifalflkbekaaDoor.Ps
/-
 Contracts of the library's sort (6): partialInsertionSort.
-/
set_option maxRecDepth 100000
namespace Go.Proofs.YtejifalflkbekaaDoor.Ps
open Go Go.Abs
end Go.Proofs.YtejifalflkbekaaDoor.Ps
/-
 Contracts of the library's sort (7): pdqsort.
-/
set_option maxRecDepth 100000
namespace Go.Proofs.YtejifalflkbekaaDoor.Ps
open Go Go.Abs
end Go.Proofs.YtejifalflkbekaaDoor.Ps
/-
 Contracts of the library's sort (8): SortFunc,Values,Collect,SortedFunc; key.Sort.
-/
set_option maxRecDepth 100000
namespace Go.Proofs.YtejifalflkbekaaDoor.Ps
open Go Go.Abs
end Go.Proofs.YtejifalflkbekaaDoor.Ps
