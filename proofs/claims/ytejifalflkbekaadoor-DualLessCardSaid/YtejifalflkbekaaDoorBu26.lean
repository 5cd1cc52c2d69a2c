/-
  Contracts of package num: wide numbers; the sum of numbers.
-/
import Derived.Test.YtejifalflkbekaaDoorRen
import Derived.Test.YtejifalflkbekaaDoorIrN
import Derived.Test.YtejifalflkbekaaDoorIrS
import Derived.Test.YtejifalflkbekaaDoorSorted

set_option maxRecDepth 100000
set_option linter.unusedSimpArgs false
set_option linter.unusedVariables false
namespace Go.Abs
open Go
end Go.Abs
namespace Go.Proofs.YtejifalflkbekaaDoor
open Go Go.Abs
end Go.Proofs.YtejifalflkbekaaDoor

set_option maxRecDepth 100000
namespace Go.Proofs.YtejifalflkbekaaDoor
open Go Go.Abs
end Go.Proofs.YtejifalflkbekaaDoor

set_option maxRecDepth 100000
namespace Go.Abs
open Go
end Go.Abs
namespace Go.Proofs.YtejifalflkbekaaDoor
open Go Go.Abs
end Go.Proofs.YtejifalflkbekaaDoor

set_option maxRecDepth 100000
namespace Go.Abs
open Go
end Go.Abs
namespace Go.Proofs.YtejifalflkbekaaDoor
open Go Go.Abs
end Go.Proofs.YtejifalflkbekaaDoor

set_option maxRecDepth 100000
namespace Go.Proofs.YtejifalflkbekaaDoor.Ps
open Go Go.Abs
end Go.Proofs.YtejifalflkbekaaDoor.Ps

namespace Go.Abs
def selK (b : Nat → Bool) (k : Nat) : List Int:=((List.range k).filter b).map fun (i : Nat) => (i : Int)
theorem selK_succ (b : Nat → Bool) (k : Nat) : selK b (k + 1) = if b k then selK b k ++ [(k : Int)] else selK b k:=by
 unfold selK
 rw [List.range_succ,List.filter_append,List.map_append]
 split <;> rename_i h <;> simp [h]
theorem selK_len (b : Nat → Bool) (k : Nat) : (selK b k).length ≤ k:=by
 unfold selK
 rw [List.length_map]
 exact Nat.le_trans (List.length_filter_le _ _) (by simp)
theorem selK_mem {b : Nat → Bool} {k : Nat} {a : Int} : a ∈ selK b k ↔ ∃ i : Nat,a = (i : Int) ∧ i < k ∧ b i = true:=by
 unfold selK
 rw [List.mem_map]
 constructor
 ·rintro ⟨i,hi,rfl⟩
  obtain ⟨h1,h2⟩:=List.mem_filter.1 hi
  exact ⟨i,rfl,List.mem_range.1 h1,h2⟩
 ·rintro ⟨i,rfl,h1,h2⟩
  exact ⟨i,List.mem_filter.2 ⟨List.mem_range.2 h1,h2⟩,rfl⟩
end Go.Abs
