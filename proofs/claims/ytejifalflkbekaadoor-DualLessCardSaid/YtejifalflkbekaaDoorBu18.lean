/-
  v[m:].
-/
import Derived.Test.YtejifalflkbekaaDoorRen
import Derived.Test.YtejifalflkbekaaDoorIr

set_option linter.unusedSimpArgs false
set_option linter.unusedVariables false
namespace Go.Abs
open Go
end Go.Abs

namespace Go.Abs
open Go
def mapB (f : Nat → Bool) (n : Nat) : List Bool:=(List.range n).map f
theorem mapB_len {f : Nat → Bool} {n : Nat} : (mapB f n).length = n:=by simp [mapB]
theorem mapB_get {f : Nat → Bool} {n i : Nat} (h : i < n) : (mapB f n).getD i false = f i:=by
 rw [List.getD_eq_getElem?_getD]; simp [mapB,h]
theorem mapB_set {f g : Nat → Bool} {n i : Nat} {a : Bool} (h : ∀ j,j < n → g j = if j = i then a else f j) : (mapB f n).set i a = mapB g n:=by
 apply List.ext_getElem
 ·simp [mapB]
 ·intro j h1 h2
  simp only [mapB_len] at h2
  simp only [List.getElem_set,mapB,List.getElem_map,List.getElem_range]
  rw [h j h2]
  by_cases hj : i = j
  ·rw [if_pos hj,if_pos hj.symm]
  ·rw [if_neg hj,if_neg (Ne.symm hj)]
end Go.Abs
namespace Go.Proofs.YtejifalflkbekaaDoor
open Go Go.Abs
end Go.Proofs.YtejifalflkbekaaDoor
