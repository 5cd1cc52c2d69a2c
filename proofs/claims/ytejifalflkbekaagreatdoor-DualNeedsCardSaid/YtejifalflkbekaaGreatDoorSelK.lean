/-
  PLAIN LAW: the places that are chosen; lists that rise.
-/
import Derived.Test.YtejifalflkbekaaGreatDoorRen
set_option linter.unusedSimpArgs false
set_option linter.unusedVariables false
namespace Go.Abs
def selK (b : Nat → Bool) (k : Nat) : List Int:=((List.range k).filter b).map fun (i : Nat) => (i : Int)
theorem selK_succ (b : Nat → Bool) (k : Nat) : selK b (k + 1) = if b k then selK b k ++ [(k : Int)] else selK b k:=by
 unfold selK
 rw [List.range_succ,List.filter_append,List.map_append]
 split <;> rename_i h <;> simp [h]
theorem selK_len (b : Nat → Bool) (k : Nat) : (selK b k).length ≤ k:=by
 unfold selK
 rw [List.length_map]
 exact Nat.le_trans (List.length_filter_le _ _) (by simp)
end Go.Abs
