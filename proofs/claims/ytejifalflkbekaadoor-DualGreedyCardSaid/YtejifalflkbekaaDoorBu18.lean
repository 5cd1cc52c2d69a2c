/-
  v[m:].
-/
import Derived.Test.YtejifalflkbekaaDoorRen
import Derived.Test.YtejifalflkbekaaDoorIr

set_option linter.unusedSimpArgs false
set_option linter.unusedVariables false
namespace Go.Abs
open Go
end Go.Abs

namespace Go.Abs
open Go
def bB (B : List Bool) : List Value:=B.map .bool
theorem bB_len {B : List Bool} : (bB B).length = B.length:=by simp [bB]
theorem bB_get {B : List Bool} {i : Nat} (h : i < B.length) : (bB B)[i]? = some (.bool (B.getD i false)):=by
 rw [List.getD_eq_getElem?_getD]; simp [bB,h]
theorem bB_zero (n : Nat) : bB (List.replicate n false) = zeros [Value.bool false] n:=by
 induction n with
 | zero => rfl
 | succ n ih => rw [List.replicate_succ,zeros,← ih]; rfl
def mapB (f : Nat → Bool) (n : Nat) : List Bool:=(List.range n).map f
theorem mapB_len {f : Nat → Bool} {n : Nat} : (mapB f n).length = n:=by simp [mapB]
theorem mapB_get {f : Nat → Bool} {n i : Nat} (h : i < n) : (mapB f n).getD i false = f i:=by
 rw [List.getD_eq_getElem?_getD]; simp [mapB,h]
theorem mapB_set {f g : Nat → Bool} {n i : Nat} {a : Bool} (h : ∀ j,j < n → g j = if j = i then a else f j) : (mapB f n).set i a = mapB g n:=by
 apply List.ext_getElem
 ·simp [mapB]
 ·intro j h1 h2
  simp only [mapB_len] at h2
  simp only [List.getElem_set,mapB,List.getElem_map,List.getElem_range]
  rw [h j h2]
  by_cases hj : i = j
  ·rw [if_pos hj,if_pos hj.symm]
  ·rw [if_neg hj,if_neg (Ne.symm hj)]
theorem mapB_none (n : Nat) : bB (mapB (fun _ => false) n) = zeros [Value.bool false] n:=by
 rw [← bB_zero]; congr 1
 apply List.ext_getElem <;> simp [mapB]
end Go.Abs
namespace Go.Proofs.YtejifalflkbekaaDoor
open Go Go.Abs
abbrev dB (H0 : AH) (b : Nat) (X : List Bool) : AH:=H0.set b (.row (bB X) T_bool true)
theorem dB_write {H0 : AH} {b i : Nat} {X : List Bool} {a : Bool} (h : i < X.length) : writeA (dB H0 b X) b i [.bool a] = some (dB H0 b (X.set i a)):=by
 rw [writeA_of (AH.set_blk_same) (by rw [bB_len]; simp; omega)]
 rw [over_one (by rw [bB_len]; exact h)]
 unfold dB; rw [AH.set_set]
 congr 3
 simp [bB,List.map_set]
end Go.Proofs.YtejifalflkbekaaDoor
