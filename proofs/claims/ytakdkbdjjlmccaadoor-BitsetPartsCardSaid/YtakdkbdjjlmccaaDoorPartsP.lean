/-
  Layer 3: BitsetParts, the plain law.
-/
import Derived.Test.YtakdkbdjjlmccaaDoorLaw03c
set_option maxRecDepth 100000
set_option linter.unusedSimpArgs false
set_option linter.unusedVariables false
namespace Go.Proofs.YtakdkbdjjlmccaaDoor
open Go Go.Abs
theorem getD_ext {A B : List Bool} (hl : A.length = B.length) (h : ∀ i, A.getD i false = B.getD i false) : A = B := by
  apply List.ext_getElem hl
  intro i p q
  have a := h i
  simpa only [List.getD_eq_getElem?_getD, List.getElem?_eq_getElem p, List.getElem?_eq_getElem q, Option.getD_some] using a
theorem getD_none {A : List Bool} {i : Nat} (h : ¬ i < A.length) : A.getD i false = false := by
  rw [List.getD_eq_getElem?_getD, List.getElem?_eq_none (by omega)]; rfl
theorem count_range (A : List Bool) : A.count true = (List.range A.length).countP fun i => A.getD i false := by
  have h : A = (List.range A.length).map fun i => A.getD i false := by
    apply List.ext_getElem (by simp)
    intro i p q
    simp [List.getD_eq_getElem?_getD, List.getElem?_eq_getElem p]
  conv => lhs; rw [h]
  rw [List.count, List.countP_map]
  refine List.countP_congr fun i _ => ?_
  simp
theorem each_count (g : Bool → Bool → Bool) (A B : List Bool) : (eachB g A B).count true = (List.range A.length).countP fun i => g (A.getD i false) (B.getD i false) := by
  unfold eachB
  rw [List.count, List.countP_map]
  refine List.countP_congr fun i _ => ?_
  simp
theorem countP_or_and (l : List Nat) (f g : Nat → Bool) : (l.countP fun i => f i || g i) + (l.countP fun i => f i && g i) = l.countP f + l.countP g := by
  induction l with
  | nil => rfl
  | cons x l ih => simp only [List.countP_cons]; cases f x <;> cases g x <;> simp <;> omega
theorem parts_count {A B : List Bool} (hl : A.length = B.length) : (eachB (fun a b => a || b) A B).count true + (eachB (fun a b => a && b) A B).count true = A.count true + B.count true := by
  rw [each_count, each_count, count_range A, count_range B, ← hl]
  exact countP_or_and _ (fun i => A.getD i false) fun i => B.getD i false
theorem parts_again {A B : List Bool} : eachB (fun a b => a || b) (eachB (fun a b => a && !b) A B) (eachB (fun a b => a && b) A B) = A := by
  refine getD_ext (by simp [eachB_length]) fun i => ?_
  simp only [eachB_get, eachB_length]
  by_cases h : i < A.length
  · simp only [h, if_true]; cases A.getD i false <;> cases B.getD i false <;> rfl
  · rw [if_neg h, getD_none h]
theorem parts_none {A B : List Bool} : (eachB (fun a b => a && b) (eachB (fun a b => a && !b) A B) B).count true = 0 := by
  refine count_zero.2 fun i => ?_
  simp only [eachB_get, eachB_length]
  split
  · cases A.getD i false <;> cases B.getD i false <;> rfl
  · rfl
theorem parts_in {A B : List Bool} : (eachB (fun a b => a && !b) (eachB (fun a b => a && b) A B) B).count true = 0 := by
  refine count_zero.2 fun i => ?_
  simp only [eachB_get, eachB_length]
  split
  · cases A.getD i false <;> cases B.getD i false <;> rfl
  · rfl
theorem parts_of {A B : List Bool} : (eachB (fun a b => a && !b) A (eachB (fun a b => a || b) A B)).count true = 0 := by
  refine count_zero.2 fun i => ?_
  simp only [eachB_get, eachB_length]
  split
  · cases A.getD i false <;> cases B.getD i false <;> rfl
  · rfl
theorem parts_turn {A B : List Bool} (hl : A.length = B.length) : eachB (fun a b => a || b) A B = eachB (fun a b => a || b) B A := by
  refine getD_ext (by simp [eachB_length, hl]) fun i => ?_
  simp only [eachB_get, hl]
  split
  · cases A.getD i false <;> cases B.getD i false <;> rfl
  · rfl
end Go.Proofs.YtakdkbdjjlmccaaDoor
