/-
  PLAIN LAW of package dual: greedily.
-/
import Derived.Test.YtejifalflkbekaaDoorDp1
set_option maxRecDepth 100000
set_option linter.unusedSimpArgs false
set_option linter.unusedVariables false
namespace Go.Abs
open Go Go.Proofs.YtejifalflkbekaaDoor.Bs
def wipe (B : List Bool) (E : List Int) : List Bool:=E.foldl (fun B e => setB B e false) B
theorem wipe_snoc {B : List Bool} {E : List Int} {e : Int} : wipe B (E ++ [e]) = setB (wipe B E) e false:=by simp [wipe]
theorem setB_lenF (T : List Bool) (i : Int) (b : Bool) : (setB T i b).length = T.length:=by unfold setB; split <;> simp
theorem setB_getF {B : List Bool} {i : Int} {j : Nat} (h0 : 0 ≤ i) : (setB B i false).getD j false = (B.getD j false && !decide ((j : Int) = i)):=by
 unfold setB
 split
 ·rename_i h
  rw [List.getD_eq_getElem?_getD,List.getElem?_set]
  by_cases hj : i.toNat = j
  ·rw [if_pos hj,decide_eq_true (by omega)]
   split <;> simp
  ·rw [if_neg hj,← List.getD_eq_getElem?_getD,decide_eq_false (by omega)]; simp
 ·rename_i h
  by_cases hj : (j : Int) = i
  ·rw [decide_eq_true hj,List.getD_eq_getElem?_getD,List.getElem?_eq_none (by omega)]; simp
  ·rw [decide_eq_false hj]; simp
theorem wipe_get {B : List Bool} {E : List Int} {j : Nat} (h0 : ∀ e ∈ E,0 ≤ e) : (wipe B E).getD j false = (B.getD j false && !decide ((j : Int) ∈ E)):=by
 refine rev_ind (Q:=fun E => (∀ e ∈ E,0 ≤ e) → (wipe B E).getD j false = (B.getD j false && !decide ((j : Int) ∈ E))) (by simp [wipe]) (fun E e ih h => ?_) E h0
 rw [wipe_snoc,setB_getF (h e (by simp)),ih fun x hx => h x (by simp [hx])]
 by_cases h1 : (j : Int) ∈ E <;> by_cases h2 : (j : Int) = e <;> simp [h1,h2]
theorem cnt_lt : ∀ (B B' : List Bool),B'.length = B.length → (∀ j,B'.getD j false = true → B.getD j false = true) → B'.count true ≤ B.count true ∧ ((∃ j,B.getD j false = true ∧ B'.getD j false = false) → B'.count true < B.count true)
 | [],B',h,_ => by
  have:=List.eq_nil_of_length_eq_zero (by simpa using h : B'.length = 0)
  subst this; simp
 | b :: B,[],h,_ => by simp at h
 | b :: B,b' :: B',h,hi => by
  obtain ⟨h1,h2⟩:=cnt_lt B B' (by simpa using h) fun j hj => by have:=hi (j + 1); simpa using this (by simpa using hj)
  have h0:=hi 0
  simp at h0
  rw [List.count_cons,List.count_cons]
  refine ⟨by cases b <;> cases b' <;> simp_all <;> omega,?_⟩
  rintro ⟨j,hj1,hj2⟩
  cases j with
  | zero =>
   simp at hj1 hj2
   subst hj1 hj2
   simp; omega
  | succ j =>
   have:=h2 ⟨j,by simpa using hj1,by simpa using hj2⟩
   cases b <;> cases b' <;> simp_all <;> omega
theorem cnt_zero {B : List Bool} : B.count true = 0 ↔ ∀ j,B.getD j false = false:=by
 rw [List.count_eq_zero]
 constructor
 ·intro h j
  cases hb : B.getD j false with
  | false => rfl
  | true =>
   exfalso
   rw [List.getD_eq_getElem?_getD] at hb
   cases hg : B[j]? with
   | none => rw [hg] at hb; simp at hb
   | some x =>
    rw [hg] at hb
    simp at hb
    subst hb
    exact h (List.mem_of_getElem? hg)
 ·intro h hm
  obtain ⟨j,hj,he⟩:=List.getElem_of_mem hm
  have:=h j
  rw [List.getD_eq_getElem?_getD,List.getElem?_eq_getElem hj,he] at this
  simp at this
end Go.Abs
