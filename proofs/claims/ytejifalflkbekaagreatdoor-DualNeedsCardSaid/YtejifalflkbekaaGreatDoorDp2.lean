/-
  PLAIN LAW of package dual: greedily.
-/
import Derived.Test.YtejifalflkbekaaGreatDoorDp1
set_option maxRecDepth 100000
set_option linter.unusedSimpArgs false
set_option linter.unusedVariables false
namespace Go.Abs
open Go Go.Proofs.YtejifalflkbekaaGreatDoor.Bs
theorem cnt_lt : ∀ (B B' : List Bool),B'.length = B.length → (∀ j,B'.getD j false = true → B.getD j false = true) → B'.count true ≤ B.count true ∧ ((∃ j,B.getD j false = true ∧ B'.getD j false = false) → B'.count true < B.count true)
 | [],B',h,_ => by
  have:=List.eq_nil_of_length_eq_zero (by simpa using h : B'.length = 0)
  subst this; simp
 | b :: B,[],h,_ => by simp at h
 | b :: B,b' :: B',h,hi => by
  obtain ⟨h1,h2⟩:=cnt_lt B B' (by simpa using h) fun j hj => by have:=hi (j + 1); simpa using this (by simpa using hj)
  have h0:=hi 0
  simp at h0
  rw [List.count_cons,List.count_cons]
  refine ⟨by cases b <;> cases b' <;> simp_all <;> omega,?_⟩
  rintro ⟨j,hj1,hj2⟩
  cases j with
  | zero =>
   simp at hj1 hj2
   subst hj1 hj2
   simp; omega
  | succ j =>
   have:=h2 ⟨j,by simpa using hj1,by simpa using hj2⟩
   cases b <;> cases b' <;> simp_all <;> omega
theorem cnt_zero {B : List Bool} : B.count true = 0 ↔ ∀ j,B.getD j false = false:=by
 rw [List.count_eq_zero]
 constructor
 ·intro h j
  cases hb : B.getD j false with
  | false => rfl
  | true =>
   exfalso
   rw [List.getD_eq_getElem?_getD] at hb
   cases hg : B[j]? with
   | none => rw [hg] at hb; simp at hb
   | some x =>
    rw [hg] at hb
    simp at hb
    subst hb
    exact h (List.mem_of_getElem? hg)
 ·intro h hm
  obtain ⟨j,hj,he⟩:=List.getElem_of_mem hm
  have:=h j
  rw [List.getD_eq_getElem?_getD,List.getElem?_eq_getElem hj,he] at this
  simp at this
end Go.Abs
