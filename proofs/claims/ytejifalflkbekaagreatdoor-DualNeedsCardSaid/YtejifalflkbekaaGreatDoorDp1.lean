/-
  PLAIN LAW of package dual: which sets may be; prices.
-/
import Derived.Test.YtejifalflkbekaaGreatDoorInst0
import Derived.Test.YtejifalflkbekaaGreatDoorBs
import Derived.Test.YtejifalflkbekaaGreatDoorSelK
set_option maxRecDepth 100000
set_option linter.unusedSimpArgs false
set_option linter.unusedVariables false
namespace Go.Abs
open Go Go.Proofs.YtejifalflkbekaaGreatDoor.Bs
def dInst (n : Int) (M : List SetD) : InstD:=⟨3,0,[],[],n,M⟩
noncomputable def mayD (n : Int) (M : List SetD) : Bool:=decide ((dInst n M).check = 0)
structure DOk (n : Nat) (M : List SetD) : Prop where
 rise : ∀ s ∈ M,Rises (-1) n s.elems
 cost : ∀ s ∈ M,0 ≤ s.cost ∧ s.cost ≤ 2147483648
 len : M.length ≤ 4096
theorem mayD_ok {n : Nat} {M : List SetD} (h : mayD n M = true) : DOk n M:=by
 have h:=InstD.check_ok.1 (of_decide_eq_true h)
 refine ⟨fun s hs => ?_,fun s hs => ?_,h.few.sets⟩
 ·obtain ⟨i,hi,rfl⟩:=List.getElem_of_mem hs
  exact h.shaped.sets i hi
 ·obtain ⟨i,hi,rfl⟩:=List.getElem_of_mem hs
  exact h.small.sets i hi
theorem rises_mem {n : Int} : ∀ {E : List Int} {l : Int},Rises l n E → ∀ e ∈ E,l < e ∧ e < n
 | [],_,_,e,h => by simp at h
 | x :: E,l,⟨h1,h2,h3⟩,e,h => by
  rcases List.mem_cons.1 h with rfl | h
  ·exact ⟨h1,h2⟩
  ·have:=rises_mem h3 e h; omega
def hasE (s : SetD) (e : Nat) : Bool:=decide ((e : Int) ∈ s.elems)
/-! ### the least -/
/-! ### prices -/
end Go.Abs
