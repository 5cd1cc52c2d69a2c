/-
  PLAIN LAW of package dual: which sets may be; prices.
-/
import Derived.Test.YtejifalflkbekaaDoorInst0
import Derived.Test.YtejifalflkbekaaDoorBs
import Derived.Test.YtejifalflkbekaaDoorBu26
set_option maxRecDepth 100000
set_option linter.unusedSimpArgs false
set_option linter.unusedVariables false
namespace Go.Abs
open Go Go.Proofs.YtejifalflkbekaaDoor.Bs
def dInst (n : Int) (M : List SetD) : InstD:=⟨3,0,[],[],n,M⟩
noncomputable def mayD (n : Int) (M : List SetD) : Bool:=decide ((dInst n M).check = 0)
structure DOk (n : Nat) (M : List SetD) : Prop where
 rise : ∀ s ∈ M,Rises (-1) n s.elems
 cost : ∀ s ∈ M,0 ≤ s.cost ∧ s.cost ≤ 2147483648
 len : M.length ≤ 4096
theorem mayD_ok {n : Nat} {M : List SetD} (h : mayD n M = true) : DOk n M:=by
 have h:=InstD.check_ok.1 (of_decide_eq_true h)
 refine ⟨fun s hs => ?_,fun s hs => ?_,h.few.sets⟩
 ·obtain ⟨i,hi,rfl⟩:=List.getElem_of_mem hs
  exact h.shaped.sets i hi
 ·obtain ⟨i,hi,rfl⟩:=List.getElem_of_mem hs
  exact h.small.sets i hi
theorem rises_mem {n : Int} : ∀ {E : List Int} {l : Int},Rises l n E → ∀ e ∈ E,l < e ∧ e < n
 | [],_,_,e,h => by simp at h
 | x :: E,l,⟨h1,h2,h3⟩,e,h => by
  rcases List.mem_cons.1 h with rfl | h
  ·exact ⟨h1,h2⟩
  ·have:=rises_mem h3 e h; omega
def hasE (s : SetD) (e : Nat) : Bool:=decide ((e : Int) ∈ s.elems)
/-! ### the least -/
theorem rev_ind {α : Type} {Q : List α → Prop} (h0 : Q []) (h1 : ∀ l x,Q l → Q (l ++ [x])) (l : List α) : Q l:=by
 have key : ∀ n (l : List α),l.length = n → Q l:=by
  intro n
  induction n with
  | zero => intro l hl; rw [List.eq_nil_of_length_eq_zero hl]; exact h0
  | succ n ih =>
   intro l hl
   have hne : l ≠ []:=fun h => by rw [h] at hl; simp at hl
   rw [← List.dropLast_concat_getLast hne]
   exact h1 _ _ (ih _ (by simp [hl]))
 exact key _ l rfl
/-! ### prices -/
end Go.Abs
