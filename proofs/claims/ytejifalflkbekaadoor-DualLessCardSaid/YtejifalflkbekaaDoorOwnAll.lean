/-
  append of a whole list to a list of one's own.
-/
import Derived.Test.YtejifalflkbekaaDoorBuild2
set_option linter.unusedSimpArgs false
set_option linter.unusedVariables false
namespace Go.Abs
open Go
open Ren (R)
theorem chunk_right {sz n j : Nat} {a b : List Value} (h : a.length = n * sz) : chunk sz (n + j) (a ++ b) = chunk sz j b:=by
 unfold chunk
 rw [Nat.add_mul,← h,List.drop_append,List.drop_eq_nil_of_le (by omega),List.nil_append,Nat.add_sub_cancel_left]
section
variable {α : Type} [Ren α] {p q : Nat → Prop} {H : AH} {v w : Value} {l l2 : List α} {ty : Nat} {S : List Nat}
theorem OwnL.pushAll (h : OwnL p H ty v l S) (hw : WF H) (h2 : SlV q H w l2) (bytes : Nat) (hpq : ∀ b,p b → q b) (hq : ∀ b,q b → b < H.next) (hS : ∀ b ∈ S,¬ q b) (hroom : (l.length + l2.length) * bytes ≤ 140737488355328) (hmax : l.length + l2.length ≤ 9223372036854775807) :
  ∃ cells a' c' H' S',elemsA H (Ren.sz α) w = some cells ∧ appendA H ty (Ren.sz α) bytes v l2.length cells = some (.slice a' (l.length + l2.length) c',H') ∧ OwnL q H' ty (.slice a' (l.length + l2.length) c') (l ++ l2) S' ∧ Keep S H H' ∧ WF H' ∧ ∀ b ∈ S',b ∈ S ∨ H.next ≤ b:=by
 obtain ⟨cells,h1,hR,h3⟩:=h
 obtain ⟨_,cells2,hv,hR2⟩:=h2
 have hcl:=h1.len
 have hcl2:=hv.1
 obtain ⟨v',H',S',q1,q2,_,q3,q4,q5⟩:=h1.append hw (bytes:=bytes) (m:=l2.length) (news:=cells2) hcl2 hroom hmax
 obtain ⟨a',c',rfl⟩:=q2.slice
 have hsub : Sub q H H':=.keep hw q3 hS
 refine ⟨cells2,a',c',H',S',hv.elems,q1,⟨cells ++ cells2,by rw [List.length_append]; exact q2,fun i hi => ?_,fun b hb hqb => ?_⟩,q3,q4,fun b hb => (q5 b hb).imp id fun h => by omega⟩
 ·by_cases hil : i < l.length
  ·rw [chunk_append hcl hil,List.getElem_append_left hil]
   exact Ren.up hpq (hsub.less hpq) (hR i hil)
  ·obtain ⟨j,rfl⟩ : ∃ j,i = l.length + j:=⟨i - l.length,by omega⟩
   rw [List.length_append] at hi
   rw [chunk_right hcl,List.getElem_append_right (by omega)]
   simp only [Nat.add_sub_cancel_left]
   exact Ren.up (fun _ h => h) hsub (hR2 j (by omega))
 ·rcases q5 b hb with hb | hb
  ·exact hS b hb hqb
  ·have:=hq b hqb; omega
end
end Go.Abs
namespace Go.Proofs.YtejifalflkbekaaDoor
open Go Go.Abs
end Go.Proofs.YtejifalflkbekaaDoor
