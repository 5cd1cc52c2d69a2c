/-
  Lists of one's own that grow in regions whose operations are done in any order.
-/
import Derived.Test.YtejifalflkbekaaDoorRen
import Derived.Test.YtejifalflkbekaaDoorAppAt
set_option linter.unusedSimpArgs false
set_option linter.unusedVariables false
namespace Go.Abs
open Go
open Ren (R)
@[simp] theorem offs_right : ∀ {l : List Nat},offs l [] = True
  | [] => by simp
  | a :: l => by simp [offs_cons,offs_right (l:=l)]
theorem WF.at {H H' : AH} {id : Nat} {S : List Nat} (hw : WF H) (hn : H'.next = H.next) (hid : id < H.next) (hS : ∀ b ∈ S,b < H.next) (hf : ∀ b,b ≠ id → b ∉ S → H'.blk b = H.blk b) : WF H':=by
 intro b B hb
 by_cases h1 : b = id
 ·omega
 ·by_cases h2 : b ∈ S
  ·have:=hS b h2; omega
  ·rw [hf b h1 h2] at hb
   have:=hw b B hb; omega
section
variable {α : Type} [Ren α] {p q : Nat → Prop} {H : AH} {ty : Nat} {v : Value} {l : List α} {S : List Nat}
theorem OwnL.blkOf (h : OwnL p H ty v l S) : blkOf (some v) = S:=by
 obtain ⟨cells,h1,_⟩:=h
 rcases h1 with ⟨rfl,_,_,rfl⟩ | ⟨b,off,sp,cap,cs,rfl,rfl,_⟩ <;> rfl
theorem OwnL.pushAt (h : OwnL p H ty v l S) {id : Nat} (hid : id < H.next) {cs : List Value} {a : α} (ha : R q H cs a) (bytes : Nat) (hpq : ∀ b,p b → q b) (hq : ∀ b,q b → b ≠ id ∧ b ∉ S) (hroom : (l.length + 1) * bytes ≤ 140737488355328) (hmax : l.length + 1 ≤ 9223372036854775807) :
  ∃ b' off' sp' c' H',appendAt id H ty (Ren.sz α) bytes v 1 cs = some (.slice (some ⟨b',off',sp'⟩) (l.length + 1) c',H') ∧ OwnL q H' ty (.slice (some ⟨b',off',sp'⟩) (l.length + 1) c') (l ++ [a]) [b'] ∧ H'.next = H.next ∧ (∀ b,b ≠ id → b ∉ S → H'.blk b = H.blk b) ∧ (S = [b'] ∨ b' = id):=by
 obtain ⟨cells,h1,h2,h3⟩:=h
 have hl:=Ren.len ha
 have hcl:=h1.len
 obtain ⟨b',off',sp',c',H',q1,q2,q3,q4,q5⟩:=h1.pushAt hid (bytes:=bytes) (m:=1) (news:=cs) (by rw [hl,Nat.one_mul]) (by omega) hroom hmax
 have hsub : Sub q H H':=fun b hb cs hc => by
  unfold AH.cells at hc ⊢
  rw [q4 b (hq b hb).1 (hq b hb).2]; exact hc
 refine ⟨b',off',sp',c',H',q1,⟨cells ++ cs,by rw [List.length_append]; exact q2,fun i hi => ?_,fun b hb hqb => ?_⟩,q3,q4,q5⟩
 ·by_cases hil : i < l.length
  ·rw [chunk_append hcl hil,List.getElem_append_left hil]
   exact Ren.up hpq (hsub.less hpq) (h2 i hil)
  ·simp at hi
   obtain rfl : i = l.length:=by omega
   rw [chunk_new hcl hl]
   simp only [List.getElem_concat_length]
   exact Ren.up (fun _ h => h) hsub ha
 ·simp at hb
  subst hb
  rcases q5 with h | h
  ·exact (hq b hqb).2 (by rw [h]; simp)
  ·exact (hq b hqb).1 h
theorem OwnL.over {H' : AH} (h : OwnL p H ty v l S) (hp : ∀ b,p b → H'.blk b = H.blk b) (hS : ∀ b ∈ S,H'.blk b = H.blk b) : OwnL p H' ty v l S :=
 h.up (fun _ h => h) (fun b hb cs hc => by unfold AH.cells at hc ⊢; rw [hp b hb]; exact hc) hS (let ⟨_,_,_,h3⟩:=h; h3)
end
end Go.Abs
