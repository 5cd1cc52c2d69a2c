/-
  Lists of one's own that grow in regions whose operations are done in any order.
-/
import Derived.Test.YtejifalflkbekaaDoorRen
import Derived.Test.YtejifalflkbekaaDoorAppAt
import Derived.Test.YtejifalflkbekaaDoorIr

set_option linter.unusedSimpArgs false
set_option linter.unusedVariables false
namespace Go.Abs
open Go
open Ren (R)
@[simp] theorem offs_right : ∀ {l : List Nat},offs l [] = True
  | [] => by simp
  | a :: l => by simp [offs_cons,offs_right (l:=l)]
theorem WF.at {H H' : AH} {id : Nat} {S : List Nat} (hw : WF H) (hn : H'.next = H.next) (hid : id < H.next) (hS : ∀ b ∈ S,b < H.next) (hf : ∀ b,b ≠ id → b ∉ S → H'.blk b = H.blk b) : WF H':=by
 intro b B hb
 by_cases h1 : b = id
 ·omega
 ·by_cases h2 : b ∈ S
  ·have:=hS b h2; omega
  ·rw [hf b h1 h2] at hb
   have:=hw b B hb; omega
section
variable {α : Type} [Ren α] {p q : Nat → Prop} {H : AH} {ty : Nat} {v : Value} {l : List α} {S : List Nat}
theorem OwnL.blkOf (h : OwnL p H ty v l S) : blkOf (some v) = S:=by
 obtain ⟨cells,h1,_⟩:=h
 rcases h1 with ⟨rfl,_,_,rfl⟩ | ⟨b,off,sp,cap,cs,rfl,rfl,_⟩ <;> rfl
theorem OwnL.pushAt (h : OwnL p H ty v l S) {id : Nat} (hid : id < H.next) {cs : List Value} {a : α} (ha : R q H cs a) (bytes : Nat) (hpq : ∀ b,p b → q b) (hq : ∀ b,q b → b ≠ id ∧ b ∉ S) (hroom : (l.length + 1) * bytes ≤ 140737488355328) (hmax : l.length + 1 ≤ 9223372036854775807) :
  ∃ b' off' sp' c' H',appendAt id H ty (Ren.sz α) bytes v 1 cs = some (.slice (some ⟨b',off',sp'⟩) (l.length + 1) c',H') ∧ OwnL q H' ty (.slice (some ⟨b',off',sp'⟩) (l.length + 1) c') (l ++ [a]) [b'] ∧ H'.next = H.next ∧ (∀ b,b ≠ id → b ∉ S → H'.blk b = H.blk b) ∧ (S = [b'] ∨ b' = id):=by
 obtain ⟨cells,h1,h2,h3⟩:=h
 have hl:=Ren.len ha
 have hcl:=h1.len
 obtain ⟨b',off',sp',c',H',q1,q2,q3,q4,q5⟩:=h1.pushAt hid (bytes:=bytes) (m:=1) (news:=cs) (by rw [hl,Nat.one_mul]) (by omega) hroom hmax
 have hsub : Sub q H H':=fun b hb cs hc => by
  unfold AH.cells at hc ⊢
  rw [q4 b (hq b hb).1 (hq b hb).2]; exact hc
 refine ⟨b',off',sp',c',H',q1,⟨cells ++ cs,by rw [List.length_append]; exact q2,fun i hi => ?_,fun b hb hqb => ?_⟩,q3,q4,q5⟩
 ·by_cases hil : i < l.length
  ·rw [chunk_append hcl hil,List.getElem_append_left hil]
   exact Ren.up hpq (hsub.less hpq) (h2 i hil)
  ·simp at hi
   obtain rfl : i = l.length:=by omega
   rw [chunk_new hcl hl]
   simp only [List.getElem_concat_length]
   exact Ren.up (fun _ h => h) hsub ha
 ·simp at hb
  subst hb
  rcases q5 with h | h
  ·exact (hq b hqb).2 (by rw [h]; simp)
  ·exact (hq b hqb).1 h
theorem OwnL.over {H' : AH} (h : OwnL p H ty v l S) (hp : ∀ b,p b → H'.blk b = H.blk b) (hS : ∀ b ∈ S,H'.blk b = H.blk b) : OwnL p H' ty v l S :=
 h.up (fun _ h => h) (fun b hb cs hc => by unfold AH.cells at hc ⊢; rw [hp b hb]; exact hc) hS (let ⟨_,_,_,h3⟩:=h; h3)
end
end Go.Abs

namespace Go.Abs
open Go
open Ren (R)
theorem chunk_right {sz n j : Nat} {a b : List Value} (h : a.length = n * sz) : chunk sz (n + j) (a ++ b) = chunk sz j b:=by
 unfold chunk
 rw [Nat.add_mul,← h,List.drop_append,List.drop_eq_nil_of_le (by omega),List.nil_append,Nat.add_sub_cancel_left]
section
variable {α : Type} [Ren α] {p q : Nat → Prop} {H : AH} {v w : Value} {l l2 : List α} {ty : Nat} {S : List Nat}
theorem OwnL.pushAll (h : OwnL p H ty v l S) (hw : WF H) (h2 : SlV q H w l2) (bytes : Nat) (hpq : ∀ b,p b → q b) (hq : ∀ b,q b → b < H.next) (hS : ∀ b ∈ S,¬ q b) (hroom : (l.length + l2.length) * bytes ≤ 140737488355328) (hmax : l.length + l2.length ≤ 9223372036854775807) :
  ∃ cells a' c' H' S',elemsA H (Ren.sz α) w = some cells ∧ appendA H ty (Ren.sz α) bytes v l2.length cells = some (.slice a' (l.length + l2.length) c',H') ∧ OwnL q H' ty (.slice a' (l.length + l2.length) c') (l ++ l2) S' ∧ Keep S H H' ∧ WF H' ∧ ∀ b ∈ S',b ∈ S ∨ H.next ≤ b:=by
 obtain ⟨cells,h1,hR,h3⟩:=h
 obtain ⟨_,cells2,hv,hR2⟩:=h2
 have hcl:=h1.len
 have hcl2:=hv.1
 obtain ⟨v',H',S',q1,q2,_,q3,q4,q5⟩:=h1.append hw (bytes:=bytes) (m:=l2.length) (news:=cells2) hcl2 hroom hmax
 obtain ⟨a',c',rfl⟩:=q2.slice
 have hsub : Sub q H H':=.keep hw q3 hS
 refine ⟨cells2,a',c',H',S',hv.elems,q1,⟨cells ++ cells2,by rw [List.length_append]; exact q2,fun i hi => ?_,fun b hb hqb => ?_⟩,q3,q4,fun b hb => (q5 b hb).imp id fun h => by omega⟩
 ·by_cases hil : i < l.length
  ·rw [chunk_append hcl hil,List.getElem_append_left hil]
   exact Ren.up hpq (hsub.less hpq) (hR i hil)
  ·obtain ⟨j,rfl⟩ : ∃ j,i = l.length + j:=⟨i - l.length,by omega⟩
   rw [List.length_append] at hi
   rw [chunk_right hcl,List.getElem_append_right (by omega)]
   simp only [Nat.add_sub_cancel_left]
   exact Ren.up (fun _ h => h) hsub (hR2 j (by omega))
 ·rcases q5 b hb with hb | hb
  ·exact hS b hb hqb
  ·have:=hq b hqb; omega
end
end Go.Abs
namespace Go.Proofs.YtejifalflkbekaaDoor
open Go Go.Abs
end Go.Proofs.YtejifalflkbekaaDoor

namespace Go.Abs
open Go
end Go.Abs

namespace Go.Abs
open Go
def mapB (f : Nat → Bool) (n : Nat) : List Bool:=(List.range n).map f
theorem mapB_len {f : Nat → Bool} {n : Nat} : (mapB f n).length = n:=by simp [mapB]
theorem mapB_set {f g : Nat → Bool} {n i : Nat} {a : Bool} (h : ∀ j,j < n → g j = if j = i then a else f j) : (mapB f n).set i a = mapB g n:=by
 apply List.ext_getElem
 ·simp [mapB]
 ·intro j h1 h2
  simp only [mapB_len] at h2
  simp only [List.getElem_set,mapB,List.getElem_map,List.getElem_range]
  rw [h j h2]
  by_cases hj : i = j
  ·rw [if_pos hj,if_pos hj.symm]
  ·rw [if_neg hj,if_neg (Ne.symm hj)]
end Go.Abs
namespace Go.Proofs.YtejifalflkbekaaDoor
open Go Go.Abs
end Go.Proofs.YtejifalflkbekaaDoor
