/-
  append under a kept number: in a region whose operations may be done in any order.
-/
import Derived.Test.YtejifalflkbekaaDoorA31
set_option linter.unusedSimpArgs false
set_option linter.unusedVariables false
namespace Go.Abs
open Go
theorem Own.pushAt {H : AH} {elem sz n : Nat} {v : Value} {cells : List Value} {S : List Nat} (h : Own H elem sz v n cells S) {id : Nat} (hid : id < H.next) {bytes m : Nat} {news : List Value} (hm : news.length = m * sz) (hm0 : 0 < m) (hroom : (n + m) * bytes ≤ 140737488355328) (hmax : n + m ≤ 9223372036854775807) :
  ∃ b' off' sp' c' H',appendAt id H elem sz bytes v m news = some (.slice (some ⟨b',off',sp'⟩) (n + m) c',H') ∧ Own H' elem sz (.slice (some ⟨b',off',sp'⟩) (n + m) c') (n + m) (cells ++ news) [b'] ∧ H'.next = H.next ∧ (∀ b,b ≠ id → b ∉ S → H'.blk b = H.blk b) ∧ (S = [b'] ∨ b' = id):=by
 have helems:=h.elems
 have hlen:=h.len
 have hne : m ≠ 0:=by omega
 have hnew : ∀ H0 : AH,Own (H0.set id (.row (cells ++ news) elem true)) elem sz (.slice (some ⟨id,0,some sz⟩) (n + m) (n + m)) (n + m) (cells ++ news) [id]:=by
  intro H0
  refine .inr ⟨id,0,some sz,n + m,cells ++ news,rfl,rfl,AH.set_blk_same,?_,Nat.le_refl _,?_,.inr rfl⟩
  ·simp [hlen,hm,Nat.add_mul]
  ·rw [List.drop_zero,List.take_of_length_le]; simp [hlen,hm,Nat.add_mul]
 rcases h with ⟨rfl,rfl,rfl,rfl⟩ | ⟨b,off,sp,cap,cs,rfl,rfl,h2,h3,h4,h5,h6⟩
 ·refine ⟨id,0,some sz,0 + m,H.set id (.row ([] ++ news) elem true),?_,hnew H,rfl,fun b hb _ => AH.set_blk_ne hb,.inr rfl⟩
  simp only [appendAt,hne,if_false]
  rw [if_pos ⟨by simpa using hroom,by omega⟩,AH.allocAt_if,if_pos hid]
  simp
 ·by_cases hc : n + m ≤ cap
  ·have hl:=Nat.mul_le_mul_right sz hc
   rw [Nat.add_mul] at hl
   refine ⟨b,off,sp,cap,H.set b (.row (over cs (off + n * sz) news) elem true),?_,.inr ⟨b,off,sp,cap,_,rfl,rfl,AH.set_blk_same,by rw [over_length (by omega)]; exact h3,hc,?_,h6⟩,rfl,fun a _ ha => AH.set_blk_ne (by simpa using ha),.inl rfl⟩
   ·simp only [appendAt,hne,if_false,hc,if_true,writeA_of h2 (show off + n * sz + news.length ≤ cs.length by omega)]; rfl
   ·rw [Nat.add_mul,h5]
    apply List.ext_getElem?
    intro i
    have hcl : ((cs.drop off).take (n * sz)).length = n * sz:=by simp; omega
    by_cases hi : i < n * sz + m * sz
    ·rw [List.getElem?_take_of_lt hi,List.getElem?_drop,over_get' (by omega)]
     by_cases hi2 : i < n * sz
     ·rw [if_neg (by omega),List.getElem?_append_left (by omega),List.getElem?_take_of_lt hi2,List.getElem?_drop]
     ·rw [if_pos (by omega),List.getElem?_append_right (by omega),hcl]; congr 1; omega
    ·rw [List.getElem?_eq_none (by simp; omega),List.getElem?_eq_none (by simp [over]; omega)]
  ·rcases h6 with rfl | rfl
   ·refine ⟨id,0,some sz,n + m,H.set id (.row (cells ++ news) elem true),?_,hnew H,rfl,fun a ha _ => AH.set_blk_ne ha,.inr rfl⟩
    simp only [appendAt,hne,if_false,hc]
    rw [if_pos ⟨hroom,hmax⟩,helems]
    simp only [AH.allocAt_if,if_pos hid]
   ·refine ⟨id,0,some sz,n + m,(H.kill b).set id (.row (cells ++ news) elem true),?_,hnew (H.kill b),rfl,fun a ha hs => by rw [AH.set_blk_ne ha,AH.kill_blk_ne (by simpa using hs)],.inr rfl⟩
    simp only [appendAt,hne,if_false,hc]
    rw [if_pos ⟨hroom,hmax⟩,helems]
    simp only [h2,and_self,if_true]
    simp only [AH.allocAt_if,if_pos (show id < (H.kill b).next from hid)]
end Go.Abs
