/-
  Lists of numbers: made anew, one more, copied, looked for, compared.
-/
import Derived.Test.YtlcddhgfkkjhkaaDoorRen
import Derived.Test.YtlcddhgfkkjhkaaDoorIr
set_option maxRecDepth 100000
set_option linter.unusedSimpArgs false
set_option linter.unusedVariables false
namespace Go.Proofs.YtlcddhgfkkjhkaaDoor
open Go Go.Abs
def NewL (H : AH) (u : Value) (L : List Int) (H' : AH) : Prop:=∃ S,OwnL (fun _ => False) H' T_int u L S ∧ Keep [] H H' ∧ ∀ b ∈ S,H.next ≤ b
theorem elems_one {H : AH} {cs : List Value} {t sz : Nat} (h : cs.length = sz) : elemsA (H.alloc (.row cs t true)) sz (.slice (some ⟨H.next,0,none⟩) 1 1) = some cs:=by
 have hc : (H.alloc (.row cs t true)).cells H.next = some cs:=AH.cells_of AH.alloc_blk_new
 simp [elemsA,hc,cut,h]
 rw [← h,List.take_length]
theorem CloneI_spec {p : Nat → Prop} {H : AH} {v : Value} {L : List Int} (h : SlV p H v L) (hl : L.length ≤ 100000) : AFn Tryd.prog F_slices_Clone_Lint_int [v] H fun u H' => NewL H u L H':=by
 refine AFn.enter mixed ir_slices_Clone_Lint_int_eq (by simp [ir_slices_Clone_Lint_int]) fun hw => ?_
 by_cases hv : ∃ c,v = .slice none L.length c
 ·obtain ⟨c,rfl⟩:=hv
  have h0 : L = []:=by
   apply Classical.byContradiction
   intro hne
   obtain ⟨b,off,sp,cap,cs,hcv,_⟩:=ints_rd h (List.length_pos_iff.2 hne)
   cases hcv
  subst h0
  have hc : c = 0:=by
   obtain ⟨_,cells,⟨_,h2⟩,_⟩:=h
   rcases h2 with ⟨_,a,c2,e,hac⟩ | ⟨b,off,sp,cap,cs,e,_⟩
   ·cases e; exact hac rfl
   ·cases e
  subst hc
  simp (disch:=omega) [-getElem?_pos,if_pos,if_neg,decide_eq_true,decide_eq_false,ir_slices_Clone_Lint_int]
  exact ⟨[],.nil,.refl,by simp⟩
 ·obtain ⟨a,c,rfl⟩:=h.slice
  cases a with
  | none => exact absurd ⟨c,rfl⟩ hv
  | some a =>
   have h1:=h.kept hw (.alloc (B:=.row [] T_int true))
   have ho : OwnL (fun _ => False) (H.alloc (.row [] T_int true)) T_int (.slice (some ⟨H.next,0,none⟩) 0 0) ([] : List Int) [H.next]:=⟨[],.inr ⟨H.next,0,none,0,[],rfl,rfl,by simp,by simp,by simp,by simp,.inl rfl⟩,fun i hi => by simp at hi,by simp⟩
   obtain ⟨cells,hc,hv2⟩ : ∃ cells,Vw (fun _ => True) (H.alloc (.row [] T_int true)) 1 (.slice (some a) L.length c) L.length cells ∧ ∀ i (hi : i < L.length),Ren.R (fun _ => False) (H.alloc (.row [] T_int true)) (chunk 1 i cells) L[i]:=by
    obtain ⟨_,cells,q1,q2⟩:=h1
    exact ⟨cells,q1.sub (fun _ _ => trivial) .refl,q2⟩
   obtain ⟨cc,o1,o2,o3⟩:=ho
   obtain ⟨v',H',S',q1,q2,q3,q4,q5,q6⟩:=o1.append hw.alloc (bytes:=8) (m:=L.length) (news:=cells) (by rw [hc.1]; rfl) (by simp; omega) (by simp; omega)
   obtain ⟨a',c',rfl⟩:=q2.slice
   have he:=hc.elems
   have hcc : cc = []:=by have:=o1.len; simpa using this
   subst hcc
   simp only [List.length_nil,Nat.zero_add,List.nil_append,sz_int] at q1 q2
   simp (disch:=omega) [-getElem?_pos,if_pos,if_neg,decide_eq_true,decide_eq_false,ir_slices_Clone_Lint_int,he,q1]
   refine ⟨S',⟨cells,q2,hv2,by simp⟩,⟨by have:=q4.next; simp at this; omega,fun b hb _ => by rw [q4.blk b (by simp; omega) (by simp; omega),AH.alloc_blk_ne (by omega)]⟩,fun b hb => ?_⟩
   rcases q6 b hb with h | h
   ·simp at h; omega
   ·simp at h; omega
def idxV (L : List Int) (y : Int) : Int:=if y ∈ L then (L.idxOf y : Int) else -1
def IxI (H : AH) (v : Value) (L : List Int) (y : Int) (k : Nat) (env : Env) (H' : AH) : Prop :=
 env 0 = some v ∧ env 1 = some (.int .i64 y) ∧ env 7 = some (.int .i64 L.length) ∧ env 8 = some (.int .i64 k) ∧ H' = H ∧ y ∉ L.take k
theorem Index_spec {p : Nat → Prop} {H : AH} {v : Value} {L : List Int} {y : Int} (hL : SlV p H v L) : AFn Tryd.prog F_slices_Index_Lint_int [v,.int .i64 y] H fun u H' => u = .int .i64 (idxV L y) ∧ H' = H:=by
 obtain ⟨va,vc,rfl⟩:=hL.slice
 have hLm:=hL.max
 refine AFn.enter mixed ir_slices_Index_Lint_int_eq (by simp [ir_slices_Index_Lint_int]) fun hw => ?_
 simp (disch:=omega) [-getElem?_pos,if_pos,if_neg,decide_eq_true,decide_eq_false,ir_slices_Index_Lint_int]
 refine loop_upto L.length (IxI H (.slice va L.length vc) L y) ⟨by simp,by simp,by simp,by simp,rfl,by simp⟩ ?_
 rintro k env H' hk ⟨e0,e1,e7,e8,rfl,hy⟩
 by_cases hkn : k < L.length
 ·obtain ⟨b,off,sp,cap,cs,ev,q1,q2⟩:=ints_rd hL (by omega)
  obtain ⟨q3,q4⟩:=q2 k hkn
  cases ev
  by_cases hx : y = L[k]
  ·have hi : idxV L y = k:=by
    have hm : y ∈ L:=by rw [hx]; exact List.getElem_mem hkn
    have : L.idxOf y = k:=by
     have hs : L = L.take k ++ L[k] :: L.drop (k + 1):=by rw [List.getElem_cons_drop,List.take_append_drop]
     rw [hs,List.idxOf_append,if_neg hy,hx,List.idxOf_cons_self,List.length_take]; omega
    unfold idxV; rw [if_pos hm,this]
   generalize L[k] = x at *
   subst hx
   simp (disch:=omega) [-getElem?_pos,if_pos,if_neg,decide_eq_true,decide_eq_false,ir_slices_Index_Lint_int_l0,e0,e1,e7,e8,q1,q3,hi,IntWalk.i64_in]
  ·have hy' : y ∉ L.take (k + 1):=by
    rw [List.take_succ_eq_append_getElem hkn]; intro h; rcases List.mem_append.1 h with h | h; exact hy h; simp at h; exact hx h
   generalize L[k] = x at *
   simp (disch:=omega) [-getElem?_pos,if_pos,if_neg,decide_eq_true,decide_eq_false,ir_slices_Index_Lint_int_l0,e0,e1,e7,e8,q1,q3,hx,IntWalk.i64_in]
   exact ⟨hkn,by simp [e0],by simp [e1],by simp [e7],by simp,rfl,hy'⟩
 ·obtain rfl : k = L.length:=by omega
  simp (disch:=omega) [-getElem?_pos,if_pos,if_neg,decide_eq_true,decide_eq_false,ir_slices_Index_Lint_int_l0,e0,e1,e7,e8]
  rw [List.take_length] at hy
  unfold idxV; rw [if_neg hy]
theorem push_i64 {ty : Nat} {H H1 : AH} {v : Value} {L : List Int} {S : List Nat} (hw : WF H1) (hA : OwnL (fun _ => False) H1 ty v L S) (hk : Keep [] H H1) (hS : ∀ b ∈ S,H.next ≤ b) {a : Int} (ha : I64 a) (hl : L.length ≤ 100000) :
  ∃ va vc H2 S',appendA (H1.alloc (.row [.int .i64 a] ty true)) ty 1 8 v 1 [.int .i64 a] = some (.slice va (L.length + 1) vc,H2) ∧ WF H2 ∧ OwnL (fun _ => False) H2 ty (.slice va (L.length + 1) vc) (L ++ [a]) S' ∧ Keep [] H H2 ∧ (∀ b ∈ S',H.next ≤ b) ∧ Keep S H1 H2 ∧ ∀ b ∈ S',b ∈ S ∨ H1.next ≤ b:=by
 obtain ⟨va,vc,Hd,S',p1,hA',kd,wd,i1⟩:=hA.push (q:=fun _ => False) hw (cs:=[.int .i64 a]) (a:=a) ⟨rfl,ha⟩ ty 8 (fun _ h => h) (fun b hb => hb.elim) (by simp) (by omega) (by omega)
 have hn:=hk.next
 refine ⟨va,vc,Hd,S',p1,wd,hA',hk.trans kd (fun b hb hlt => by have:=hS b hb; omega),fun b hb => ?_,kd,i1⟩
 rcases i1 b hb with h | h
 ·exact hS b h
 ·omega
end Go.Proofs.YtlcddhgfkkjhkaaDoor
