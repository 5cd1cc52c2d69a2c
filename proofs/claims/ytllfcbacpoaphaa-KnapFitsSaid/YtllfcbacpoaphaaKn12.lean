/-
  Layer 16: items made, and made tame.
-/
import Derived.Test.YtllfcbacpoaphaaKn11
import Derived.Test.YtllfcbacpoaphaaIr16
set_option maxRecDepth 100000
set_option linter.unusedSimpArgs false
set_option linter.unusedVariables false
namespace Go.Abs
def magI (n : Int) : Int:=if n < 0 then 0 else if 2147483648 < n then 2147483648 else n
theorem magI_range (n : Int) : 0 ≤ magI n ∧ magI n ≤ 2147483648:=by unfold magI; (repeat' split) <;> omega
def tameI (L : List (Int × Int)) : List (Int × Int):=L.map fun x => (magI x.1,magI x.2)
theorem tame_ok {L : List (Int × Int)} {room : Int} {m : Nat} (hm : m ≤ 4096) : ItOk ((tameI L).take m) (magI room):=by
 refine ⟨by rw [List.length_take]; omega,magI_range room,fun x hx => ?_⟩
 obtain ⟨y,_,rfl⟩:=List.mem_map.1 (List.mem_of_mem_take hx)
 exact ⟨magI_range _,magI_range _⟩
end Go.Abs
namespace Go.Proofs.Ytllfcbacpoaphaa
open Go Go.Abs
theorem mag_spec {H : AH} (n : Int) : AFn Try.prog F_law16_tame_1 [.int .i64 n] H fun u H' => u = .int .i64 (magI n) ∧ H' = H:=by
 refine AFn.enter mixed ir_law16_tame_1_eq (by simp [ir_law16_tame_1]) fun hw => ?_
 have h : magI n = if n < 0 then 0 else if 2147483648 < n then 2147483648 else n:=rfl
 rw [h]
 by_cases h1 : n < 0
 ·rw [if_pos h1]
  simp (disch:=omega) [-getElem?_pos,if_pos,if_neg,decide_eq_true,decide_eq_false,ir_law16_tame_1]
 ·rw [if_neg h1]
  by_cases h2 : 2147483648 < n
  ·rw [if_pos h2]
   simp (disch:=omega) [-getElem?_pos,if_pos,if_neg,decide_eq_true,decide_eq_false,ir_law16_tame_1]
  ·rw [if_neg h2]
   simp (disch:=omega) [-getElem?_pos,if_pos,if_neg,decide_eq_true,decide_eq_false,ir_law16_tame_1]
theorem push_pair {ty e2 : Nat} {H H1 : AH} {v : Value} {L : List (Int × Int)} {S : List Nat} (hw : WF H1) (hA : OwnL (fun _ => False) H1 ty v L S) (hk : Keep [] H H1) (hS : ∀ b ∈ S,H.next ≤ b) {a : Int × Int} (ha : I64 a.1 ∧ I64 a.2) (hl : (L.length + 1) * 16 ≤ 140737488355328) :
  ∃ va vc H2 S',appendA (H1.alloc (.row [.int .i64 a.1,.int .i64 a.2] e2 true)) ty 2 16 v 1 [.int .i64 a.1,.int .i64 a.2] = some (.slice va (L.length + 1) vc,H2) ∧ WF H2 ∧ OwnL (fun _ => False) H2 ty (.slice va (L.length + 1) vc) (L ++ [a]) S' ∧ Keep [] H H2 ∧ (∀ b ∈ S',H.next ≤ b) ∧ Keep S H1 H2:=by
 obtain ⟨va,vc,Hd,S',p1,hA',kd,wd,i1⟩:=hA.push (q:=fun _ => False) hw (cs:=[.int .i64 a.1,.int .i64 a.2]) (a:=a) ⟨rfl,ha⟩ e2 16 (fun _ h => h) (fun b hb => hb.elim) (by simp) hl (by omega)
 have hn:=hk.next
 refine ⟨va,vc,Hd,S',p1,wd,hA',hk.trans kd (fun b hb hlt => by have:=hS b hb; omega),fun b hb => ?_,kd⟩
 rcases i1 b hb with h | h
 ·exact hS b h
 ·omega
theorem elems_two {H : AH} {cs : List Value} {t : Nat} (h : cs.length = 2) : elemsA (H.alloc (.row cs t true)) 2 (.slice (some ⟨H.next,0,none⟩) 1 1) = some cs:=by
 have hc : (H.alloc (.row cs t true)).cells H.next = some cs:=AH.cells_of AH.alloc_blk_new
 simp [elemsA,hc,cut,h]
 rw [← h,List.take_length]
def TmI (H : AH) (v room : Value) (L : List (Int × Int)) (k : Nat) (env : Env) (H' : AH) : Prop :=
 env 1 = some room ∧ env 6 = some (.func (.func F_law16_tame_1) #[] #[]) ∧ env 10 = some v ∧ env 11 = some (.int .i64 L.length) ∧ env 12 = some (.int .i64 k) ∧ WF H' ∧ Keep [] H H' ∧
  ∃ w S,env 7 = some w ∧ OwnL (fun _ => False) H' T_2_int64 w (tameI (L.take k)) S ∧ ∀ b ∈ S,H.next ≤ b
theorem tame_l0 {H : AH} {v room : Value} {L : List (Int × Int)} (hw : WF H) (hL : SlV (fun b => b < H.next) H v L) (hl : L.length * 16 ≤ 140737488351232) {env : Env} (h : TmI H v room L 0 env H) :
  wpC Try.prog 33 (.loop ir_law16_tame_l0) (fun e env' H' => e = .exit 0 ∧ TmI H v room L L.length env' H') env H:=by
 refine loop_upto L.length (TmI H v room L) (Q:=fun e env' H' => e = .exit 0 ∧ TmI H v room L L.length env' H') h ?_
 rintro k env H' hk ⟨e1,e6,e10,e11,e12,w',k',w,S,e7,hA,hS⟩
 by_cases hkn : k < L.length
 ·have hL':=hL.kept hw k'
  obtain ⟨b0,off,sp,cap,cs,hcv,q1,q2⟩:=pairs_rd hL' (by omega)
  obtain ⟨g1,g2,g3,g4,g5⟩:=q2 k hkn
  have hm1:=fun H => @mag_spec H L[k].1
  have hm2:=fun H => @mag_spec H L[k].2
  have hsn : tameI (L.take (k + 1)) = tameI (L.take k) ++ [(magI L[k].1,magI L[k].2)]:=by unfold tameI; rw [List.take_succ_eq_append_getElem hkn,List.map_append]; rfl
  have htl : (tameI (L.take k)).length = k:=by simp [tameI]; omega
  have hr1:=magI_range L[k].1
  have hr2:=magI_range L[k].2
  generalize magI L[k].1 = m1 at *
  generalize magI L[k].2 = m2 at *
  generalize L[k] = x at *
  obtain ⟨x0,x1⟩:=x
  simp only at g1 hm1 hm2
  subst hcv
  obtain ⟨wa,wc,rfl⟩:=hA.slice
  obtain ⟨HA,hHA⟩ : ∃ HA,HA = H'.alloc (.row [.int .i64 x0,.int .i64 x1] T_2_int64 true):=⟨_,rfl⟩
  have ka : Keep [] H' HA:=by rw [hHA]; exact .alloc
  have wA : WF HA:=by rw [hHA]; exact w'.alloc
  have hA2:=hA.kept w' ka
  obtain ⟨va,vc,H2,S',p1,w2,hA',k2,hS',_⟩:=push_pair (H:=H) (e2:=T_2_int64) wA hA2 (k'.trans' ka) hS (a:=(m1,m2)) ⟨by unfold I64; omega,by unfold I64; omega⟩ (by rw [htl]; omega)
  rw [htl] at p1 hA'
  simp only at p1
  have he:=elems_two (H:=HA) (cs:=[Value.int .i64 m1,.int .i64 m2]) (t:=T_2_int64) rfl
  rw [← hsn] at hA'
  have hkn' : (k : Int) < (L.length : Int):=by omega
  simp (disch:=omega) [-getElem?_pos,if_pos,if_neg,decide_eq_true,decide_eq_false,ir_law16_tame_l0,e6,e7,e10,e11,e12,hkn,q1,g1,htl,writeA,over,cut2i]
  rw [← hHA]
  refine AFnD.of (hm1 _) ?_
  simp (disch:=omega) [-getElem?_pos,if_pos,if_neg,decide_eq_true,decide_eq_false,]
  refine AFnD.of (hm2 _) ?_
  simp (disch:=omega) [-getElem?_pos,if_pos,if_neg,decide_eq_true,decide_eq_false,he,p1,e12,IntWalk.i64_in]
  exact ⟨hkn,by simp [e1],by simp [e6],by simp [e10],by simp [e11],by simp,w2,k2,_,S',by simp,hA',hS'⟩
 ·obtain rfl : k = L.length:=by omega
  simp (disch:=omega) [-getElem?_pos,if_pos,if_neg,decide_eq_true,decide_eq_false,ir_law16_tame_l0,e11,e12]
  exact ⟨e1,e6,e10,e11,e12,w',k',w,S,e7,hA,hS⟩
theorem tame_spec {H : AH} {v : Value} {L : List (Int × Int)} {room : Int} (hL : SlV (fun b => b < H.next) H v L) (hl : L.length * 16 ≤ 140737488351232) : AFn Try.prog F_law16_tame [v,.int .i64 room] H fun u H' => ∃ w,u = .tuple #[w,.int .i64 (magI room)] ∧ SlV (fun b => H.next ≤ b ∧ b < H'.next) H' w (tameI L) ∧ Keep [] H H':=by
 refine AFn.enter mixed ir_law16_tame_eq (by simp [ir_law16_tame]) fun hw => ?_
 obtain ⟨va,vc,rfl⟩:=hL.slice
 simp (disch:=omega) [-getElem?_pos,if_pos,if_neg,decide_eq_true,decide_eq_false,ir_law16_tame]
 refine wpC_use (tame_l0 (H:=H) (room:=.int .i64 room) hw hL hl ⟨by simp,by simp,by simp,by simp,by simp,hw,.refl,_,[],by simp; rfl,by rw [List.take_zero]; exact .nil,by simp⟩) ?_
 rintro e env2 H2 ⟨rfl,e1,e6,e10,e11,e12,w2,k2,w,S,e7,hA,hS⟩ _
 rw [List.take_length] at hA
 have hcA:=hA.cell
 have hlt:=hA.lt w2
 have hm:=@mag_spec H2 room
 generalize magI room = mr at *
 simp (disch:=omega) [-getElem?_pos,if_pos,if_neg,decide_eq_true,decide_eq_false,e1,e6,e7]
 refine AFn.pure hm ?_
 simp (disch:=omega) [-getElem?_pos,if_pos,if_neg,decide_eq_true,decide_eq_false,hcA]
 have htl : (tameI L).length = L.length:=by simp [tameI]
 exact ⟨hA.slv (fun _ h => h.elim) (fun b hb => ⟨hS b hb,hlt b hb⟩) (by omega),k2⟩
def ItmI (H : AH) (v v2 : Value) (L : List (Int × Int)) (k : Nat) (env : Env) (H' : AH) : Prop :=
 env 0 = some v2 ∧ env 15 = some v ∧ env 16 = some (.int .i64 L.length) ∧ env 17 = some (.int .i64 k) ∧ WF H' ∧ Keep [] H H' ∧
  ∃ w S,env 6 = some w ∧ OwnL (fun _ => False) H' T_inst_Item w (L.take k) S ∧ ∀ b ∈ S,H.next ≤ b
theorem items_l0 {H : AH} {v v2 : Value} {L : List (Int × Int)} (hw : WF H) (hL : SlV (fun b => b < H.next) H v L) (hl : L.length ≤ 4096) {env : Env} (h : ItmI H v v2 L 0 env H) :
  wpC Try.prog 32 (.loop ir_law16_items_l0) (fun e env' H' => e = .exit 0 ∧ ItmI H v v2 L L.length env' H') env H:=by
 refine loop_upto L.length (ItmI H v v2 L) (Q:=fun e env' H' => e = .exit 0 ∧ ItmI H v v2 L L.length env' H') h ?_
 rintro k env H' hk ⟨e0,e15,e16,e17,w',k',w,S,e6,hA,hS⟩
 by_cases hkn : k < L.length
 ·have hL':=hL.kept hw k'
  obtain ⟨b0,off,sp,cap,cs,hcv,q1,q2⟩:=pairs_rd hL' (by omega)
  obtain ⟨g1,g2,g3,g4,g5⟩:=q2 k hkn
  have hsn : L.take (k + 1) = L.take k ++ [L[k]]:=List.take_succ_eq_append_getElem hkn
  have htl : (L.take k).length = k:=by simp; omega
  generalize L[k] = x at *
  obtain ⟨x0,x1⟩:=x
  simp only at g1 g4 g5
  subst hcv
  obtain ⟨wa,wc,rfl⟩:=hA.slice
  obtain ⟨HA,hHA⟩ : ∃ HA,HA = H'.alloc (.row [.int .i64 x0,.int .i64 x1] T_2_int64 true):=⟨_,rfl⟩
  have ka : Keep [] H' HA:=by rw [hHA]; exact .alloc
  have wA : WF HA:=by rw [hHA]; exact w'.alloc
  have hA2:=hA.kept w' ka
  obtain ⟨va,vc,H2,S',p1,w2,hA',k2,hS',_⟩:=push_pair (H:=H) (e2:=T_inst_Item) wA hA2 (k'.trans' ka) hS (a:=(x0,x1)) ⟨g4,g5⟩ (by rw [htl]; omega)
  rw [htl] at p1 hA'
  simp only at p1
  have he:=elems_two (H:=HA) (cs:=[Value.int .i64 x0,.int .i64 x1]) (t:=T_inst_Item) rfl
  rw [← hsn] at hA'
  have hc4:=AH.cells_alloc_new (H:=H') (cs:=[Value.int .i64 x0,.int .i64 x1]) (e:=T_2_int64) (wr:=true)
  rw [show HA.next = H'.next + 1 by rw [hHA]; rfl] at he
  rw [hHA] at he p1
  simp (disch:=omega) [-getElem?_pos,if_pos,if_neg,decide_eq_true,decide_eq_false,ir_law16_items_l0,e0,e6,e15,e16,e17,hkn,q1,g1,htl,writeA,over,cut2i,he,p1,IntWalk.i64_in]
  exact ⟨by simp [e0],by simp [e15],by simp [e16],by simp,w2,k2,_,S',by simp,hA',hS'⟩
 ·obtain rfl : k = L.length:=by omega
  simp (disch:=omega) [-getElem?_pos,if_pos,if_neg,decide_eq_true,decide_eq_false,ir_law16_items_l0,e16,e17]
  exact ⟨e0,e15,e16,e17,w',k',w,S,e6,hA,hS⟩
theorem items_spec {H : AH} {v : Value} {L : List (Int × Int)} {m : Nat} (hL : SlV (fun b => b < H.next) H v L) (hm : m ≤ 4096) : AFn Try.prog F_law16_items [v,.int .i64 m] H fun u H' => ∃ a b,u = .tuple #[a,b] ∧ SlV (fun b => H.next ≤ b ∧ b < H'.next) H' a (L.take m) ∧ SlV (fun b => b < H.next) H' b (L.take m) ∧ Keep [] H H':=by
 refine AFn.enter mixed ir_law16_items_eq (by simp [ir_law16_items]) fun hw => ?_
 obtain ⟨n,hn⟩ : ∃ n : Nat,n = min L.length m:=⟨_,rfl⟩
 obtain ⟨zv,hsl,hz⟩:=hL.sl (m:=n) (by omega)
 have htk : L.take n = L.take m:=by
  by_cases h : L.length ≤ m
  ·rw [hn,Nat.min_eq_left h,List.take_length,List.take_of_length_le h]
  ·rw [hn,Nat.min_eq_right (by omega)]
 rw [htk] at hz
 have hmm : (if m < L.length then (m : Int) else (L.length : Int)) = (n : Int):=by split <;> omega
 obtain ⟨va,vc,rfl⟩:=hL.slice
 obtain ⟨za,zc,rfl⟩:=hz.slice
 simp only [sz_pair] at hsl
 have hzc:=hz.cell
 have htl : (L.take m).length ≤ 4096:=by rw [List.length_take]; omega
 generalize L.take m = T at *
 simp (disch:=omega) [-getElem?_pos,if_pos,if_neg,decide_eq_true,decide_eq_false,ir_law16_items,↓ieval_slhi,hmm,hsl]
 refine wpC_use (items_l0 (H:=H) (v:=.slice za T.length zc) (v2:=.slice za T.length zc) (L:=T) hw hz htl ⟨by simp,by simp,by simp,by simp,hw,.refl,_,[],by simp; rfl,by rw [List.take_zero]; exact .nil,by simp⟩) ?_
 rintro e env2 H2 ⟨rfl,e0,e15,e16,e17,w2,k2,w,S,e6,hA,hS⟩ _
 rw [List.take_length] at hA
 have hcA:=hA.cell
 have hlt:=hA.lt w2
 simp (disch:=omega) [-getElem?_pos,if_pos,if_neg,decide_eq_true,decide_eq_false,e0,e6,hcA,hzc]
 refine ⟨w,.slice za T.length zc,?_,hA.slv (fun _ h => h.elim) (fun b hb => ⟨hS b hb,hlt b hb⟩) (by omega),hz.kept hw k2,k2⟩
 first | exact ⟨rfl,rfl⟩ | rfl
end Go.Proofs.Ytllfcbacpoaphaa
