/-
  package state (1): what stands for a state; Start, Done, free, Moves.
-/
import Derived.Test.YtlcddhgfkkjhkaaDoorState0
import Derived.Test.YtlcddhgfkkjhkaaDoorLs
import Derived.Test.YtlcddhgfkkjhkaaDoorBs
import Derived.Test.YtlcddhgfkkjhkaaDoorWakes
import Derived.Test.YtlcddhgfkkjhkaaDoorIrS

set_option maxRecDepth 100000
set_option linter.unusedSimpArgs false
set_option linter.unusedVariables false
namespace Go.Proofs.YtlcddhgfkkjhkaaDoor
open Go Go.Abs
def stC (s : StD) (pv uv : Value) : List Value:=[pv,.int .i64 s.cost,.int .i64 s.left,.int .i64 s.pos,.int .i64 s.used.length,uv]
def StV (p : Nat → Prop) (H : AH) (v : Value) (s : StD) : Prop :=
 ∃ pv uv,v = .agg #[pv,.int .i64 s.cost,.int .i64 s.left,.int .i64 s.pos,.int .i64 s.used.length,uv] ∧ SlV p H pv s.path ∧ Bs.SetB p H (.agg #[.int .i64 s.used.length,uv]) s.used
theorem st_cut (s : StD) (pv uv : Value) : cut (stC s pv uv) 0 6 = some (stC s pv uv):=by simp [cut,stC]
theorem st_cut4 (s : StD) (pv uv : Value) : cut (stC s pv uv) 4 2 = some [.int .i64 s.used.length,uv]:=by simp [cut,stC]
theorem SetB_sub {p q : Nat → Prop} {H H' : AH} {v : Value} {B : List Bool} (h : Bs.SetB p H v B) (hpq : ∀ b,p b → q b) (hs : Sub p H H') : Bs.SetB q H' v B:=by
 obtain ⟨sl,h1,h2,h3⟩:=h
 exact ⟨sl,h1,h2.sub hpq hs,h3⟩
theorem SetB_cell {p : Nat → Prop} {H : AH} {n : Int} {uv : Value} {B : List Bool} (h : Bs.SetB p H (.agg #[.int .i64 n,uv]) B) : one uv = true ∧ cellsOf uv = some [uv]:=by
 obtain ⟨sl,h1,h2,_⟩:=h
 simp at h1
 obtain ⟨_,rfl⟩:=h1
 obtain ⟨a,c,rfl⟩:=h2.slice
 exact ⟨rfl,rfl⟩
theorem SetB_lt {p : Nat → Prop} {H : AH} {v : Value} {B : List Bool} (h : Bs.SetB p H v B) (hw : WF H) : Bs.SetB (fun b => p b ∧ b < H.next) H v B:=by
 obtain ⟨sl,h1,⟨h2,h4⟩,h3⟩:=h
 refine ⟨sl,h1,⟨h2,?_⟩,h3⟩
 rcases h4 with h4 | ⟨b,off,sp,cap,cs,e,q1,q2,q3,q4,q5⟩
 ·exact .inl h4
 ·exact .inr ⟨b,off,sp,cap,cs,e,q1,q2,q3,q4,q5,cells_lt hw q3⟩
section
variable {p q : Nat → Prop} {H H' : AH} {v : Value} {s : StD}
theorem StV.up (h : StV p H v s) (hpq : ∀ b,p b → q b) (hs : Sub p H H') : StV q H' v s:=by
 obtain ⟨pv,uv,h1,h2,h3⟩:=h
 exact ⟨pv,uv,h1,h2.up hpq hs,SetB_sub h3 hpq hs⟩
theorem StV.kept (h : StV p H v s) (hw : WF H) (hk : Keep [] H H') : StV p H' v s:=h.up (fun _ h => h) (.kept hw hk)
theorem StV.same (h : StV p H v s) (hs : SameC H H') : StV p H' v s:=h.up (fun _ h => h) (.same hs)
theorem StV.any (h : StV p H v s) : StV (fun _ => True) H v s:=h.up (fun _ _ => trivial) .refl
theorem stv_zero : StV p H (.agg #[.slice none 0 0,.int .i64 0,.int .i64 0,.int .i64 0,.int .i64 0,.slice none 0 0]) zeroSt :=
 ⟨_,_,rfl,.nil,.slice none 0 0,rfl,⟨by simp [words,zeroSt,nw],.inl ⟨rfl,none,0,rfl,fun _ => rfl⟩⟩,by simp [zeroSt]⟩
end
theorem setT_eq {B : List Bool} {i : Int} : Bs.setB B i true = setT B i:=rfl
theorem Start_spec {p : Nat → Prop} {H : AH} {v : Value} {x : InstD} (hx : InstV p H v x) : AFn Tryd.prog F_state_Start [v] H fun u H' => ∃ sv,u = .tuple #[sv,.int .i64 x.check] ∧ StV (fun b => H.next ≤ b ∧ b < H'.next) H' sv (if x.check = 0 then x.start else zeroSt) ∧ Keep [] H H':=by
 obtain ⟨iv,cv,sv,rfl,i1,i2,i3,h1,h2,h3⟩:=id hx
 obtain ⟨ca,cc,rfl⟩:=h2.slice
 refine AFn.enter mixed ir_state_Start_eq (by simp [ir_state_Start]) fun hw => ?_
 generalize hq : H.next = q at *
 have nH:=hq
 simp (disch:=omega) [-getElem?_pos,if_pos,if_neg,decide_eq_true,decide_eq_false,ir_state_Start,hq,inst_cut]
 generalize hH1 : AH.alloc (AH.alloc H _) _ = H1
 have k1 : Keep [] H H1:=by rw [← hH1]; exact .new_alloc .alloc
 have w1 : WF H1:=by rw [← hH1]; exact hw.alloc.alloc
 have n1 : H1.next = q + 2:=by rw [← hH1]; simp [hq]
 have c1 : H1.cells q = some (instC x iv (.slice ca x.cost.length cc) sv):=by rw [← hH1,← hq]; simp
 have b2 : H1.blk (q + 1) = some (.row [.slice none 0 0,.int .i64 0,.int .i64 0,.int .i64 0,.int .i64 0,.slice none 0 0] T_state_State true):=by rw [← hH1,← hq]; exact AH.alloc_blk_new
 clear hH1
 have hx1:=hx.kept hw k1
 refine AFn.pure (Check_spec hx1) ?_
 by_cases hc : x.check = 0
 ·have hok:=InstD.check_ok.1 hc
  obtain ⟨n,hn⟩ : ∃ n : Nat,n = x.cost.length + x.size.toNat:=⟨_,rfl⟩
  have hs0:=hok.few.size0
  have hn4:=slots_le hok
  have hni : (x.cost.length : Int) + x.size = (n : Int):=by omega
  have hwr : IntKind.i64.wrap ((x.cost.length : Int) + x.size) = (n : Int):=by rw [hni]; exact IntWalk.i64_in _ (by omega)
  have hso : Bs.sizeOk n = true:=by unfold Bs.sizeOk; simp; omega
  have hno : Bs.nOk n = n:=by unfold Bs.nOk; rw [hso]; simp
  have heo : Bs.eOk n = 0:=by unfold Bs.eOk; rw [hso]; rfl
  have c1':=c1
  simp only [instC] at c1'
  simp (disch:=omega) [-getElem?_pos,if_pos,if_neg,decide_eq_true,decide_eq_false,hc,c1',writeA,over]
  generalize hH2 : AH.alloc H1 _ = H2
  have k2 : Keep [] H1 H2:=by rw [← hH2]; exact .alloc
  have w2 : WF H2:=by rw [← hH2]; exact w1.alloc
  have n2 : H2.next = q + 3:=by rw [← hH2]; simp [n1]
  have b3 : H2.blk (q + 2) = some (.row [.slice none 0 0,.int .i64 0,.int .i64 x.cap,.int .i64 0,.int .i64 0,.slice none 0 0] T_state_State true):=by rw [← hH2,← n1]; exact AH.alloc_blk_new
  clear hH2
  have c2:=cells_kept w1 k2 c1'
  have b22:=(k2.blk (q + 1) (by omega) (by simp)).trans b2
  rw [n1]
  simp (disch:=omega) [-getElem?_pos,if_pos,if_neg,decide_eq_true,decide_eq_false,c2,hwr]
  refine (Bs.New_spec (n : Int) ⟨by omega,by omega⟩).mono' fun u H3 w3 ⟨sl,S,hu,ho,k3,hS⟩ => ?_
  rw [hno,heo] at hu
  rw [hno] at ho
  subst hu
  have n3:=k3.next
  have hone:=Bs.Own.one ho
  have hsc : cellsOf sl = some [sl]:=by obtain ⟨a,c,rfl⟩:=ho.slice; simp
  have hset : Bs.SetB (fun b => q + 3 ≤ b ∧ b < H3.next) H3 (.agg #[.int .i64 n,sl]) (List.replicate n false):=by
   have h0 : Bs.SetO H3 (.agg #[.int .i64 n,sl]) n (words (List.replicate n false)) S:=⟨sl,rfl,ho,hone⟩
   exact h0.setB (by simp) rfl (by omega) fun b hb => ⟨by have:=hS b hb; omega,ho.lt w3 b hb⟩
  have b33:=(k3.blk (q + 2) (by omega) (by simp)).trans b3
  have b23:=(k3.blk (q + 1) (by omega) (by simp)).trans b22
  have c3:=cells_kept w2 k3 c2
  have wr:=writeA_of (off:=4) (news:=[Value.int .i64 n,sl]) b33 (by simp)
  simp only [over,List.take_succ_cons,List.take_zero,List.drop_succ_cons,List.drop_zero,List.cons_append,List.nil_append,List.length_cons,List.length_nil,Nat.add_zero,Nat.zero_add,Nat.reduceAdd,List.append_nil] at wr
  simp (disch:=omega) [-getElem?_pos,if_pos,if_neg,decide_eq_true,decide_eq_false,hone,wr,c3]
  generalize hH4 : AH.set H3 _ _ = H4
  have w4 : WF H4:=by rw [← hH4]; exact w3.set (by omega)
  have n4 : H4.next = H3.next:=by rw [← hH4]; rfl
  have k4 : Keep [] H H4:=by rw [← hH4]; exact .new_set (by omega) ((k1.trans' k2).trans' k3)
  have b34 : H4.blk (q + 2) = some (.row [.slice none 0 0,.int .i64 0,.int .i64 x.cap,.int .i64 0,.int .i64 n,sl] T_state_State true):=by rw [← hH4,AH.set_blk_same]
  have b24 : H4.blk (q + 1) = H3.blk (q + 1):=by rw [← hH4,AH.set_blk_ne (by omega)]
  replace b24:=b24.trans b23
  have c4 : H4.cells q = H3.cells q:=by rw [← hH4,AH.cells_set_ne (by omega)]
  replace c4:=c4.trans c3
  have hset4 : Bs.SetB (fun b => q + 3 ≤ b ∧ b < H4.next) H4 (.agg #[.int .i64 n,sl]) (List.replicate n false):=SetB_sub hset (fun b hb => by omega) (by rw [← hH4]; exact .set (by omega))
  clear hH4
  have cut6 : ∀ uv : Value,cut [Value.slice none 0 0,.int .i64 0,.int .i64 x.cap,.int .i64 0,.int .i64 n,uv] 0 6 = some [Value.slice none 0 0,.int .i64 0,.int .i64 x.cap,.int .i64 0,.int .i64 n,uv]:=fun uv => by simp [cut]
  have cut4 : ∀ uv : Value,cut [Value.slice none 0 0,.int .i64 0,.int .i64 x.cap,.int .i64 0,.int .i64 n,uv] 4 2 = some [.int .i64 n,uv]:=fun uv => by simp [cut]
  have c34:=AH.cells_of b34
  -- what is told at the end
  have fin : ∀ (H5 : AH) (sl2 : Value) (B : List Bool),Keep [] H H5 → x.start.used = B → B.length = n → Bs.SetB (fun b => q + 3 ≤ b ∧ b < H5.next) H5 (.agg #[.int .i64 n,sl2]) B → ∀ X Y,Keep [] H ((H5.set (q + 2) X).set (q + 1) Y) ∧ Keep [] H (H5.set (q + 1) Y) ∧
    StV (fun b => q ≤ b ∧ b < H5.next) ((H5.set (q + 2) X).set (q + 1) Y) (.agg #[.slice none 0 0,.int .i64 0,.int .i64 x.cap,.int .i64 0,.int .i64 n,sl2]) x.start ∧ StV (fun b => q ≤ b ∧ b < H5.next) (H5.set (q + 1) Y) (.agg #[.slice none 0 0,.int .i64 0,.int .i64 x.cap,.int .i64 0,.int .i64 n,sl2]) x.start:=fun H5 sl2 B k5 hB hBl hs5 X Y => by
   have hlen : x.start.used.length = n:=by rw [hB,hBl]
   have mk : ∀ H',Sub (fun b => q + 3 ≤ b ∧ b < H5.next) H5 H' → StV (fun b => q ≤ b ∧ b < H5.next) H' (.agg #[.slice none 0 0,.int .i64 0,.int .i64 x.cap,.int .i64 0,.int .i64 n,sl2]) x.start:=fun H' hsub => by
    refine ⟨.slice none 0 0,sl2,by rw [hlen]; rfl,.nil,?_⟩
    rw [hlen,hB]
    exact SetB_sub hs5 (fun b hb => ⟨by omega,hb.2⟩) hsub
   exact ⟨.new_set (by omega) (.new_set (by omega) k5),.new_set (by omega) k5,mk _ (.trans (.set (by omega)) (.set (by omega))),mk _ (.set (by omega))⟩
  by_cases hk : x.kind = 2
  ·have hkT:=eq_true hk
   simp (disch:=omega) [-getElem?_pos,if_pos,if_neg,decide_eq_true,decide_eq_false,c4,hkT,c34,cut4]
   refine (Bs.With_spec hset4 0).mono' fun u H5 w5 ⟨hu,k5⟩ => ?_
   rw [setT_eq] at hu
   obtain ⟨sl2,rfl,v2,l2⟩:=id hu
   have hlen : (setT (List.replicate n false) 0).length = n:=by rw [setT_len]; simp
   rw [hlen] at hu
   have hone2:=(SetB_cell hu)
   have n5:=k5.next
   have b35:=(k5.blk (q + 2) (by omega) (by simp)).trans b34
   have b25:=(k5.blk (q + 1) (by omega) (by simp)).trans b24
   have hlenI : ((setT (List.replicate n false) 0).length : Int) = (n : Int):=by rw [hlen]
   have e : x.start.used = setT (List.replicate n false) 0:=by unfold InstD.start; simp only; rw [if_pos hk,← hn]
   have hf:=fin H5 sl2 (setT (List.replicate n false) 0) (k4.trans' k5) e hlen ((SetB_lt hu w5).mono fun b hb => by rcases hb with ⟨h | h,h2⟩ <;> exact ⟨by omega,h2⟩)
   clear fin
   simp (disch:=omega) [-getElem?_pos,if_pos,if_neg,decide_eq_true,decide_eq_false,hlenI,hone2.1,b35,b25,writeA,over,cut6]
   exact ⟨(hf _ _).2.2.1,(hf _ _).1⟩
  ·have hkF:=eq_false hk
   have e : x.start.used = List.replicate n false:=by unfold InstD.start; simp only; rw [if_neg hk,← hn]
   have hf:=fin H4 sl (List.replicate n false) k4 e (by simp) hset4
   clear fin
   simp (disch:=omega) [-getElem?_pos,if_pos,if_neg,decide_eq_true,decide_eq_false,c4,hkF,c34,cut6,b24,writeA,over]
   exact ⟨(hf (.row [] 0 true) _).2.2.2,(hf (.row [] 0 true) _).2.1⟩
 ·simp (disch:=omega) [-getElem?_pos,if_pos,if_neg,decide_eq_true,decide_eq_false,hc,writeA,b2,over]
  exact ⟨_,rfl,stv_zero,.new_set (by omega) k1⟩
end Go.Proofs.YtlcddhgfkkjhkaaDoor

set_option maxRecDepth 100000
namespace Go.Proofs.YtlcddhgfkkjhkaaDoor
open Go Go.Abs
theorem st_get (s : StD) (pv uv : Value) : (stC s pv uv)[0]? = some pv ∧ (stC s pv uv)[1]? = some (.int .i64 s.cost) ∧ (stC s pv uv)[2]? = some (.int .i64 s.left) ∧ (stC s pv uv)[3]? = some (.int .i64 s.pos):=⟨rfl,rfl,rfl,rfl⟩
theorem inst_get (x : InstD) (iv cv sv : Value) : (instC x iv cv sv)[0]? = some (.int .i64 x.kind) ∧ (instC x iv cv sv)[1]? = some (.int .i64 x.cap) ∧ (instC x iv cv sv)[2]? = some iv ∧ (instC x iv cv sv)[3]? = some cv ∧ (instC x iv cv sv)[4]? = some (.int .i64 x.size) ∧ (instC x iv cv sv)[5]? = some sv:=⟨rfl,rfl,rfl,rfl,rfl,rfl⟩
theorem Done_spec {H : AH} {v w : Value} {s : StD} {x : InstD} (hs : StV (fun _ => True) H v s) (hx : InstV (fun _ => True) H w x) : AFn Tryd.prog F_state_State_Done [v,w] H fun u H' => u = .bool (x.done s) ∧ H' = H:=by
 refine AFn.calm (fun H0 hsm => ?_) rfl
 have hs0:=hs.same hsm
 have hx0:=hx.same hsm
 obtain ⟨pv,uv,rfl,s1,s2⟩:=id hs0
 obtain ⟨iv,cv,sv,rfl,i1,i2,i3,h1,h2,h3⟩:=id hx0
 obtain ⟨pa,pc,rfl⟩:=s1.slice
 obtain ⟨ia,ic,rfl⟩:=h1.slice
 obtain ⟨ca,cc,rfl⟩:=h2.slice
 have hc:=SetB_cell s2
 refine AFn.enter mixed ir_state_State_Done_eq (by simp [ir_state_State_Done]) fun hw => ?_
 simp (disch:=omega) [-getElem?_pos,if_pos,if_neg,decide_eq_true,decide_eq_false,ir_state_State_Done,hc.1,hc.2]
 generalize hH1 : AH.alloc (AH.alloc H0 _) _ = H1
 have k1 : Keep [] H0 H1:=by rw [← hH1]; exact .new_alloc .alloc
 have w1 : WF H1:=by rw [← hH1]; exact hw.alloc.alloc
 have c1 : H1.cells H0.next = some (stC s (.slice pa s.path.length pc) uv):=by rw [← hH1]; simp [stC]
 have c2 : H1.cells (H0.next + 1) = some (instC x (.slice ia x.items.length ic) (.slice ca x.cost.length cc) sv):=by rw [← hH1]; simp [instC]
 clear hH1
 have t0:=(st_get s (.slice pa s.path.length pc) uv).1
 obtain ⟨_,_,g2,g3,_,_⟩:=inst_get x (.slice ia x.items.length ic) (.slice ca x.cost.length cc) sv
 have s21:=SetB_sub s2 (q:=fun _ => True) (fun _ _ => trivial) (.kept hw k1)
 unfold InstD.done
 by_cases k0 : x.kind = 0
 ·have k0T:=eq_true k0
  simp (disch:=omega) [-getElem?_pos,if_pos,if_neg,decide_eq_true,decide_eq_false,k0T,c1,c2,t0,g2]
  omega
 ·have k0F:=eq_false k0
  by_cases k1 : x.kind = 1
  ·have k1T:=eq_true k1
   simp (disch:=omega) [-getElem?_pos,if_pos,if_neg,decide_eq_true,decide_eq_false,k0F,k1T,c1,c2,t0,g3]
   omega
  ·have k1F:=eq_false k1
   have hCnt:=Bs.Count_spec s21
   have hSz:=Bs.Size_spec s21
   generalize s.used.count true = c at *
   simp (disch:=omega) [-getElem?_pos,if_pos,if_neg,decide_eq_true,decide_eq_false,k0F,k1F,c1,st_cut4]
   refine AFnD.of hCnt ?_
   simp (disch:=omega) [-getElem?_pos,if_pos,if_neg,decide_eq_true,decide_eq_false,]
   refine AFnD.of hSz ?_
   simp (disch:=omega) [-getElem?_pos,if_pos,if_neg,decide_eq_true,decide_eq_false,]
   omega
theorem freeL_idxs (B : List Bool) : (Bs.idxs (Bs.eachB (fun a b => a && !b) (List.replicate B.length true) B)).map (fun k => ((k : Nat) : Int)) = freeL B:=by
 unfold Bs.idxs Bs.idxTo freeL
 rw [Bs.eachB_length,List.length_replicate]
 congr 1
 apply List.filter_congr
 intro k hk
 have hkl:=List.mem_range.1 hk
 rw [Bs.eachB_get,List.length_replicate,if_pos hkl]
 have : (List.replicate B.length true).getD k false = true:=by rw [List.getD_eq_getElem?_getD,List.getElem?_replicate,if_pos hkl]; rfl
 rw [this]; rfl
def iL (L : List Int) : List Value:=L.map (.int .i64)
theorem own_ints {H : AH} {u : Value} {L : List Int} {n : Nat} {S : List Nat} (h : Own H T_int 1 u n (L.map (.int .i64)) S) (hn : n = L.length) (hI : ∀ y ∈ L,I64 y) : OwnL (fun _ => False) H T_int u L S:=by
 subst hn
 refine ⟨L.map (.int .i64),h,fun i hi => ⟨?_,hI _ (List.getElem_mem _)⟩,by simp⟩
 apply List.ext_getElem?
 intro j
 simp only [sz_int,chunk,Nat.mul_one]
 by_cases hj : j = 0
 ·subst hj
  rw [List.getElem?_take_of_lt (by omega),List.getElem?_drop,Nat.add_zero,List.getElem?_map,List.getElem?_eq_getElem hi]; rfl
 ·rw [List.getElem?_eq_none (by simp; omega),List.getElem?_eq_none (by simp; omega)]
theorem free_spec {H : AH} {v : Value} {s : StD} (hg : GroundA G H) (hs : StV (fun _ => True) H v s) : AFn Tryd.prog F_state_State_free [v] H fun u H' => NewL H u (freeL s.used) H':=by
 obtain ⟨pv,uv,rfl,s1,s2⟩:=id hs
 obtain ⟨pa,pc,rfl⟩:=s1.slice
 have hc:=SetB_cell s2
 obtain ⟨_,_,_,hl4⟩:=id s2
 refine AFn.enter mixed ir_state_State_free_eq (by simp [ir_state_State_free]) fun hw => ?_
 have k1 : Keep [] H (H.alloc (.row (stC s (.slice pa s.path.length pc) uv) T_state_State true)):=.alloc
 have w1:=WF.alloc hw (B:=.row (stC s (.slice pa s.path.length pc) uv) T_state_State true)
 have n1 : (H.alloc (.row (stC s (.slice pa s.path.length pc) uv) T_state_State true)).next = H.next + 1:=by simp
 have c1 : (H.alloc (.row (stC s (.slice pa s.path.length pc) uv) T_state_State true)).cells H.next = some (stC s (.slice pa s.path.length pc) uv):=AH.cells_alloc_new
 have s21:=SetB_sub s2 (q:=fun _ => True) (fun _ _ => trivial) (.kept hw k1)
 have hcs : cellsOf (Value.agg #[.slice pa s.path.length pc,.int .i64 s.cost,.int .i64 s.left,.int .i64 s.pos,.int .i64 s.used.length,uv]) = some (stC s (.slice pa s.path.length pc) uv):=by simp [hc.1,stC]
 simp (disch:=omega) [-getElem?_pos,if_pos,if_neg,decide_eq_true,decide_eq_false,ir_state_State_free,hcs,st_cut4]
 generalize H.alloc (.row (stC s (.slice pa s.path.length pc) uv) T_state_State true) = H1 at *
 refine AFn.pure (Bs.Size_spec s21) ?_
 simp (disch:=omega) [-getElem?_pos,if_pos,if_neg,decide_eq_true,decide_eq_false,]
 refine (Bs.Full_spec (s.used.length : Int) ⟨by omega,by omega⟩).mono' fun u H2 w2 ⟨fv,hu,hF,k2⟩ => ?_
 subst hu
 have hso : Bs.sizeOk s.used.length = true:=by unfold Bs.sizeOk; simp; omega
 have hno : Bs.nOk s.used.length = s.used.length:=by unfold Bs.nOk; rw [hso]; simp
 rw [hno] at hF
 obtain ⟨fl,rfl,_,_⟩:=id hF
 have hlr : (List.replicate s.used.length true).length = s.used.length:=by simp
 rw [hlr] at hF ⊢
 have hfc:=SetB_cell hF
 have n2:=k2.next
 have c2:=cells_kept w1 k2 c1
 have cut2 : cut [Value.int .i64 s.used.length,fl] 0 2 = some [.int .i64 s.used.length,fl]:=by simp [cut]
 simp (disch:=omega) [-getElem?_pos,if_pos,if_neg,decide_eq_true,decide_eq_false,hfc.1,hfc.2,writeA,over,c2,st_cut4,cut2]
 generalize hH3 : AH.alloc H2 _ = H3
 have k3 : Keep [] H2 H3:=by rw [← hH3]; exact .alloc
 have w3 : WF H3:=by rw [← hH3]; exact w2.alloc
 clear hH3
 have hF3:=SetB_sub hF (q:=fun _ => True) (fun _ _ => trivial) (.kept w2 k3)
 have s23:=SetB_sub s21 (q:=fun _ => True) (fun _ _ => trivial) (.kept w1 (k2.trans' k3))
 refine (Bs.Less_spec hF3 s23).mono' fun u H4 w4 ⟨hL,k4⟩ => ?_
 obtain ⟨ll,rfl,_,_⟩:=id hL
 have k14:=((k1.trans' k2).trans' k3).trans' k4
 simp (disch:=omega) [-getElem?_pos,if_pos,if_neg,decide_eq_true,decide_eq_false,]
 refine (Bs.List_spec (hg.kept hw k14) hL).mono' fun u H5 w5 ⟨S,ho,k5,hS⟩ => ?_
 have n14:=k14.next
 obtain ⟨ua,uc,rfl⟩:=ho.slice
 simp (disch:=omega) [-getElem?_pos,if_pos,if_neg,decide_eq_true,decide_eq_false,]
 have hfl:=freeL_idxs s.used
 have hmp : (freeL s.used).map (Value.int .i64) = (Bs.idxs (Bs.eachB (fun a b => a && !b) (List.replicate s.used.length true) s.used)).map fun k => Value.int .i64 ((k : Nat) : Int):=by
  rw [← hfl,List.map_map]; rfl
 rw [← hmp] at ho
 refine ⟨S,own_ints ho (by rw [← hfl]; simp) fun y hy => ?_,k14.trans' k5,fun b hb => by have:=hS b hb; omega⟩
 have:=freeL_mem.1 hy
 unfold I64; omega
theorem new_ints {H : AH} {cs : List Value} {L : List Int} (hcs : cs = iL L) (hw : WF H) (hI : ∀ y ∈ L,I64 y) {H1 : AH} (hk : Keep [] H1 H) : NewL H1 (.slice (some ⟨H.next,0,none⟩) L.length L.length) L (H.alloc (.row cs T_int true)):=by
 have hn:=hk.next
 refine ⟨[H.next],own_ints ?_ rfl hI,.new_alloc hk,fun b hb => by simp at hb; omega⟩
 refine .inr ⟨H.next,0,none,L.length,cs,rfl,rfl,AH.alloc_blk_new,?_,Nat.le_refl _,?_,.inl rfl⟩
 ·rw [hcs]; simp [iL]
 ·rw [hcs,List.drop_zero,Nat.mul_one,List.take_of_length_le (by simp [iL])]; rfl
theorem Moves_spec {H : AH} {v w : Value} {s : StD} {x : InstD} (hg : GroundA G H) (hs : StV (fun _ => True) H v s) (hx : InstV (fun _ => True) H w x) (hok : x.Ok) (hso : StOk x s) : AFn Tryd.prog F_state_State_Moves [v,w] H fun u H' => NewL H u (x.moves s) H':=by
 obtain ⟨pv,uv,rfl,s1,s2⟩:=id hs
 obtain ⟨iv,cv,sv,rfl,i1,i2,i3,h1,h2,h3⟩:=id hx
 obtain ⟨pa,pc,rfl⟩:=s1.slice
 obtain ⟨ia,ic,rfl⟩:=h1.slice
 obtain ⟨sa,sc,rfl⟩:=h3.slice
 have hpm:=s1.max
 have him:=h1.max
 have hsm:=h3.max
 have hc:=SetB_cell s2
 have hk0:=hok.kind0
 have hk4:=hok.kind4
 refine AFn.enter mixed ir_state_State_Moves_eq (by simp [ir_state_State_Moves]) fun hw => ?_
 have hcs : cellsOf (Value.agg #[.slice pa s.path.length pc,.int .i64 s.cost,.int .i64 s.left,.int .i64 s.pos,.int .i64 s.used.length,uv]) = some (stC s (.slice pa s.path.length pc) uv):=by simp [hc.1,stC]
 have t0:=(st_get s (.slice pa s.path.length pc) uv).1
 have t2:=(st_get s (.slice pa s.path.length pc) uv).2.2.1
 obtain ⟨g0,_,g2,_,_,g5⟩:=inst_get x (.slice ia x.items.length ic) cv (.slice sa x.sets.length sc)
 have hci : cellsOf (Value.agg #[.int .i64 x.kind,.int .i64 x.cap,.slice ia x.items.length ic,cv,.int .i64 x.size,.slice sa x.sets.length sc]) = some (instC x (.slice ia x.items.length ic) cv (.slice sa x.sets.length sc)):=by
  have hcv : one cv = true:=(h2.cell).1
  simp [hcv,instC]
 have hSa : Value.agg (stC s (.slice pa s.path.length pc) uv).toArray = .agg #[.slice pa s.path.length pc,.int .i64 s.cost,.int .i64 s.left,.int .i64 s.pos,.int .i64 s.used.length,uv]:=rfl
 have hIa : Value.agg (instC x (.slice ia x.items.length ic) cv (.slice sa x.sets.length sc)).toArray = .agg #[.int .i64 x.kind,.int .i64 x.cap,.slice ia x.items.length ic,cv,.int .i64 x.size,.slice sa x.sets.length sc]:=rfl
 have hI6:=inst_cut x (.slice ia x.items.length ic) cv (.slice sa x.sets.length sc)
 have hS6:=st_cut s (.slice pa s.path.length pc) uv
 have hdone:=fun (H1 : AH) (k1 : Keep [] H H1) => Done_spec (hs.kept hw k1) (hx.kept hw k1)
 have hfree:=fun (H1 : AH) (k1 : Keep [] H H1) => free_spec (hg.kept hw k1) (hs.kept hw k1)
 have hitem : x.kind = 0 → s.path.length < x.items.length → ∃ b off sp cap cs,Value.slice ia x.items.length ic = .slice (some ⟨b,off,sp⟩) x.items.length cap ∧ H.cells b = some cs ∧ cs[off + s.path.length * 2 + 1]? = some (.int .i64 (x.wtN s.path.length)):=fun k0 hlt => by
  obtain ⟨b1,off1,sp1,cap1,cs1,hcv1,r1,r2⟩:=pairs_rd h1 (by omega)
  obtain ⟨r3,r4,r5,r6,r7⟩:=r2 s.path.length hlt
  refine ⟨b1,off1,sp1,cap1,cs1,hcv1,r1,?_⟩
  rw [r5]; unfold InstD.wtN; rw [List.getD_eq_getElem?_getD,List.getElem?_eq_getElem hlt]; rfl
 generalize hSC : stC s (.slice pa s.path.length pc) uv = SC at *
 generalize hIC : instC x (.slice ia x.items.length ic) cv (.slice sa x.sets.length sc) = IC at *
 simp (disch:=omega) [-getElem?_pos,if_pos,if_neg,decide_eq_true,decide_eq_false,ir_state_State_Moves,hcs,hci]
 generalize hH1 : AH.alloc (AH.alloc H _) _ = H1
 have k1 : Keep [] H H1:=by rw [← hH1]; exact .new_alloc .alloc
 have w1 : WF H1:=by rw [← hH1]; exact hw.alloc.alloc
 have c1 : H1.cells H.next = some SC:=by rw [← hH1]; simp
 have c2 : H1.cells (H.next + 1) = some IC:=by rw [← hH1]; simp
 clear hH1
 simp (disch:=omega) [-getElem?_pos,if_pos,if_neg,decide_eq_true,decide_eq_false,c1,c2,t0,hI6,hS6,hSa,hIa]
 have hd:=hdone H1 k1
 have n1:=k1.next
 have nil' : ∀ H',H' = H1 → NewL H (.slice none 0 0) [] H':=fun H' h => by subst h; exact ⟨[],.nil,k1,by simp⟩
 have i01 : ∀ y ∈ [(1 : Int),0],I64 y:=by intro y hy; simp at hy; unfold I64; omega
 have i0 : ∀ y ∈ [(0 : Int)],I64 y:=by intro y hy; simp at hy; unfold I64; omega
 have two : NewL H (.slice (some ⟨H1.next,0,none⟩) 2 2) [1,0] (H1.alloc (.row [.int .i64 1,.int .i64 0] T_int true)):=new_ints rfl w1 i01 k1
 have one' : NewL H (.slice (some ⟨H1.next,0,none⟩) 1 1) [0] (H1.alloc (.row [.int .i64 0] T_int true)):=new_ints rfl w1 i0 k1
 unfold InstD.moves
 refine AFn.pure hd ?_
 cases hdn : x.done s with
 | true =>
  simp (disch:=omega) [-getElem?_pos,if_pos,if_neg,decide_eq_true,decide_eq_false,]
  exact nil' _ rfl
 | false =>
  by_cases k0 : x.kind = 0
  ·have hlt : s.path.length < x.items.length:=by
    have:=(hso.items k0).1
    unfold InstD.done at hdn
    rw [if_pos k0] at hdn
    have : ¬ s.path.length = x.items.length:=by simpa using hdn
    omega
   obtain ⟨b1,off1,sp1,cap1,cs1,hcv1,r1,r5⟩:=hitem k0 hlt
   cases hcv1
   have r1':=cells_kept hw k1 r1
   have k0T:=eq_true k0
   generalize x.wtN s.path.length = wt at *
   by_cases hgt : s.left < wt
   ·simp (disch:=omega) [-getElem?_pos,if_pos,if_neg,decide_eq_true,decide_eq_false,c1,c2,g0,g2,t2,k0T,r1',r5,hlt,hgt]
    exact one'
   ·simp (disch:=omega) [-getElem?_pos,if_pos,if_neg,decide_eq_true,decide_eq_false,c1,c2,g0,g2,t2,k0T,r1',r5,hlt,hgt]
    exact two
  ·have k0F:=eq_false k0
   by_cases k3 : x.kind = 3
   ·have k3T:=eq_true k3
    by_cases hge : x.sets.length ≤ s.path.length
    ·simp (disch:=omega) [-getElem?_pos,if_pos,if_neg,decide_eq_true,decide_eq_false,c1,c2,g0,g5,k0F,k3T,hge]
     exact nil' _ rfl
    ·simp (disch:=omega) [-getElem?_pos,if_pos,if_neg,decide_eq_true,decide_eq_false,c1,c2,g0,g5,k0F,k3T,hge]
     exact two
   ·have k3F:=eq_false k3
    simp (disch:=omega) [-getElem?_pos,if_pos,if_neg,decide_eq_true,decide_eq_false,c1,c2,g0,g5,k0F,k3F,hS6,hSa]
    refine (hfree H1 k1).mono' fun u H2 w2 ⟨S,hA,k2,hS⟩ => ?_
    have hcA:=hA.cell
    simp (disch:=omega) [-getElem?_pos,if_pos,if_neg,decide_eq_true,decide_eq_false,hcA]
    exact ⟨S,hA,k1.trans' k2,fun b hb => by have:=hS b hb; omega⟩
end Go.Proofs.YtlcddhgfkkjhkaaDoor

set_option maxRecDepth 100000
namespace Go.Proofs.YtlcddhgfkkjhkaaDoor
open Go Go.Abs
theorem cut6' {a b c d e f : Value} : cut [a,b,c,d,e,f] 0 6 = some [a,b,c,d,e,f]:=by simp [cut]
theorem cut42 {a b c d e f : Value} : cut [a,b,c,d,e,f] 4 2 = some [e,f]:=by simp [cut]
theorem StV.mk' {p : Nat → Prop} {H : AH} {s : StD} {pv uv : Value} {n : Nat} (hn : s.used.length = n) (h1 : SlV p H pv s.path) (h2 : Bs.SetB p H (.agg #[.int .i64 n,uv]) s.used) : StV p H (.agg #[pv,.int .i64 s.cost,.int .i64 s.left,.int .i64 s.pos,.int .i64 n,uv]) s:=by
 subst hn
 exact ⟨pv,uv,rfl,h1,h2⟩
theorem wr_mid {n : Int} (h : -4611686018427387904 ≤ n ∧ n ≤ 4611686018427387904) : IntKind.i64.wrap n = n:=IntWalk.i64_in _ ⟨by omega,by omega⟩
theorem row_cell {H : AH} {cv : Value} {x : InstD} {p : Nat → Prop} (hc : SlV p H cv x.cost) (hok : x.Ok) {i : Nat} (hi : i < x.cost.length) : ∃ b off sp cap cs w b2 off2 sp2 cap2 cs2,cv = .slice (some ⟨b,off,sp⟩) x.cost.length cap ∧ H.cells b = some cs ∧ cs[off + i]? = some w ∧ w = .slice (some ⟨b2,off2,sp2⟩) x.cost.length cap2 ∧ H.cells b2 = some cs2 ∧ ∀ k,k < x.cost.length → cs2[off2 + k]? = some (.int .i64 (x.costN i k)):=by
 obtain ⟨b1,off1,sp1,cap1,cs1,hcv1,r1,r2⟩:=rows_rd hc (by omega)
 obtain ⟨w,r3,r4⟩:=r2 i hi
 have hrow:=hok.shaped.rows i hi
 obtain ⟨b2,off2,sp2,cap2,cs2,hcv2,t1,t2⟩:=ints_rd r4 (by omega)
 rw [hrow] at hcv2
 refine ⟨b1,off1,sp1,cap1,cs1,w,b2,off2,sp2,cap2,cs2,hcv1,r1,r3,hcv2,t1,fun k hk => ?_⟩
 rw [(t2 k (by omega)).1]
 unfold InstD.costN
 simp [hi,hrow,hk]
theorem went_spec {H : AH} {p : Nat → Prop} {v w : Value} {s : StD} {x : InstD} {d : Int} (hp : ∀ b,p b → b < H.next) (hs : StV p H v s) (hx : InstV (fun b => b < H.next) H w x) (hok : x.Ok) (hk : x.kind = 2) (hu : s.used.length = x.cost.length) (hpos : 0 ≤ s.pos ∧ s.pos < x.cost.length) (hd : 0 ≤ d ∧ d < x.cost.length) (hcost : -1000000000000000 ≤ s.cost ∧ s.cost ≤ 1000000000000000) :
  AFn Tryd.prog F_state_State_went [v,w,.int .i64 d] H fun u H' => StV (fun b => (p b ∨ H.next ≤ b) ∧ b < H'.next) H' u (x.wentS s d) ∧ Keep [] H H':=by
 obtain ⟨pv,uv,rfl,s1,s2⟩:=id hs
 obtain ⟨iv,cv,sv,rfl,i1,i2,i3,h1,h2,h3⟩:=id hx
 obtain ⟨N,hN⟩ : ∃ N : Nat,s.pos = N:=⟨s.pos.toNat,by omega⟩
 obtain ⟨D,hD⟩ : ∃ D : Nat,d = D:=⟨d.toNat,by omega⟩
 have hNl : N < x.cost.length:=by omega
 have hDl : D < x.cost.length:=by omega
 have hm1:=costN_mag hok hNl hDl
 have hm2:=costN_mag hok hDl (k:=0) (by omega)
 have hc:=SetB_cell s2
 have hcp:=s1.cell
 have hcc:=h2.cell
 have hci:=h1.cell
 have hcs:=h3.cell
 obtain ⟨b1,off1,sp1,cap1,cs1,w1,b2,off2,sp2,cap2,cs2,rfl,r1,r2,rfl,r3,r4⟩:=row_cell h2 hok hNl
 obtain ⟨b1',off1',sp1',cap1',cs1',w1',b3,off3,sp3,cap3,cs3,e1,t1,t2,rfl,t3,t4⟩:=row_cell h2 hok hDl
 cases e1
 rw [r1] at t1
 obtain rfl:=Option.some.inj t1
 have r4D:=r4 D hDl
 have t40:=t4 0 (by omega)
 rw [Nat.add_zero] at t40
 refine AFn.enter mixed ir_state_State_went_eq (by simp [ir_state_State_went]) fun hw => ?_
 have hb1:=cells_lt hw r1
 have hb2:=cells_lt hw r3
 have hb3:=cells_lt hw t3
 have hwr1:=wr_mid (n:=s.cost + x.costN N D) (by omega)
 have hwr2:=wr_mid (n:=s.cost + x.costN N D + x.costN D 0) (by omega)
 have hposl : 0 < x.cost.length:=by omega
 have hmcost:=h2.max
 subst hD
 have hsd : x.wentS s (D : Int) = if x.done ⟨s.path,s.cost + x.costN N D,s.left,(D : Int),setT s.used D⟩ then ⟨s.path,s.cost + x.costN N D + x.costN D 0,s.left,(D : Int),setT s.used D⟩ else ⟨s.path,s.cost + x.costN N D,s.left,(D : Int),setT s.used D⟩:=by
  unfold InstD.wentS
  simp only [hN,Int.toNat_natCast]
 rw [hsd]
 clear hsd
 rw [hN] at hs ⊢
 generalize x.costN N D = c1 at *
 generalize x.costN D 0 = c2 at *
 simp (disch:=omega) [-getElem?_pos,if_pos,if_neg,decide_eq_true,decide_eq_false,ir_state_State_went,hc.1,hcp.1,hci.1,hcs.1,r1,r2,r3,r4D,hNl,hDl,hwr1,writeA,over,cut42]
 generalize hq : H.next = q at *
 generalize hH1 : AH.set _ _ _ = H1
 have k1 : Keep [] H H1:=by rw [← hH1]; exact .new_set (by omega) (.new_alloc (.new_alloc .alloc))
 have w1 : WF H1:=by rw [← hH1]; refine WF.set (WF.alloc (WF.alloc (WF.alloc hw))) ?_; simp; omega
 have n1 : H1.next = q + 3:=by rw [← hH1]; simp [hq]
 have e0 : H1.blk q = some (.row [pv,.int .i64 (s.cost + c1),.int .i64 s.left,.int .i64 N,.int .i64 s.used.length,uv] T_state_State true):=by rw [← hH1,AH.set_blk_same]
 have e1 : H1.cells (q + 1) = some [.int .i64 x.kind,.int .i64 x.cap,iv,.slice (some ⟨b1,off1,sp1⟩) x.cost.length cap1,.int .i64 x.size,sv]:=by rw [← hH1]; simp [hq]
 have e2 : H1.blk (q + 2) = some (.row [.slice none 0 0,.int .i64 0,.int .i64 0,.int .i64 0,.int .i64 0,.slice none 0 0] T_state_State true):=by rw [← hH1]; simp [hq]
 clear hH1
 have s21:=SetB_sub s2 (q:=p) (fun b hb => hb) (.kept hw k1)
 refine (Bs.With_spec s21 (D : Int)).mono' fun u H2 w2 ⟨hu2,k2⟩ => ?_
 rw [setT_eq] at hu2
 obtain ⟨ul,rfl,_,_⟩:=id hu2
 have hul : (setT s.used (D : Int)).length = s.used.length:=setT_len
 rw [hul] at hu2
 have hulI : ((setT s.used (D : Int)).length : Int) = (s.used.length : Int):=by rw [hul]
 have hone2:=SetB_cell hu2
 have n2:=k2.next
 have e02:=(k2.blk q (by omega) (by simp)).trans e0
 have e12:=cells_kept w1 k2 e1
 have e22:=(k2.blk (q + 2) (by omega) (by simp)).trans e2
 have c02:=AH.cells_of e02
 have k02:=k1.trans' k2
 have r12:=cells_kept hw k02 r1
 have t32:=cells_kept hw k02 t3
 simp (disch:=omega) [-getElem?_pos,if_pos,if_neg,decide_eq_true,decide_eq_false,hulI,hone2.1,hone2.2,e02,e12,e22,cut6',writeA,over]
 obtain ⟨sn,hsn⟩ : ∃ sn : StD,sn = ⟨s.path,s.cost + c1,s.left,(D : Int),setT s.used D⟩:=⟨_,rfl⟩
 rw [← hsn]
 generalize hH3 : AH.set H2 _ _ = H3
 have k3 : Keep [] H H3:=by rw [← hH3]; exact .new_set (by omega) k02
 have w3 : WF H3:=by rw [← hH3]; exact w2.set (by omega)
 have n3 : H3.next = H2.next:=by rw [← hH3]; rfl
 have e03 : H3.blk q = some (.row [pv,.int .i64 (s.cost + c1),.int .i64 s.left,.int .i64 D,.int .i64 s.used.length,ul] T_state_State true):=by rw [← hH3,AH.set_blk_same]
 have e13 : H3.cells (q + 1) = some [.int .i64 x.kind,.int .i64 x.cap,iv,.slice (some ⟨b1,off1,sp1⟩) x.cost.length cap1,.int .i64 x.size,sv]:=by rw [← hH3,AH.cells_set_ne (by omega)]; exact e12
 have e23 : H3.blk (q + 2) = H2.blk (q + 2):=by rw [← hH3,AH.set_blk_ne (by omega)]
 replace e23:=e23.trans e22
 have r13 : H3.cells b1 = some cs1:=by rw [← hH3,AH.cells_set_ne (by omega)]; exact r12
 have t33 : H3.cells b3 = some cs3:=by rw [← hH3,AH.cells_set_ne (by omega)]; exact t32
 have c03:=AH.cells_of e03
 -- the parts of the state
 have P1 : SlV p H3 pv s.path:=s1.kept hw k3
 have P2 : Bs.SetB (fun b => (p b ∨ q ≤ b) ∧ b < H3.next ∧ b ≠ q ∧ b ≠ q + 2) H3 (.agg #[.int .i64 s.used.length,ul]) (setT s.used (D : Int)):=by
  refine SetB_sub (SetB_lt hu2 w2) (fun b hb => ?_) (by rw [← hH3]; refine .set ?_; rintro ⟨h | h,_⟩; (have:=hp _ h; omega); omega)
  obtain ⟨h | h,h2⟩:=hb
  ·have:=hp b h; exact ⟨.inl h,by omega,by omega,by omega⟩
  ·exact ⟨.inr (by omega),by omega,by omega,by omega⟩
 clear hH3
 have mk : ∀ (c : Int) (H4 : AH),Sub (fun b => (p b ∨ q ≤ b) ∧ b < H3.next ∧ b ≠ q ∧ b ≠ q + 2) H3 H4 → H4.next = H3.next → StV (fun b => (p b ∨ q ≤ b) ∧ b < H4.next) H4 (.agg #[pv,.int .i64 c,.int .i64 s.left,.int .i64 D,.int .i64 s.used.length,ul]) ⟨s.path,c,s.left,(D : Int),setT s.used D⟩:=fun c H4 hsub hn =>
  StV.mk' (s:=⟨s.path,c,s.left,(D : Int),setT s.used D⟩) hul (P1.up (fun b hb => by have:=hp b hb; exact ⟨.inl hb,by omega⟩) (hsub.less fun b hb => by have:=hp b hb; exact ⟨.inl hb,by omega,by omega,by omega⟩)) (SetB_sub P2 (fun b hb => ⟨hb.1,by omega⟩) hsub)
 have hst : StV (fun _ => True) H3 (.agg #[pv,.int .i64 (s.cost + c1),.int .i64 s.left,.int .i64 D,.int .i64 s.used.length,ul]) sn:=by rw [hsn]; exact (mk (s.cost + c1) H3 .refl rfl).any
 have hx3 : InstV (fun _ => True) H3 (.agg #[.int .i64 x.kind,.int .i64 x.cap,iv,.slice (some ⟨b1,off1,sp1⟩) x.cost.length cap1,.int .i64 x.size,sv]) x:=(hx.kept hw k3).any
 refine AFn.pure (Done_spec hst hx3) ?_
 cases hdn : x.done sn with
 | true =>
  simp (disch:=omega) [-getElem?_pos,if_pos,if_neg,decide_eq_true,decide_eq_false,e03,c03,e13,e23,r13,t2,t33,t40,hDl,hposl,hwr2,cut6',hone2.1,hone2.2,hcp.1,hcp.2,writeA,over]
  exact ⟨mk _ _ (.trans (.set (by simp)) (.set (by simp))) rfl,.new_set (by omega) (.new_set (by omega) k3)⟩
 | false =>
  simp (disch:=omega) [-getElem?_pos,if_pos,if_neg,decide_eq_true,decide_eq_false,e03,c03,e13,e23,cut6',hone2.1,hone2.2,hcp.1,hcp.2,writeA,over]
  rw [hsn]
  exact ⟨mk _ _ (.set (by simp)) rfl,.new_set (by omega) k3⟩
end Go.Proofs.YtlcddhgfkkjhkaaDoor

set_option maxRecDepth 100000
namespace Go.Proofs.YtlcddhgfkkjhkaaDoor
open Go Go.Abs
def ChI (p : Nat → Prop) (H0 H1 : AH) (q : Nat) (pv ev : Value) (c l a : Int) (n : Nat) (U : List Bool) (E : List Int) (k : Nat) (env : Env) (H' : AH) : Prop :=
 env 3 = some (.pointer (some ⟨q,0,none⟩)) ∧ env 6 = some (.pointer (some ⟨q + 2,0,none⟩)) ∧ env 48 = some ev ∧ env 49 = some (.int .i64 E.length) ∧ env 50 = some (.int .i64 k) ∧ H1.next ≤ H'.next ∧ (∀ b,b < H1.next → b ≠ q → H'.blk b = H1.blk b) ∧ WF H' ∧
  ∃ uv,H'.blk q = some (.row [pv,.int .i64 c,.int .i64 l,.int .i64 a,.int .i64 n,uv] T_state_State true) ∧ Bs.SetB (fun b => (p b ∨ H1.next ≤ b) ∧ b < H'.next ∧ b ≠ q ∧ b ≠ q + 2) H' (.agg #[.int .i64 n,uv]) ((E.take k).foldl setT U)
def ChQ (p : Nat → Prop) (H1 : AH) (q : Nat) (pv : Value) (c l a : Int) (n : Nat) (B : List Bool) (e : AExit) (env : Env) (H' : AH) : Prop :=
 e = .exit 0 ∧ env 3 = some (.pointer (some ⟨q,0,none⟩)) ∧ env 6 = some (.pointer (some ⟨q + 2,0,none⟩)) ∧ H1.next ≤ H'.next ∧ (∀ b,b < H1.next → b ≠ q → H'.blk b = H1.blk b) ∧ WF H' ∧
  ∃ uv,H'.blk q = some (.row [pv,.int .i64 c,.int .i64 l,.int .i64 a,.int .i64 n,uv] T_state_State true) ∧ Bs.SetB (fun b => (p b ∨ H1.next ≤ b) ∧ b < H'.next ∧ b ≠ q ∧ b ≠ q + 2) H' (.agg #[.int .i64 n,uv]) B
theorem chosen_l0 {p : Nat → Prop} {H0 H1 : AH} {q : Nat} {pv ev : Value} {c l a : Int} {n : Nat} {U : List Bool} {E : List Int} {env : Env} (hw1 : WF H1) (hq : q + 2 < H1.next) (hE : SlV (fun b => b < q) H1 ev E) (hU : U.length = n) (h : ChI p H0 H1 q pv ev c l a n U E 0 env H1) :
  wpC Tryd.prog 61 (.loop ir_state_State_chosen_l0) (ChQ p H1 q pv c l a n (E.foldl setT U)) env H1:=by
 refine loop_upto E.length (ChI p H0 H1 q pv ev c l a n U E) (Q:=ChQ p H1 q pv c l a n (E.foldl setT U)) h ?_
 have hmax:=hE.max
 rintro k env H' hk ⟨e3,e6,e48,e49,e50,nx,ho,w',uv,hb,hS⟩
 have hsub : Sub (fun b => b < q) H1 H':=fun b hb cs hc => by unfold AH.cells at hc ⊢; rw [ho b (by omega) (by omega)]; exact hc
 by_cases hkn : k < E.length
 ·obtain ⟨b0,off,sp,cap,cs,hcv,q1,q2⟩:=ints_rd (hE.sub hsub) (by omega)
  obtain ⟨q3,q4⟩:=q2 k hkn
  subst hcv
  have cb:=AH.cells_of hb
  have ht : (E.take (k + 1)).foldl setT U = setT ((E.take k).foldl setT U) E[k]:=by rw [List.take_succ_eq_append_getElem hkn,List.foldl_append]; rfl
  have hln : ((E.take k).foldl setT U).length = n:=by rw [fold_len,hU]
  generalize E[k] = z at *
  generalize hB : (E.take k).foldl setT U = B at *
  simp (disch:=omega) [-getElem?_pos,if_pos,if_neg,decide_eq_true,decide_eq_false,ir_state_State_chosen_l0,e3,e6,e48,e49,e50,q1,q3,cb,cut42]
  refine (Bs.With_spec hS z).mono' fun u H2 w2 ⟨hu,k2⟩ => ?_
  rw [setT_eq] at hu
  obtain ⟨ul,rfl,_,_⟩:=id hu
  have hul : (setT B z).length = n:=by rw [setT_len,hln]
  have hulI : ((setT B z).length : Int) = (n : Int):=by rw [hul]
  rw [hul] at hu
  have hone:=SetB_cell hu
  have n2:=k2.next
  have hqn:=w' q _ hb
  have hb2:=(k2.blk q hqn (by simp)).trans hb
  simp (disch:=omega) [-getElem?_pos,if_pos,if_neg,decide_eq_true,decide_eq_false,e3,e50,hulI,hone.1,hone.2,hb2,writeA,over,IntWalk.i64_in]
  refine ⟨hkn,by simp [e3],by simp [e6],by simp [e48],by simp [e49],by simp,by simp; omega,fun b hb1 hb2 => ?_,w2.set (by omega),ul,AH.set_blk_same,?_⟩
  ·rw [AH.set_blk_ne hb2,k2.blk b (by omega) (by simp)]; exact ho b hb1 hb2
  ·rw [ht]
   refine SetB_sub (SetB_lt hu w2) (fun b hb => ?_) (.set ?_)
   ·obtain ⟨h | h,h2⟩:=hb
    ·exact ⟨h.1,by simp; omega,h.2.2⟩
    ·exact ⟨.inr (by omega),by simp; omega,by omega,by omega⟩
   ·rintro ⟨h | h,_⟩
    ·exact h.2.2.1 rfl
    ·omega
 ·obtain rfl : k = E.length:=by omega
  rw [List.take_length] at hS
  simp (disch:=omega) [-getElem?_pos,if_pos,if_neg,decide_eq_true,decide_eq_false,ir_state_State_chosen_l0,e49,e50]
  exact ⟨rfl,e3,e6,nx,ho,w',uv,hb,hS⟩
theorem chosen_spec0 {H : AH} {p : Nat → Prop} {v w : Value} {s : StD} {x : InstD} {k : Nat} (hp : ∀ b,p b → b < H.next) (hs : StV p H v s) (hx : InstV (fun b => b < H.next) H w x) (hok : x.Ok) (hk0 : x.kind = 0) (hk : k < x.items.length) (hcost : -1000000000000000 ≤ s.cost ∧ s.cost ≤ 1000000000000000) (hleft : -1000000000000000 ≤ s.left ∧ s.left ≤ 1000000000000000) :
  AFn Tryd.prog F_state_State_chosen [v,w,.int .i64 k] H fun u H' => StV (fun b => (p b ∨ H.next ≤ b) ∧ b < H'.next) H' u (x.choseS s k) ∧ Keep [] H H':=by
 obtain ⟨pv,uv,rfl,s1,s2⟩:=id hs
 obtain ⟨iv,cv,sv,rfl,i1,i2,i3,h1,h2,h3⟩:=id hx
 have hc:=SetB_cell s2
 have hcp:=s1.cell
 have hcc:=h2.cell
 have hcs:=h3.cell
 obtain ⟨b1,off1,sp1,cap1,cs1,rfl,r1,r2⟩:=pairs_rd h1 (by omega)
 obtain ⟨r3,r4,r5,r6,r7⟩:=r2 k hk
 have hv:=val_mag hok hk
 have e1 : x.items[k].1 = x.valN k:=by unfold InstD.valN; rw [List.getD_eq_getElem?_getD,List.getElem?_eq_getElem hk]; rfl
 have e2 : x.items[k].2 = x.wtN k:=by unfold InstD.wtN; rw [List.getD_eq_getElem?_getD,List.getElem?_eq_getElem hk]; rfl
 rw [e1] at r4
 rw [e2] at r5
 refine AFn.enter mixed ir_state_State_chosen_eq (by simp [ir_state_State_chosen]) fun hw => ?_
 have hb1:=cells_lt hw r1
 have hmi:=h1.max
 have hwr1:=wr_mid (n:=s.cost - x.valN k) (by omega)
 have hwr2:=wr_mid (n:=s.left - x.wtN k) (by omega)
 have hsd : x.choseS s k = ⟨s.path,s.cost - x.valN k,s.left - x.wtN k,s.pos,s.used⟩:=by unfold InstD.choseS; rw [if_pos hk0]
 rw [hsd]
 have hk0T:=eq_true hk0
 generalize x.valN k = a at *
 generalize x.wtN k = b at *
 simp (disch:=omega) [-getElem?_pos,if_pos,if_neg,decide_eq_true,decide_eq_false,ir_state_State_chosen,hc.1,hcp.1,hcc.1,hcs.1,hk0T,r1,r4,r5,hk,hwr1,hwr2,writeA,over,cut6']
 generalize hH1 : AH.set (AH.set _ _ _) _ _ = H1
 have k1 : Keep [] H H1:=by rw [← hH1]; exact .new_set (by omega) (.new_set (by omega) (.new_alloc (.new_alloc .alloc)))
 have n1 : H1.next = H.next + 3:=by rw [← hH1]; rfl
 clear hH1
 exact ⟨StV.mk' (s:=⟨s.path,s.cost - a,s.left - b,s.pos,s.used⟩) rfl (s1.up (fun b hb => by have:=hp b hb; exact ⟨.inl hb,by omega⟩) (.kept hw k1)) (SetB_sub s2 (fun b hb => by have:=hp b hb; exact ⟨.inl hb,by omega⟩) (.kept hw k1)),k1⟩
theorem chosen_spec3 {H : AH} {p : Nat → Prop} {v w : Value} {s : StD} {x : InstD} {k : Nat} (hp : ∀ b,p b → b < H.next) (hs : StV p H v s) (hx : InstV (fun b => b < H.next) H w x) (hok : x.Ok) (hk3 : x.kind = 3) (hk : k < x.sets.length) (hcost : -1000000000000000 ≤ s.cost ∧ s.cost ≤ 1000000000000000) :
  AFn Tryd.prog F_state_State_chosen [v,w,.int .i64 k] H fun u H' => StV (fun b => (p b ∨ H.next ≤ b) ∧ b < H'.next) H' u (x.choseS s k) ∧ Keep [] H H':=by
 obtain ⟨pv,uv,rfl,s1,s2⟩:=id hs
 obtain ⟨iv,cv,sv,rfl,i1,i2,i3,h1,h2,h3⟩:=id hx
 have hc:=SetB_cell s2
 have hcp:=s1.cell
 have hcc:=h2.cell
 have hci:=h1.cell
 obtain ⟨b1,off1,sp1,cap1,cs1,rfl,r1,r2⟩:=sets_rd h3 (by omega)
 obtain ⟨ew,r3,r4,r5,r6,r7⟩:=r2 k hk
 have hv:=set_mag hok hk
 have e1 : x.sets[k] = x.setN k:=by unfold InstD.setN; rw [List.getD_eq_getElem?_getD,List.getElem?_eq_getElem hk]; rfl
 rw [e1] at r4 r7
 refine AFn.enter mixed ir_state_State_chosen_eq (by simp [ir_state_State_chosen]) fun hw => ?_
 have hb1:=cells_lt hw r1
 have hms:=h3.max
 have hwr1:=wr_mid (n:=s.cost + (x.setN k).cost) (by omega)
 have hsd : x.choseS s k = ⟨s.path,s.cost + (x.setN k).cost,s.left,s.pos,(x.setN k).elems.foldl setT s.used⟩:=by unfold InstD.choseS; rw [if_neg (by omega)]
 rw [hsd]
 have hk0F : (x.kind = 0) = False:=eq_false (by omega)
 obtain ⟨ea,ec,rfl⟩:=r7.slice
 have hEm:=r7.max
 generalize (x.setN k).cost = a at *
 generalize (x.setN k).elems = E at *
 simp (disch:=omega) [-getElem?_pos,if_pos,if_neg,decide_eq_true,decide_eq_false,ir_state_State_chosen,hc.1,hcp.1,hcc.1,hci.1,hk0F,r1,r4,r5,hk,hwr1,writeA,over]
 generalize hq : H.next = q at *
 generalize hH1 : AH.set _ _ _ = H1
 have k1 : Keep [] H H1:=by rw [← hH1]; exact .new_set (by omega) (.new_alloc (.new_alloc .alloc))
 have w1 : WF H1:=by rw [← hH1]; refine WF.set (WF.alloc (WF.alloc (WF.alloc hw))) ?_; simp; omega
 have n1 : H1.next = q + 3:=by rw [← hH1]; simp [hq]
 have d0 : H1.blk q = some (.row [pv,.int .i64 (s.cost + a),.int .i64 s.left,.int .i64 s.pos,.int .i64 s.used.length,uv] T_state_State true):=by rw [← hH1,AH.set_blk_same]
 have d2 : H1.blk (q + 2) = some (.row [.slice none 0 0,.int .i64 0,.int .i64 0,.int .i64 0,.int .i64 0,.slice none 0 0] T_state_State true):=by rw [← hH1]; simp [hq]
 clear hH1
 have s21 : Bs.SetB (fun b => (p b ∨ H1.next ≤ b) ∧ b < H1.next ∧ b ≠ q ∧ b ≠ q + 2) H1 (.agg #[.int .i64 s.used.length,uv]) s.used:=SetB_sub s2 (fun b hb => by have:=hp b hb; exact ⟨.inl hb,by omega,by omega,by omega⟩) (.kept hw k1)
 refine wpC_use (chosen_l0 (p:=p) (H0:=H) (H1:=H1) (q:=q) (pv:=pv) (c:=s.cost + a) (l:=s.left) (a:=s.pos) (n:=s.used.length) (U:=s.used) (E:=E) w1 (by omega) (r7.kept hw k1) rfl ⟨by simp,by simp,by simp,by simp,by simp,Nat.le_refl _,fun _ _ _ => rfl,w1,uv,d0,s21⟩) ?_
 rintro e env2 H2 ⟨rfl,e3,e6,nx,ho,w2,uv2,hb,hS2⟩ hu
 have d22:=(ho (q + 2) (by omega) (by omega)).trans d2
 have cb:=AH.cells_of hb
 have hone:=SetB_cell hS2
 simp (disch:=omega) [-getElem?_pos,if_pos,if_neg,decide_eq_true,decide_eq_false,e3,e6,cb,cut6',hone.1,hone.2,hcp.1,hcp.2,d22,writeA,over]
 have kk : Keep [] H (H2.set (q + 2) (.row [pv,.int .i64 (s.cost + a),.int .i64 s.left,.int .i64 s.pos,.int .i64 s.used.length,uv2] T_state_State true)):=.new_set (by omega) ⟨by omega,fun b hb _ => by rw [ho b (by omega) (by omega),k1.blk b hb (by simp)]⟩
 refine ⟨StV.mk' (s:=⟨s.path,s.cost + a,s.left,s.pos,E.foldl setT s.used⟩) fold_len (s1.up (fun b hb => by have:=hp b hb; exact ⟨.inl hb,by show b < H2.next; omega⟩) (.kept hw kk)) (SetB_sub hS2 (fun b hb => ⟨hb.1.imp id fun h => by omega,hb.2.1⟩) (.set (by simp))),kk⟩
end Go.Proofs.YtlcddhgfkkjhkaaDoor

set_option maxRecDepth 100000
namespace Go.Proofs.YtlcddhgfkkjhkaaDoor
open Go Go.Abs
theorem Contains_spec {p : Nat → Prop} {H : AH} {v : Value} {L : List Int} {y : Int} (hL : SlV p H v L) : AFn Tryd.prog F_slices_Contains_Lint_int [v,.int .i64 y] H fun u H' => u = .bool (decide (y ∈ L)) ∧ H' = H:=by
 obtain ⟨va,vc,rfl⟩:=hL.slice
 refine AFn.enter mixed ir_slices_Contains_Lint_int_eq (by simp [ir_slices_Contains_Lint_int]) fun hw => ?_
 have hi : (0 ≤ idxV L y) ↔ y ∈ L:=by
  unfold idxV
  split
  ·rename_i h; exact ⟨fun _ => h,fun _ => by omega⟩
  ·rename_i h; exact ⟨fun h => by omega,fun h2 => absurd h2 h⟩
 simp (disch:=omega) [-getElem?_pos,if_pos,if_neg,decide_eq_true,decide_eq_false,ir_slices_Contains_Lint_int]
 refine AFn.pure (Index_spec hL) ?_
 generalize idxV L y = j at *
 simp (disch:=omega) [-getElem?_pos,if_pos,if_neg,decide_eq_true,decide_eq_false,hi]
def ApP (p : Nat → Prop) (H : AH) (x : InstD) (s : StD) (d : Int) (u : Value) (H' : AH) : Prop :=
 Keep [] H H' ∧ if d ∈ x.moves s then ∃ sv,u = .tuple #[sv,.int .i64 0] ∧ StV (fun b => (p b ∨ H.next ≤ b) ∧ b < H'.next) H' sv (x.applyS s d) else ∃ sv,u = .tuple #[sv,.int .i64 2] ∧ StV (fun b => (p b ∨ H.next ≤ b) ∧ b < H'.next) H' sv zeroSt
theorem ApP_yes {p : Nat → Prop} {q : Nat} {H H' : AH} {x : InstD} {s : StD} {d : Int} {sv : Value} (hq : H.next = q) (h : d ∈ x.moves s) (k : Keep [] H H') (hs : StV (fun b => (p b ∨ q ≤ b) ∧ b < H'.next) H' sv (x.applyS s d)) : ApP p H x s d (.tuple #[sv,.int .i64 0]) H':=by
 subst hq; unfold ApP; rw [if_pos h]; exact ⟨k,sv,rfl,hs⟩
theorem ApP_no {p : Nat → Prop} {H H' : AH} {x : InstD} {s : StD} {d : Int} {sv : Value} (h : d ∉ x.moves s) (k : Keep [] H H') (hs : StV (fun b => (p b ∨ H.next ≤ b) ∧ b < H'.next) H' sv zeroSt) : ApP p H x s d (.tuple #[sv,.int .i64 2]) H':=by
 unfold ApP; rw [if_neg h]; exact ⟨k,sv,rfl,hs⟩
theorem moves_len {x : InstD} {s : StD} : (x.moves s).length ≤ s.used.length + 2:=by
 unfold InstD.moves
 have : (freeL s.used).length ≤ s.used.length:=by
  unfold freeL
  rw [List.length_map]
  exact Nat.le_trans (List.length_filter_le _ _) (by simp)
 repeat' split
 all_goals first | (simp; done) | (simp; omega) | omega
theorem Apply_spec {H : AH} {p : Nat → Prop} {v w : Value} {s : StD} {x : InstD} {d : Int} (hg : GroundA G H) (hp : ∀ b,p b → b < H.next) (hs : StV p H v s) (hx : InstV (fun b => b < H.next) H w x) (hok : x.Ok) (hso : StOk x s) (hd : I64 d) (hpl : s.path.length ≤ 10000) :
  AFn Tryd.prog F_state_State_Apply [v,w,.int .i64 d] H (ApP p H x s d):=by
 obtain ⟨pv,uv,rfl,s1,s2⟩:=id hs
 obtain ⟨iv,cv,sv,rfl,i1,i2,i3,h1,h2,h3⟩:=id hx
 have hc:=SetB_cell s2
 have hcp:=s1.cell
 have hcc:=h2.cell
 have hci:=h1.cell
 have hcs:=h3.cell
 obtain ⟨pa,pc,rfl⟩:=s1.slice
 have hp0:=hp
 refine AFn.enter mixed ir_state_State_Apply_eq (by simp [ir_state_State_Apply]) fun hw => ?_
 simp (disch:=omega) [-getElem?_pos,if_pos,if_neg,decide_eq_true,decide_eq_false,ir_state_State_Apply,hc.1,hcp.1,hcc.1,hci.1,hcs.1,cut6']
 generalize hq : H.next = q at *
 generalize hH1 : AH.alloc (AH.alloc _ _) _ = H1
 have k1 : Keep [] H H1:=by rw [← hH1]; exact .new_alloc (.new_alloc .alloc)
 have w1 : WF H1:=by rw [← hH1]; exact hw.alloc.alloc.alloc
 have n1 : H1.next = q + 3:=by rw [← hH1]; simp [hq]
 have d0 : H1.blk q = some (.row [.slice pa s.path.length pc,.int .i64 s.cost,.int .i64 s.left,.int .i64 s.pos,.int .i64 s.used.length,uv] T_state_State true):=by rw [← hH1]; simp (disch:=omega) [hq,if_pos,if_neg]
 have d1 : H1.cells (q + 1) = some [.int .i64 x.kind,.int .i64 x.cap,iv,cv,.int .i64 x.size,sv]:=by rw [← hH1]; simp [hq]
 have d2 : H1.blk (q + 2) = some (.row [.slice none 0 0,.int .i64 0,.int .i64 0,.int .i64 0,.int .i64 0,.slice none 0 0] T_state_State true):=by rw [← hH1]; simp [hq]
 clear hH1
 refine (Moves_spec (hg.kept hw k1) (hs.kept hw k1).any (hx.kept hw k1).any hok hso).mono' fun u H2 w2 ⟨S2,hM,k2,hS2⟩ => ?_
 have n2:=k2.next
 obtain ⟨ma,mc,rfl⟩:=hM.slice
 have hMl : (x.moves s).length ≤ 9223372036854775807:=by
  have h1:=moves_len (x:=x) (s:=s)
  have h2:=slots_le hok
  have h3:=hso.used
  omega
 simp (disch:=omega) [-getElem?_pos,if_pos,if_neg,decide_eq_true,decide_eq_false,]
 refine AFn.pure (Contains_spec (hM.slv (q:=fun _ => True) (fun _ h => h.elim) (fun _ _ => trivial) hMl)) ?_
 have d02:=(k2.blk q (by omega) (by simp)).trans d0
 have d12:=cells_kept w1 k2 d1
 have d22:=(k2.blk (q + 2) (by omega) (by simp)).trans d2
 have c02:=AH.cells_of d02
 have k02:=k1.trans' k2
 by_cases hdm : d ∈ x.moves s
 ·have hdT:=eq_true hdm
  have s12:=s1.kept hw k02
  simp (disch:=omega) [-getElem?_pos,if_pos,if_neg,decide_eq_true,decide_eq_false,hdT,c02]
  refine (CloneI_spec s12 (by omega)).mono' fun u H3 w3 ⟨S3,hP,k3,hS3⟩ => ?_
  have n3:=k3.next
  obtain ⟨va,vc,H4,S4,p1,w4,hP4,k4,hS4,k4',i4⟩:=push_i64 (ty:=T_int) (H:=H2) w3 hP k3 hS3 hd (by omega)
  obtain ⟨ua,uc,rfl⟩:=hP.slice
  have n4:=k4.next
  have pE : elemsA (H3.alloc (.row [.int .i64 d] T_int true)) 1 (.slice (some ⟨H3.next,0,none⟩) 1 1) = some [.int .i64 d]:=elems_one rfl
  have d04:=(k4.blk q (by omega) (by simp)).trans d02
  have d14:=cells_kept w2 k4 d12
  have d24:=(k4.blk (q + 2) (by omega) (by simp)).trans d22
  have wr:=writeA_of (off:=0) (news:=[Value.slice va (s.path.length + 1) vc]) d04 (by simp)
  simp only [over,List.take_zero,List.nil_append,List.length_cons,List.length_nil,Nat.zero_add,List.drop_succ_cons,List.drop_zero,List.cons_append,List.append_nil] at wr
  simp (disch:=omega) [-getElem?_pos,if_pos,if_neg,decide_eq_true,decide_eq_false,pE,p1,wr,d14]
  generalize hH5 : AH.set H4 _ _ = H5
  have k05 : Keep [] H H5:=by rw [← hH5]; exact .new_set (by omega) (k02.trans' k4)
  have w5 : WF H5:=by rw [← hH5]; exact w4.set (by omega)
  have n5 : H5.next = H4.next:=by rw [← hH5]; rfl
  have d05 : H5.blk q = some (.row [.slice va (s.path.length + 1) vc,.int .i64 s.cost,.int .i64 s.left,.int .i64 s.pos,.int .i64 s.used.length,uv] T_state_State true):=by rw [← hH5,AH.set_blk_same]
  have d15 : H5.cells (q + 1) = H4.cells (q + 1):=by rw [← hH5,AH.cells_set_ne (by omega)]
  replace d15:=d15.trans d14
  have d25 : H5.blk (q + 2) = H4.blk (q + 2):=by rw [← hH5,AH.set_blk_ne (by omega)]
  replace d25:=d25.trans d24
  have P5 : SlV (fun b => b < H5.next ∧ q + 3 ≤ b) H5 (.slice va (s.path.length + 1) vc) (s.path ++ [d]):=by
   have hl : (s.path ++ [d]).length = s.path.length + 1:=by simp
   have:=hP4.slv (q:=fun b => b < H4.next ∧ q + 3 ≤ b) (fun _ h => h.elim) (fun b hb => ⟨hP4.lt w4 b hb,by have:=hS4 b hb; omega⟩) (by omega)
   rw [← hH5]
   exact this.up (fun b hb => hb) (.set (by omega))
  clear hH5
  have hc05:=AH.cells_of d05
  have hk0:=hok.kind0
  have hk4:=hok.kind4
  have hP5c:=P5.cell
  have hcb:=hso.cost
  have hU5:=SetB_sub s2 (q:=p) (fun b hb => hb) (.kept hw k05)
  by_cases hk1 : x.kind = 1
  ·have hk1T:=eq_true hk1
   obtain ⟨g1,g2,g3,g4⟩:=moves_tour (.inl hk1) hdm
   have hz:=size_zero hok (.inl hk1)
   have hus:=hso.used
   obtain ⟨D,hD⟩ : ∃ D : Nat,d = D:=⟨d.toNat,by omega⟩
   have hDl : D < x.cost.length:=by omega
   have hkl : s.path.length < x.cost.length:=by
    have:=hso.rows hk1
    unfold InstD.done at g1
    rw [if_neg (by omega),if_pos hk1] at g1
    have : ¬ s.path.length = x.cost.length:=by simpa using g1
    omega
   have hap : x.applyS s d = ⟨s.path ++ [d],s.cost + x.costN s.path.length D,s.left,s.pos,setT s.used d⟩:=by
    unfold InstD.applyS; rw [if_pos hk1,hD]; rfl
   have hmag:=costN_mag hok hkl hDl
   obtain ⟨b1,off1,sp1,cap1,cs1,w1',b2,off2,sp2,cap2,cs2,rfl,r1,r2,rfl,r3,r4⟩:=row_cell (h2.kept hw k05) hok hkl
   have r4D:=r4 D hDl
   have hwr:=wr_mid (n:=s.cost + x.costN s.path.length D) (by omega)
   have hmc:=h2.max
   have hwith:=fun (H6 : AH) (k6 : Keep [] H H6) => Bs.With_spec (SetB_sub s2 (q:=p) (fun b hb => hb) (.kept hw k6)) d
   rw [hD] at hwith hdm ⊢
   rw [hD] at hap P5
   generalize x.costN s.path.length D = cc at *
   simp (disch:=omega) [-getElem?_pos,if_pos,if_neg,decide_eq_true,decide_eq_false,hk1T,d15,r1,r2,r3,r4D,hkl,hDl,d05,hc05,hwr,writeA,over,cut42]
   generalize hH6 : AH.set H5 _ _ = H6
   have k06 : Keep [] H H6:=by rw [← hH6]; exact .new_set (by omega) k05
   have w6 : WF H6:=by rw [← hH6]; exact w5.set (by omega)
   have n6 : H6.next = H5.next:=by rw [← hH6]; rfl
   have d06 : H6.blk q = some (.row [.slice va (s.path.length + 1) vc,.int .i64 (s.cost + cc),.int .i64 s.left,.int .i64 s.pos,.int .i64 s.used.length,uv] T_state_State true):=by rw [← hH6,AH.set_blk_same]
   have d26 : H6.blk (q + 2) = H5.blk (q + 2):=by rw [← hH6,AH.set_blk_ne (by omega)]
   replace d26:=d26.trans d25
   have P6 : SlV (fun b => b < H5.next ∧ q + 3 ≤ b) H6 (.slice va (s.path.length + 1) vc) (s.path ++ [(D : Int)]):=by rw [← hH6]; exact P5.sub (.set (by omega))
   clear hH6
   have c06:=AH.cells_of d06
   refine (hwith H6 k06).mono' fun u H7 w7 ⟨hu,k7⟩ => ?_
   rw [setT_eq] at hu
   obtain ⟨ul,rfl,_,_⟩:=id hu
   have hul : (setT s.used (D : Int)).length = s.used.length:=setT_len
   rw [hul] at hu
   have hulI : ((setT s.used (D : Int)).length : Int) = (s.used.length : Int):=by rw [hul]
   have hone:=SetB_cell hu
   have n7:=k7.next
   have d07:=(k7.blk q (by omega) (by simp)).trans d06
   have d27:=(k7.blk (q + 2) (by omega) (by simp)).trans d26
   simp (disch:=omega) [-getElem?_pos,if_pos,if_neg,decide_eq_true,decide_eq_false,hulI,hone.1,hone.2,d07,d27,hP5c.1,hP5c.2,writeA,over,cut6']
   generalize hH8 : AH.set (AH.set H7 _ _) _ _ = H8
   have k08 : Keep [] H H8:=by rw [← hH8]; exact .new_set (by omega) (.new_set (by omega) (k06.trans' k7))
   have n8 : H8.next = H7.next:=by rw [← hH8]; rfl
   have P8 : SlV (fun b => b < H5.next ∧ q + 3 ≤ b) H8 (.slice va (s.path.length + 1) vc) (s.path ++ [(D : Int)]):=by
    rw [← hH8]; exact (P6.kept w6 k7).sub (.trans (.set (by omega)) (.set (by omega)))
   have U8 : Bs.SetB (fun b => (p b ∨ q ≤ b) ∧ b < H8.next) H8 (.agg #[.int .i64 s.used.length,ul]) (setT s.used (D : Int)):=by
    refine SetB_sub (p:=fun b => (p b ∨ q ≤ b) ∧ b < H7.next ∧ b ≠ q ∧ b ≠ q + 2) (SetB_sub (SetB_lt hu w7) (fun b hb => ?_) .refl) (fun b hb => ⟨hb.1,by omega⟩) (by rw [← hH8]; exact .trans (.set (by simp)) (.set (by simp)))
    obtain ⟨h | h,h2⟩:=hb
    ·have:=hp b h; exact ⟨.inl h,by omega,by omega,by omega⟩
    ·exact ⟨.inr (by omega),by omega,by omega,by omega⟩
   refine ApP_yes hq hdm k08 ?_
   rw [hap]
   exact StV.mk' (s:=⟨s.path ++ [(D : Int)],s.cost + cc,s.left,s.pos,setT s.used (D : Int)⟩) hul (P8.mono fun b hb => ⟨.inr (by omega),by omega⟩) U8
  ·have hk1F:=eq_false hk1
   -- the state with the longer path
   have hst : StV (fun b => (p b ∨ q ≤ b) ∧ b < H5.next ∧ b ≠ q ∧ b ≠ q + 2) H5 (.agg #[.slice va (s.path.length + 1) vc,.int .i64 s.cost,.int .i64 s.left,.int .i64 s.pos,.int .i64 s.used.length,uv]) { s with path:=s.path ++ [d] } :=
    StV.mk' (s:={ s with path:=s.path ++ [d] }) rfl (P5.mono fun b hb => ⟨.inr (by omega),hb.1,by omega,by omega⟩) (SetB_sub hU5 (fun b hb => by have:=hp b hb; exact ⟨.inl hb,by omega,by omega,by omega⟩) .refl)
   have hx5 : InstV (fun b => b < H5.next) H5 (.agg #[.int .i64 x.kind,.int .i64 x.cap,iv,cv,.int .i64 x.size,sv]) x:=hx.up (fun b hb => by omega) (.kept hw k05)
   have hst5 : ∀ b,((p b ∨ q ≤ b) ∧ b < H5.next ∧ b ≠ q ∧ b ≠ q + 2) → b < H5.next:=fun b hb => hb.2.1
   by_cases hk2 : x.kind = 2
   ·have hk2T:=eq_true hk2
    obtain ⟨g1,g2,g3,g4⟩:=moves_tour (.inr hk2) hdm
    have hz:=size_zero hok (.inr hk2)
    have hus:=hso.used
    obtain ⟨t1,t2,t3⟩:=hso.tour hk2
    have hap : x.applyS s d = x.wentS { s with path:=s.path ++ [d] } d:=by unfold InstD.applyS; rw [if_neg hk1,if_pos hk2]
    have hwent:=went_spec hst5 hst hx5 hok hk2 (by show s.used.length = _; omega) ⟨t1,t2⟩ ⟨g2,by omega⟩ (by show _ ≤ s.cost ∧ s.cost ≤ _; omega)
    simp (disch:=omega) [-getElem?_pos,if_pos,if_neg,decide_eq_true,decide_eq_false,hk1F,hk2T,d15,hc05,cut6']
    refine hwent.mono' fun u H6 w6 ⟨hu,k6⟩ => ?_
    rw [← hap] at hu
    have n6:=k6.next
    have d06:=(k6.blk q (by omega) (by simp)).trans d05
    have d26:=(k6.blk (q + 2) (by omega) (by simp)).trans d25
    obtain ⟨pv6,uv6,rfl,p6,u6⟩:=id hu
    have o1:=p6.cell
    have o2:=SetB_cell u6
    have k06 : Keep [] H H6:=k05.trans' k6
    simp (disch:=omega) [-getElem?_pos,if_pos,if_neg,decide_eq_true,decide_eq_false,d06,d26,o1.1,o1.2,o2.1,o2.2,writeA,over,cut6']
    exact ApP_yes hq hdm (.new_set (by omega) (.new_set (by omega) k06)) (hu.up (fun b hb => ⟨by rcases hb.1 with h | h; exact h.1; exact .inr (by omega),hb.2⟩) (.trans (.set (by rintro ⟨h | h,_⟩ <;> omega)) (.set (by rintro ⟨h | h,_⟩ <;> omega))))
   ·have hk2F:=eq_false hk2
    by_cases hd1 : d = 1
    ·have hd1T:=eq_true hd1
     by_cases hk00 : x.kind = 0
     ·have hap : x.applyS s d = x.choseS { s with path:=s.path ++ [d] } s.path.length:=by unfold InstD.applyS; rw [if_neg hk1,if_neg hk2,if_pos hd1]
      have hit:=hso.items hk00
      have hkl : s.path.length < x.items.length:=by
       unfold InstD.moves at hdm
       split at hdm
       ·simp at hdm
       ·rename_i hdn
        unfold InstD.done at hdn
        rw [if_pos hk00] at hdn
        have : ¬ s.path.length = x.items.length:=by simpa using hdn
        omega
      have hch:=chosen_spec0 hst5 hst hx5 hok hk00 hkl (by show _ ≤ s.cost ∧ s.cost ≤ _; omega) (by show _ ≤ s.left ∧ s.left ≤ _; omega)
      have hdI : (d : Int) = 1:=hd1
      simp (disch:=omega) [-getElem?_pos,if_pos,if_neg,decide_eq_true,decide_eq_false,hk1F,hk2F,hd1T,d15,hc05,cut6']
      refine hch.mono' fun u H6 w6 ⟨hu,k6⟩ => ?_
      rw [← hap] at hu
      have n6:=k6.next
      have d06:=(k6.blk q (by omega) (by simp)).trans d05
      have d26:=(k6.blk (q + 2) (by omega) (by simp)).trans d25
      obtain ⟨pv6,uv6,rfl,p6,u6⟩:=id hu
      have o1:=p6.cell
      have o2:=SetB_cell u6
      have k06 : Keep [] H H6:=k05.trans' k6
      simp (disch:=omega) [-getElem?_pos,if_pos,if_neg,decide_eq_true,decide_eq_false,d06,d26,o1.1,o1.2,o2.1,o2.2,writeA,over,cut6']
      exact ApP_yes hq hdm (.new_set (by omega) (.new_set (by omega) k06)) (hu.up (fun b hb => ⟨by rcases hb.1 with h | h; exact h.1; exact .inr (by omega),hb.2⟩) (.trans (.set (by rintro ⟨h | h,_⟩ <;> omega)) (.set (by rintro ⟨h | h,_⟩ <;> omega))))
     ·have hk3 : x.kind = 3:=by omega
      have hap : x.applyS s d = x.choseS { s with path:=s.path ++ [d] } s.path.length:=by unfold InstD.applyS; rw [if_neg hk1,if_neg hk2,if_pos hd1]
      have hkl : s.path.length < x.sets.length:=by
       unfold InstD.moves at hdm
       split at hdm
       ·simp at hdm
       ·split at hdm
        ·simp at hdm
        ·omega
      have hch:=chosen_spec3 hst5 hst hx5 hok hk3 hkl (by show _ ≤ s.cost ∧ s.cost ≤ _; omega)
      simp (disch:=omega) [-getElem?_pos,if_pos,if_neg,decide_eq_true,decide_eq_false,hk1F,hk2F,hd1T,d15,hc05,cut6']
      refine hch.mono' fun u H6 w6 ⟨hu,k6⟩ => ?_
      rw [← hap] at hu
      have n6:=k6.next
      have d06:=(k6.blk q (by omega) (by simp)).trans d05
      have d26:=(k6.blk (q + 2) (by omega) (by simp)).trans d25
      obtain ⟨pv6,uv6,rfl,p6,u6⟩:=id hu
      have o1:=p6.cell
      have o2:=SetB_cell u6
      have k06 : Keep [] H H6:=k05.trans' k6
      simp (disch:=omega) [-getElem?_pos,if_pos,if_neg,decide_eq_true,decide_eq_false,d06,d26,o1.1,o1.2,o2.1,o2.2,writeA,over,cut6']
      exact ApP_yes hq hdm (.new_set (by omega) (.new_set (by omega) k06)) (hu.up (fun b hb => ⟨by rcases hb.1 with h | h; exact h.1; exact .inr (by omega),hb.2⟩) (.trans (.set (by rintro ⟨h | h,_⟩ <;> omega)) (.set (by rintro ⟨h | h,_⟩ <;> omega))))
    ·have hd1F:=eq_false hd1
     have hap : x.applyS s d = { s with path:=s.path ++ [d] }:=by unfold InstD.applyS; rw [if_neg hk1,if_neg hk2,if_neg hd1]
     have hone:=SetB_cell hU5
     simp (disch:=omega) [-getElem?_pos,if_pos,if_neg,decide_eq_true,decide_eq_false,hk1F,hk2F,hd1F,d15,hc05,d25,hP5c.1,hP5c.2,hone.1,hone.2,writeA,over,cut6']
     refine ApP_yes hq hdm (.new_set (by omega) k05) ?_
     rw [hap]
     exact hst.up (fun b hb => ⟨hb.1,hb.2.1⟩) (.set (by simp))
 ·have hdF:=eq_false hdm
  simp (disch:=omega) [-getElem?_pos,if_pos,if_neg,decide_eq_true,decide_eq_false,hdF,d22,writeA,over]
  exact ApP_no hdm (.new_set (by omega) k02) stv_zero
end Go.Proofs.YtlcddhgfkkjhkaaDoor

set_option maxRecDepth 100000
namespace Go.Abs
open Go
end Go.Abs
namespace Go.Proofs.YtlcddhgfkkjhkaaDoor
open Go Go.Abs
end Go.Proofs.YtlcddhgfkkjhkaaDoor
