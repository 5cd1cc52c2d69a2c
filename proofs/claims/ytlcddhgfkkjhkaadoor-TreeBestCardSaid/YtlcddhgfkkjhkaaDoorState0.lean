/-
  PLAIN LAW: states of an instance: which moves there are, what a move makes of one.
-/
import Derived.Test.YtlcddhgfkkjhkaaDoorInst
set_option linter.unusedSimpArgs false
set_option linter.unusedVariables false
namespace Go.Abs
open Go
structure StD where
 path : List Int
 cost : Int
 left : Int
 pos : Int
 used : List Bool
def zeroSt : StD:=⟨[],0,0,0,[]⟩
def InstD.wtN (x : InstD) (k : Nat) : Int:=(x.items.getD k (0,0)).2
def InstD.valN (x : InstD) (k : Nat) : Int:=(x.items.getD k (0,0)).1
def InstD.setN (x : InstD) (k : Nat) : SetD:=x.sets.getD k ⟨0,[]⟩
def InstD.costN (x : InstD) (i k : Nat) : Int:=(x.cost.getD i []).getD k 0
def setT (B : List Bool) (i : Int) : List Bool:=if 0 ≤ i ∧ i < B.length then B.set i.toNat true else B
theorem setT_len {B : List Bool} {i : Int} : (setT B i).length = B.length:=by unfold setT; split <;> simp
def InstD.done (x : InstD) (s : StD) : Bool :=
 if x.kind = 0 then decide (s.path.length = x.items.length) else if x.kind = 1 then decide (s.path.length = x.cost.length) else decide (s.used.count true = s.used.length)
def freeL (B : List Bool) : List Int:=((List.range B.length).filter fun k => !B.getD k false).map fun k => ((k : Nat) : Int)
def InstD.moves (x : InstD) (s : StD) : List Int :=
 if x.done s then []
 else if x.kind = 0 then (if x.wtN s.path.length > s.left then [0] else [1,0])
 else if x.kind = 3 then (if s.path.length ≥ x.sets.length then [] else [1,0])
 else freeL s.used
def InstD.start (x : InstD) : StD :=
 ⟨[],0,x.cap,0,if x.kind = 2 then setT (List.replicate (x.cost.length + x.size.toNat) false) 0 else List.replicate (x.cost.length + x.size.toNat) false⟩
def InstD.wentS (x : InstD) (s : StD) (d : Int) : StD :=
 let s1 : StD:=⟨s.path,s.cost + x.costN s.pos.toNat d.toNat,s.left,d,setT s.used d⟩
 if x.done s1 then { s1 with cost:=s1.cost + x.costN d.toNat 0 } else s1
def InstD.choseS (x : InstD) (s : StD) (k : Nat) : StD :=
 if x.kind = 0 then { s with cost:=s.cost - x.valN k,left:=s.left - x.wtN k }
 else { s with cost:=s.cost + (x.setN k).cost,used:=(x.setN k).elems.foldl setT s.used }
def InstD.applyS (x : InstD) (s : StD) (d : Int) : StD :=
 let s1 : StD:={ s with path:=s.path ++ [d] }
 if x.kind = 1 then { s1 with cost:=s.cost + x.costN s.path.length d.toNat,used:=setT s.used d }
 else if x.kind = 2 then x.wentS s1 d
 else if d = 1 then x.choseS s1 s.path.length else s1
def InstD.answer (x : InstD) (s : StD) : List Int :=
 if x.done s then (if x.kind = 1 then s.path else if x.kind = 2 then 0 :: s.path else ((List.range s.path.length).filter fun k => s.path.getD k 0 == 1).map fun k => ((k : Nat) : Int)) else []
structure StOk (x : InstD) (s : StD) : Prop where
 used : s.used.length = x.cost.length + x.size.toNat
 items : x.kind = 0 → s.path.length ≤ x.items.length ∧ 0 ≤ s.left ∧ s.left ≤ 2147483648
 rows : x.kind = 1 → s.path.length ≤ x.cost.length
 tour : x.kind = 2 → 0 ≤ s.pos ∧ s.pos < x.cost.length ∧ s.used.count true = s.path.length + 1
 sets : x.kind = 3 → s.path.length ≤ x.sets.length
 cost : -(s.path.length * 4294967296 : Int) ≤ s.cost ∧ s.cost ≤ s.path.length * 4294967296
 left : -2147483648 ≤ s.left ∧ s.left ≤ 2147483648
 pos : 0 ≤ s.pos ∧ s.pos ≤ 4096
theorem count_replicate (n : Nat) : (List.replicate n false).count true = 0:=by
 rw [List.count_eq_zero]; simp
theorem count_set {B : List Bool} {i : Nat} (h : i < B.length) (hb : B.getD i false = false) : (B.set i true).count true = B.count true + 1:=by
 have hbi : B[i] = false:=by rw [List.getD_eq_getElem?_getD,List.getElem?_eq_getElem h] at hb; exact hb
 have h1 : B = B.take i ++ false :: B.drop (i + 1):=by
  conv => lhs; rw [← List.take_append_drop i B]
  rw [← List.getElem_cons_drop h,hbi]
 rw [List.set_eq_take_append_cons_drop,if_pos h]
 conv => rhs; rw [h1]
 rw [List.count_append,List.count_append,List.count_cons,List.count_cons]
 simp
 omega
theorem freeL_mem {B : List Bool} {d : Int} : d ∈ freeL B ↔ 0 ≤ d ∧ d < B.length ∧ B.getD d.toNat false = false:=by
 unfold freeL
 constructor
 ·intro h
  obtain ⟨k,hk,rfl⟩:=List.mem_map.1 h
  obtain ⟨h1,h2⟩:=List.mem_filter.1 hk
  have:=List.mem_range.1 h1
  refine ⟨by omega,by omega,?_⟩
  simpa using h2
 ·rintro ⟨h1,h2,h3⟩
  exact List.mem_map.2 ⟨d.toNat,List.mem_filter.2 ⟨List.mem_range.2 (by omega),by rw [h3]; rfl⟩,by omega⟩
theorem slots_le {x : InstD} (hok : x.Ok) : x.cost.length + x.size.toNat ≤ 4096:=by
 have h1:=hok.few.size
 have h2:=hok.few.size0
 have h3:=hok.few.sq
 rcases hok.lean.sq with h | h | h
 ·have:=h3 (.inl h)
  rcases hok.lean.cov with h4 | h4 <;> omega
 ·have:=h3 (.inr h)
  rcases hok.lean.cov with h4 | h4 <;> omega
 ·omega
theorem size_zero {x : InstD} (hok : x.Ok) (h : x.kind = 1 ∨ x.kind = 2) : x.size = 0:=by
 rcases hok.lean.cov with h4 | h4
 ·omega
 ·exact h4.1
theorem start_ok {x : InstD} (hok : x.Ok) : StOk x x.start:=by
 have hcap:=hok.small.cap
 unfold Mag at hcap
 refine ⟨?_,fun h => ⟨by simp [InstD.start],hcap.1,hcap.2⟩,fun h => by simp [InstD.start],fun h => ?_,fun h => by simp [InstD.start],by simp [InstD.start],by simp only [InstD.start]; omega,by simp [InstD.start]⟩
 ·unfold InstD.start; simp only
  split
  ·rw [setT_len,List.length_replicate]
  ·rw [List.length_replicate]
 ·have hl:=hok.few.sq (.inr h)
  refine ⟨by simp [InstD.start],by simp only [InstD.start]; omega,?_⟩
  unfold InstD.start
  simp only [if_pos h]
  unfold setT
  rw [if_pos ⟨by omega,by rw [List.length_replicate]; omega⟩]
  have:=count_set (B:=List.replicate (x.cost.length + x.size.toNat) false) (i:=0) (by rw [List.length_replicate]; omega) (by rw [List.getD_eq_getElem?_getD,List.getElem?_replicate]; split <;> rfl)
  rw [count_replicate] at this
  simpa using this
theorem costN_mag {x : InstD} (hok : x.Ok) {i k : Nat} (hi : i < x.cost.length) (hk : k < x.cost.length) : -2147483648 ≤ x.costN i k ∧ x.costN i k ≤ 2147483648:=by
 have hrow:=hok.shaped.rows i hi
 have hm:=hok.small.rows i hi k (by omega)
 unfold InstD.costN
 rw [List.getD_eq_getElem?_getD,List.getD_eq_getElem?_getD,List.getElem?_eq_getElem hi]
 simp only [Option.getD_some]
 rw [List.getElem?_eq_getElem (by omega)]
 exact hm
theorem val_mag {x : InstD} (hok : x.Ok) {k : Nat} (hk : k < x.items.length) : 0 ≤ x.valN k ∧ x.valN k ≤ 2147483648 ∧ 0 ≤ x.wtN k ∧ x.wtN k ≤ 2147483648:=by
 obtain ⟨h1,h2⟩:=hok.small.items k hk
 unfold InstD.valN InstD.wtN
 rw [List.getD_eq_getElem?_getD,List.getElem?_eq_getElem hk]
 unfold Mag at h1 h2
 simp only [Option.getD_some]
 omega
theorem set_mag {x : InstD} (hok : x.Ok) {k : Nat} (hk : k < x.sets.length) : 0 ≤ (x.setN k).cost ∧ (x.setN k).cost ≤ 2147483648:=by
 have h1:=hok.small.sets k hk
 unfold InstD.setN
 rw [List.getD_eq_getElem?_getD,List.getElem?_eq_getElem hk]
 exact h1
theorem fold_len : ∀ {E : List Int} {B : List Bool},(E.foldl setT B).length = B.length
 | [],B => rfl
 | a :: E,B => by rw [List.foldl_cons,fold_len,setT_len]
theorem moves_tour {x : InstD} {s : StD} {d : Int} (h : x.kind = 1 ∨ x.kind = 2) (hd : d ∈ x.moves s) : x.done s = false ∧ 0 ≤ d ∧ d < s.used.length ∧ s.used.getD d.toNat false = false:=by
 unfold InstD.moves at hd
 split at hd
 ·simp at hd
 ·rename_i hdn
  rw [if_neg (by omega),if_neg (by omega)] at hd
  exact ⟨by simpa using hdn,freeL_mem.1 hd⟩
theorem apply_path {x : InstD} {s : StD} {d : Int} : (x.applyS s d).path = s.path ++ [d]:=by
 unfold InstD.applyS InstD.wentS InstD.choseS
 simp only
 repeat' split
 all_goals rfl
theorem apply_used {x : InstD} {s : StD} {d : Int} : (x.applyS s d).used.length = s.used.length:=by
 unfold InstD.applyS InstD.wentS InstD.choseS
 simp only
 repeat' split
 all_goals first | rfl | exact setT_len | exact fold_len
theorem apply_ok {x : InstD} {s : StD} {d : Int} (hok : x.Ok) (hs : StOk x s) (hd : d ∈ x.moves s) : StOk x (x.applyS s d):=by
 have hu:=apply_used (x:=x) (s:=s) (d:=d)
 have hp:=apply_path (x:=x) (s:=s) (d:=d)
 have hpl : (x.applyS s d).path.length = s.path.length + 1:=by rw [hp]; simp
 have hk0:=hok.kind0
 have hk4:=hok.kind4
 obtain ⟨s1,s2,s3,s4,s5,s6,s7,s8⟩:=hs
 by_cases k1 : x.kind = 1
 ·obtain ⟨g1,g2,g3,g4⟩:=moves_tour (.inl k1) hd
  have hz:=size_zero hok (.inl k1)
  have hdn : ¬ s.path.length = x.cost.length:=by
   unfold InstD.done at g1
   rw [if_neg (by omega),if_pos k1] at g1
   simpa using g1
  have:=s3 k1
  have hm:=costN_mag hok (i:=s.path.length) (k:=d.toNat) (by omega) (by omega)
  have he : x.applyS s d = ⟨s.path ++ [d],s.cost + x.costN s.path.length d.toNat,s.left,s.pos,setT s.used d⟩:=by unfold InstD.applyS; rw [if_pos k1]
  refine ⟨by rw [hu,s1],by omega,fun _ => by rw [hpl]; omega,by omega,by omega,?_,by rw [he]; exact s7,by rw [he]; exact s8⟩
  rw [hpl,he]; simp only; omega
 ·by_cases k2 : x.kind = 2
  ·obtain ⟨g1,g2,g3,g4⟩:=moves_tour (.inr k2) hd
   have hz:=size_zero hok (.inr k2)
   obtain ⟨t1,t2,t3⟩:=s4 k2
   have hl:=hok.few.sq (.inr k2)
   have hm1:=costN_mag hok (i:=s.pos.toNat) (k:=d.toNat) (by omega) (by omega)
   have hm2:=costN_mag hok (i:=d.toNat) (k:=0) (by omega) (by omega)
   have hct : (setT s.used d).count true = s.path.length + 2:=by
    unfold setT
    rw [if_pos ⟨g2,g3⟩,count_set (by omega) g4,t3]
   have he : x.applyS s d = x.wentS ⟨s.path ++ [d],s.cost,s.left,s.pos,s.used⟩ d:=by unfold InstD.applyS; rw [if_neg k1,if_pos k2]
   have hpos : (x.applyS s d).pos = d:=by rw [he]; unfold InstD.wentS; simp only; split <;> rfl
   have huu : (x.applyS s d).used = setT s.used d:=by rw [he]; unfold InstD.wentS; simp only; split <;> rfl
   have hll : (x.applyS s d).left = s.left:=by rw [he]; unfold InstD.wentS; simp only; split <;> rfl
   refine ⟨by rw [hu,s1],by omega,by omega,fun _ => ⟨by rw [hpos]; exact g2,by rw [hpos]; omega,by rw [huu,hct,hpl]⟩,by omega,?_,by rw [hll]; exact s7,by rw [hpos]; omega⟩
   rw [hpl,he]
   unfold InstD.wentS
   simp only
   split
   ·simp only; omega
   ·simp only; omega
  ·by_cases k0 : x.kind = 0
   ·obtain ⟨t1,t2,t3⟩:=s2 k0
    unfold InstD.moves at hd
    split at hd
    ·simp at hd
    ·rename_i hdn
     have hlt : s.path.length < x.items.length:=by
      unfold InstD.done at hdn
      rw [if_pos k0] at hdn
      have : ¬ s.path.length = x.items.length:=by simpa using hdn
      omega
     obtain ⟨v1,v2,v3,v4⟩:=val_mag hok hlt
     by_cases hd1 : d = 1
     ·have he : x.applyS s d = ⟨s.path ++ [d],s.cost - x.valN s.path.length,s.left - x.wtN s.path.length,s.pos,s.used⟩:=by
       unfold InstD.applyS InstD.choseS; rw [if_neg k1,if_neg k2,if_pos hd1,if_pos k0]
      have hw : ¬ x.wtN s.path.length > s.left:=by
       intro hc
       rw [if_pos hc] at hd
       simp at hd; omega
      refine ⟨by rw [hu,s1],fun _ => ⟨by rw [hpl]; omega,by rw [he]; simp only; omega,by rw [he]; simp only; omega⟩,by omega,by omega,by omega,by rw [hpl,he]; simp only; omega,by rw [he]; simp only; omega,by rw [he]; exact s8⟩
     ·have he : x.applyS s d = ⟨s.path ++ [d],s.cost,s.left,s.pos,s.used⟩:=by
       unfold InstD.applyS; rw [if_neg k1,if_neg k2,if_neg hd1]
      refine ⟨by rw [hu,s1],fun _ => ⟨by rw [hpl]; omega,by rw [he]; exact t2,by rw [he]; exact t3⟩,by omega,by omega,by omega,by rw [hpl,he]; simp only; omega,by rw [he]; exact s7,by rw [he]; exact s8⟩
   ·have k3 : x.kind = 3:=by omega
    have t1:=s5 k3
    unfold InstD.moves at hd
    split at hd
    ·simp at hd
    ·split at hd
     ·simp at hd
     ·rename_i hlt
      have hm:=set_mag hok (k:=s.path.length) (by omega)
      by_cases hd1 : d = 1
      ·have he : x.applyS s d = ⟨s.path ++ [d],s.cost + (x.setN s.path.length).cost,s.left,s.pos,(x.setN s.path.length).elems.foldl setT s.used⟩:=by
        unfold InstD.applyS InstD.choseS; rw [if_neg k1,if_neg k2,if_pos hd1,if_neg k0]
       exact ⟨by rw [hu,s1],by omega,by omega,by omega,fun _ => by rw [hpl]; omega,by rw [hpl,he]; simp only; omega,by rw [he]; exact s7,by rw [he]; exact s8⟩
      ·have he : x.applyS s d = ⟨s.path ++ [d],s.cost,s.left,s.pos,s.used⟩:=by
        unfold InstD.applyS; rw [if_neg k1,if_neg k2,if_neg hd1]
       exact ⟨by rw [hu,s1],by omega,by omega,by omega,fun _ => by rw [hpl]; omega,by rw [hpl,he]; simp only; omega,by rw [he]; exact s7,by rw [he]; exact s8⟩
end Go.Abs
