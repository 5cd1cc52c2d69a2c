/-
  The document's Greedy (layer 18).
-/
import Derived.Test.YtejifalflkbekaaDoorDs12
set_option maxRecDepth 100000
set_option linter.unusedSimpArgs false
set_option linter.unusedVariables false
namespace Go.Abs
open Go Go.Proofs.YtejifalflkbekaaDoor.Bs
def anyT (B : List Bool) (k : Nat) : Bool:=(List.range k).any fun j => B.getD j false
theorem anyT_succ {B : List Bool} {k : Nat} : anyT B (k + 1) = (anyT B k || B.getD k false):=by unfold anyT; rw [List.range_succ,List.any_append]; simp
theorem anyT_cnt {B : List Bool} : anyT B B.length = false ↔ B.count true = 0:=by
 rw [cnt_zero]
 unfold anyT
 rw [List.any_eq_false]
 constructor
 ·intro h j
  by_cases hj : j < B.length
  ·have:=h j (List.mem_range.2 hj); simpa using this
  ·rw [List.getD_eq_getElem?_getD,List.getElem?_eq_none (by omega)]; rfl
 ·intro h j _; rw [h j]; simp
theorem inL_snocF {A : List Int} {m : Nat} {n : Nat} : (mapB (inL A) n).set m true = mapB (inL (A ++ [(m : Int)])) n:=by
 refine mapB_set fun j hj => ?_
 unfold inL
 by_cases h : j = m
 ·rw [if_pos h,h]; simp
 ·rw [if_neg h]
  have : ¬ (j : Int) = (m : Int):=by omega
  simp [this]
end Go.Abs
namespace Go.Proofs.YtejifalflkbekaaDoor
open Go Go.Abs Go.Proofs.YtejifalflkbekaaDoor.Bs
def G4I (H1 : AH) (wv : Value) (B : List Bool) (k : Nat) (env : Env) (H' : AH) : Prop :=
 H' = H1 ∧ env 7 = some wv ∧ env 10 = some (.int .i64 k) ∧ env 9 = some (.bool (anyT B k))
def G4Q (H1 : AH) (B : List Bool) (x : AExit) (env : Env) (H' : AH) : Prop:=x = .exit 2 ∧ H' = H1 ∧ env 9 = some (.bool (anyT B B.length))
theorem greedyR_l4 {p : Nat → Prop} {H1 : AH} {wv : Value} {B : List Bool} (hB : SlV p H1 wv B) (hl : B.length ≤ 1000) {env : Env} (h : G4I H1 wv B 0 env H1) : wpC Tryd.prog 140 (.loop ir_ref18_Greedy_l4) (G4Q H1 B) env H1:=by
 refine loop_upto B.length (G4I H1 wv B) (Q:=G4Q H1 B) h ?_
 rintro k env H' hk ⟨rfl,e7,e10,e9⟩
 obtain ⟨wa,wc,hwv⟩:=hB.slice
 by_cases hkn : k < B.length
 ·obtain ⟨b0,off,sp,cap,cs,hv,q1,q2⟩:=bools_rd hB (by omega)
  have q3:=q2 k hkn
  have hst:=anyT_succ (B:=B) (k:=k)
  have hg : B.getD k false = B[k]:=by rw [List.getD_eq_getElem?_getD,List.getElem?_eq_getElem hkn]; rfl
  rw [hg] at hst
  have hkn' : (k : Int) < (B.length : Int):=by omega
  subst hv
  generalize B[k] = x at *
  generalize hab : anyT B k = ab at *
  cases ab with
  | true =>
   simp (disch:=omega) [-getElem?_pos,if_pos,if_neg,decide_eq_true,decide_eq_false,ir_ref18_Greedy_l4,e7,e9,e10,hkn,hkn',q1,q3,IntWalk.i64_in]
   exact ⟨rfl,by simp [e7],by simp,by simp [hst]⟩
  | false =>
   simp (disch:=omega) [-getElem?_pos,if_pos,if_neg,decide_eq_true,decide_eq_false,ir_ref18_Greedy_l4,e7,e9,e10,hkn,hkn',q1,q3,IntWalk.i64_in]
   exact ⟨rfl,by simp [e7],by simp,by simp [hst]⟩
 ·obtain rfl : k = B.length:=by omega
  subst hwv
  simp (disch:=omega) [-getElem?_pos,if_pos,if_neg,decide_eq_true,decide_eq_false,ir_ref18_Greedy_l4,e7,e10]
  exact ⟨rfl,rfl,e9⟩
def G2I (H1 : AH) (lv wv : Value) (kk : Nat) (B : List Bool) (E : List Int) (k : Nat) (env : Env) (H' : AH) : Prop :=
 H' = H1 ∧ env 1 = some lv ∧ env 7 = some wv ∧ env 13 = some (.int .i64 kk) ∧ env 15 = some (.int .i64 k) ∧ env 14 = some (.int .i64 (frE B (E.take k) : Nat))
def G2Q (H1 : AH) (B : List Bool) (E : List Int) (x : AExit) (env : Env) (H' : AH) : Prop:=x = .exit 6 ∧ H' = H1 ∧ env 14 = some (.int .i64 (frE B E : Nat))
theorem greedyR_l2 {p p' : Nat → Prop} {H1 : AH} {lv wv : Value} {L : List SetD} {B : List Bool} {kk : Nat} (hL : SlV p H1 lv L) (hB : SlV p' H1 wv B) (hkk : kk < L.length) (hin : ∀ e ∈ L[kk].elems,-1 < e ∧ e < B.length) (hl : L[kk].elems.length ≤ 1000) {env : Env} (h : G2I H1 lv wv kk B L[kk].elems 0 env H1) : wpC Tryd.prog 140 (.loop ir_ref18_Greedy_l2) (G2Q H1 B L[kk].elems) env H1:=by
 refine loop_upto L[kk].elems.length (G2I H1 lv wv kk B L[kk].elems) (Q:=G2Q H1 B L[kk].elems) h ?_
 rintro k env H' hk ⟨rfl,e1,e7,e13,e15,e14⟩
 obtain ⟨b0,off,sp,cap,cs,hv,q1,q2⟩:=sets_rd hL (by omega)
 obtain ⟨ev,q3,q4,q5,q6,q7⟩:=q2 kk hkk
 have hkk' : (kk : Int) < (L.length : Int):=by omega
 generalize hE : L[kk].elems = E at *
 obtain ⟨ea,ec,hev⟩:=q7.slice
 subst hv
 by_cases hkn : k < E.length
 ·obtain ⟨b1,off1,sp1,cap1,cs1,hv1,p1,p2⟩:=ints_rd q7 (by omega)
  obtain ⟨p3,_⟩:=p2 k hkn
  have hst:=frE_take (B:=B) hkn
  have hk1:=hin E[k] (List.getElem_mem hkn)
  obtain ⟨m,hm⟩ : ∃ m : Nat,E[k] = (m : Int):=⟨E[k].toNat,by omega⟩
  rw [hm] at p3 hst hk1
  rw [Int.toNat_natCast] at hst
  have hmB : m < B.length:=by omega
  have hmB' : (m : Int) < (B.length : Int):=by omega
  obtain ⟨b2,off2,sp2,cap2,cs2,hv2,r1,r2⟩:=bools_rd hB (by omega)
  have r3:=r2 m hmB
  have hg : B.getD m false = B[m]:=by rw [List.getD_eq_getElem?_getD,List.getElem?_eq_getElem hmB]; rfl
  rw [hg] at hst
  have hfl:=frE_le B (E.take k)
  have htl : (E.take k).length ≤ 1000:=by rw [List.length_take]; omega
  have hkE : (k : Int) < (E.length : Int):=by omega
  subst hv1 hv2
  clear hin hm
  generalize B[m] = x at *
  generalize frE B (E.take k) = f at *
  cases x with
  | true =>
   simp (disch:=omega) [-getElem?_pos,if_pos,if_neg,decide_eq_true,decide_eq_false,ir_ref18_Greedy_l2,e1,e7,e13,e14,e15,hkk,hkk',hkn,hkE,q1,q5,p1,p3,r1,r3,hmB,hmB',IntWalk.i64_in]
   exact ⟨rfl,by simp [e1],by simp [e7],by simp [e13],by simp,by simp [hst]⟩
  | false =>
   simp (disch:=omega) [-getElem?_pos,if_pos,if_neg,decide_eq_true,decide_eq_false,ir_ref18_Greedy_l2,e1,e7,e13,e14,e15,hkk,hkk',hkn,hkE,q1,q5,p1,p3,r1,r3,hmB,hmB',IntWalk.i64_in]
   exact ⟨rfl,by simp [e1],by simp [e7],by simp [e13],by simp,by simp [hst,e14]⟩
 ·obtain rfl : k = E.length:=by omega
  rw [List.take_length] at e14
  subst hev
  simp (disch:=omega) [-getElem?_pos,if_pos,if_neg,decide_eq_true,decide_eq_false,ir_ref18_Greedy_l2,e1,e13,e15,hkk,hkk',q1,q5]
  exact ⟨rfl,rfl,e14⟩
def G3I (H1 : AH) (lv wv : Value) (L : List SetD) (B : List Bool) (k : Nat) (env : Env) (H' : AH) : Prop :=
 H' = H1 ∧ env 1 = some lv ∧ env 7 = some wv ∧ env 13 = some (.int .i64 k) ∧ env 11 = some (.int .i64 (chS L B k).1) ∧ env 12 = some (.int .i64 (chS L B k).2)
def G3Q (H1 : AH) (lv wv : Value) (L : List SetD) (B : List Bool) (x : AExit) (env : Env) (H' : AH) : Prop:=x = .exit 4 ∧ H' = H1 ∧ env 11 = some (.int .i64 (chS L B L.length).1)
theorem greedyR_l3 {p p' : Nat → Prop} {H1 : AH} {n : Nat} {lv wv : Value} {L : List SetD} {B : List Bool} (hL : SlV p H1 lv L) (hB : SlV p' H1 wv B) (hD : DOk n L) (hn : B.length = n) (hl : L.length ≤ 30) (hel : ∀ s ∈ L,s.elems.length ≤ 30) {env : Env} (h : G3I H1 lv wv L B 0 env H1) : wpC Tryd.prog 140 (.loop ir_ref18_Greedy_l3) (G3Q H1 lv wv L B) env H1:=by
 refine loop_upto L.length (G3I H1 lv wv L B) (Q:=G3Q H1 lv wv L B) h ?_
 rintro k env H' hk ⟨rfl,e1,e7,e13,e11,e12⟩
 obtain ⟨va,vc,hlv⟩:=hL.slice
 obtain ⟨wa,wc,hwv⟩:=hB.slice
 by_cases hkn : k < L.length
 ·obtain ⟨b0,off,sp,cap,cs,hv,q1,q2⟩:=sets_rd hL (by omega)
  obtain ⟨ev,q3,q4,q5,q6,q7⟩:=q2 k hkn
  have hsl:=hel L[k] (List.getElem_mem hkn)
  have hin:=rises_mem (hD.rise L[k] (List.getElem_mem hkn))
  have hcs:=hD.cost L[k] (List.getElem_mem hkn)
  have hst:=chS_step (B:=B) hkn
  have hso:=chS_some (L:=L) (B:=B) k (by omega)
  have hfl:=frE_le B L[k].elems
  have hkn' : (k : Int) < (L.length : Int):=by omega
  rw [hwv] at e7
  rw [hv] at e1
  simp (disch:=omega) [-getElem?_pos,if_pos,if_neg,decide_eq_true,decide_eq_false,ir_ref18_Greedy_l3,e1,e7,e11,e12,e13,hkn,hkn']
  refine wpC_use (greedyR_l2 (kk:=k) hL hB hkn (fun e he => by have:=hin e he; omega) (by omega) ?_) ?_
  ·exact ⟨rfl,by simp [e1,hv],by simp [e7,hwv],by simp [e13],by simp,by simp [frE]⟩
  rintro x env2 H2 ⟨rfl,rfl,f14⟩ hu
  have u1:=hu 1 (by decide)
  have u7:=hu 7 (by decide)
  have u11:=hu 11 (by decide)
  have u12:=hu 12 (by decide)
  have u13:=hu 13 (by decide)
  simp [e1,e7,e11,e12,e13] at u1 u7 u11 u12 u13
  clear hu
  generalize hfn : frE B L[k].elems = f at *
  rcases hso with ⟨h1,h2⟩ | ⟨b,hbl,h1,hbk,h2,h3⟩
  ·rw [h1] at u11 hst
   rw [h2] at u12 hst
   by_cases hf : 0 < f
   ·rw [if_pos ⟨hf,.inl (by omega)⟩] at hst
    have hf' : (0 : Int) < (f : Int):=by omega
    simp (disch:=omega) [-getElem?_pos,if_pos,if_neg,decide_eq_true,decide_eq_false,u1,u7,u11,u12,u13,f14,hf',hkn,IntWalk.i64_in]
    exact ⟨rfl,by simp [u1,hv],by simp [u7,hwv],by simp,by simp [hst],by simp [hst]⟩
   ·rw [if_neg fun h => hf h.1] at hst
    have hf' : ¬ (0 : Int) < (f : Int):=by omega
    simp (disch:=omega) [-getElem?_pos,if_pos,if_neg,decide_eq_true,decide_eq_false,u1,u7,u11,u12,u13,f14,hf',hkn,IntWalk.i64_in]
    exact ⟨rfl,by simp [u1,hv],by simp [u7,hwv],by simp,by simp [hst,u11,h1],by simp [hst,u12,h2]⟩
  ·obtain ⟨ev2,g3,g4,g5,g6,g7⟩:=q2 b hbl
   have hcb:=hD.cost L[b] (List.getElem_mem hbl)
   have hfb:=frE_le B L[b].elems
   have hbe:=hel L[b] (List.getElem_mem hbl)
   have helim : ((L[(chS L B k).1.toNat]?).elim 0 (·.cost)) = L[b].cost:=by rw [h1,Int.toNat_natCast,List.getElem?_eq_getElem hbl]; rfl
   rw [helim] at hst
   rw [h1] at u11 hst
   rw [h2] at u12 hst
   generalize frE B L[b].elems = fb at *
   generalize L[k].cost = c0 at *
   generalize L[b].cost = cb at *
   have hb2 : (b : Int) < (L.length : Int):=by omega
   have hb3 : ¬ (b : Int) < 0:=by omega
   have m1 : 0 ≤ c0 * (fb : Int):=Int.mul_nonneg hcs.1 (by omega)
   have m2 : c0 * (fb : Int) ≤ 2147483648 * 30:=Int.mul_le_mul hcs.2 (by omega) (by omega) (by omega)
   have m3 : 0 ≤ cb * (f : Int):=Int.mul_nonneg hcb.1 (by omega)
   have m4 : cb * (f : Int) ≤ 2147483648 * 30:=Int.mul_le_mul hcb.2 (by omega) (by omega) (by omega)
   have w1 : IntKind.i64.wrap (c0 * (fb : Int)) = c0 * (fb : Int):=IntWalk.i64_in _ (by omega)
   have w2 : IntKind.i64.wrap (cb * (f : Int)) = cb * (f : Int):=IntWalk.i64_in _ (by omega)
   by_cases hf : 0 < f
   ·have hf' : (0 : Int) < (f : Int):=by omega
    by_cases hx : c0 * (fb : Int) < cb * (f : Int)
    ·rw [if_pos ⟨hf,.inr hx⟩] at hst
     simp (disch:=omega) [-getElem?_pos,if_pos,if_neg,decide_eq_true,decide_eq_false,u1,u7,u11,u12,u13,f14,hf',hkn,hkn',hbl,hb2,hb3,q1,q4,g4,w1,w2,hx,IntWalk.i64_in]
     exact ⟨rfl,by simp [u1,hv],by simp [u7,hwv],by simp,by simp [hst],by simp [hst]⟩
    ·rw [if_neg fun h => by rcases h.2 with h | h; omega; exact hx h] at hst
     simp (disch:=omega) [-getElem?_pos,if_pos,if_neg,decide_eq_true,decide_eq_false,u1,u7,u11,u12,u13,f14,hf',hkn,hkn',hbl,hb2,hb3,q1,q4,g4,w1,w2,hx,IntWalk.i64_in]
     exact ⟨rfl,by simp [u1,hv],by simp [u7,hwv],by simp,by simp [hst,u11,h1],by simp [hst,u12,h2]⟩
   ·rw [if_neg fun h => hf h.1] at hst
    have hf' : ¬ (0 : Int) < (f : Int):=by omega
    simp (disch:=omega) [-getElem?_pos,if_pos,if_neg,decide_eq_true,decide_eq_false,u1,u7,u11,u12,u13,f14,hf',hkn,IntWalk.i64_in]
    exact ⟨rfl,by simp [u1,hv],by simp [u7,hwv],by simp,by simp [hst,u11,h1],by simp [hst,u12,h2]⟩
 ·obtain rfl : k = L.length:=by omega
  subst hlv
  simp (disch:=omega) [-getElem?_pos,if_pos,if_neg,decide_eq_true,decide_eq_false,ir_ref18_Greedy_l3,e1,e13]
  exact ⟨rfl,rfl,e11⟩
end Go.Proofs.YtejifalflkbekaaDoor
