/-
  Contracts of package inst (2): shaped, small, bare, Check, N.
-/
import Derived.Test.YtejifalflkbekaaDoorInst1
set_option maxRecDepth 100000
set_option linter.unusedSimpArgs false
set_option linter.unusedVariables false
namespace Go.Proofs.YtejifalflkbekaaDoor
open Go Go.Abs
section
variable {H1 : AH} {q : Nat} {x : InstD} {iv cv sv : Value}
/-! ### shaped -/
def ShA (H1 : AH) (q : Nat) (x : InstD) (cv : Value) (k : Nat) (env : Env) (H' : AH) : Prop :=
 H' = H1 ∧ env 1 = some (.pointer (some ⟨q,0,none⟩)) ∧ env 11 = some cv ∧ env 12 = some (.int .i64 x.cost.length) ∧ env 13 = some (.int .i64 k) ∧ ∀ j (h : j < x.cost.length),j < k → x.cost[j].length = x.cost.length
def ShAQ (H1 : AH) (x : InstD) (e : AExit) (env : Env) (H' : AH) : Prop :=
 H' = H1 ∧ ((e = .exit 0 ∧ ∀ j (h : j < x.cost.length),x.cost[j].length = x.cost.length) ∨ (e = .ret ∧ env 2 = some (.bool false) ∧ ¬ x.Shaped))
theorem shaped_l2 (b : Bx H1 q x iv cv sv) {env : Env} (h : ShA H1 q x cv 0 env H1) : wpC Tryd.prog 50 (.loop ir_inst_Inst_shaped_l2) (ShAQ H1 x) env H1:=by
 refine loop_upto x.cost.length (ShA H1 q x cv) (Q:=ShAQ H1 x) h ?_
 rintro k env H' hk ⟨rfl,e1,e11,e12,e13,hj⟩
 by_cases hkn : k < x.cost.length
 ·have hmax:=b.m.max
  obtain ⟨b0,off,sp,cap,cs,hcv,q1,q2⟩:=rows_rd b.m (by omega)
  obtain ⟨w,q3,q4⟩:=q2 k hkn
  obtain ⟨aw,cw,rfl⟩:=q4.slice
  subst hcv
  have bc:=b.c
  by_cases hr : x.cost[k].length = x.cost.length
  ·simp (disch:=omega) [-getElem?_pos,if_pos,if_neg,decide_eq_true,decide_eq_false,ir_inst_Inst_shaped_l2,e1,e11,e12,e13,q1,q3,bc,hr,IntWalk.i64_in]
   refine ⟨hkn,rfl,by simp [e1],by simp [e11],by simp [e12],by simp,fun j hjn hjk => ?_⟩
   by_cases hjk' : j = k
   ·subst hjk'; exact hr
   ·exact hj j hjn (by omega)
  ·simp (disch:=omega) [-getElem?_pos,if_pos,if_neg,decide_eq_true,decide_eq_false,ir_inst_Inst_shaped_l2,e1,e11,e12,e13,q1,q3,bc,hr,IntWalk.i64_in]
   exact ⟨rfl,.inr ⟨rfl,by simp,fun hc => hr (hc.rows k hkn)⟩⟩
 ·obtain rfl : k = x.cost.length:=by omega
  simp (disch:=omega) [-getElem?_pos,if_pos,if_neg,decide_eq_true,decide_eq_false,ir_inst_Inst_shaped_l2,e1,e11,e12,e13]
  exact ⟨rfl,.inl ⟨rfl,fun j h => hj j h h⟩⟩
def ShB (H2 : AH) (q : Nat) (ev : Value) (l : List Int) (n : Int) (k : Nat) (env : Env) (H' : AH) : Prop :=
 H' = H2 ∧ env 1 = some (.pointer (some ⟨q,0,none⟩)) ∧ env 32 = some ev ∧ env 33 = some (.int .i64 l.length) ∧ env 34 = some (.int .i64 k) ∧ env 7 = some (.int .i64 (if k = 0 then -1 else l.getD (k - 1) 0)) ∧
  ∀ j (h : j < l.length),j < k → (if j = 0 then -1 else l.getD (j - 1) 0) < l[j] ∧ l[j] < n
def ShBQ (H2 : AH) (l : List Int) (n : Int) (e : AExit) (env : Env) (H' : AH) : Prop :=
 H' = H2 ∧ ((e = .exit 4 ∧ Rises (-1) n l) ∨ (e = .ret ∧ env 2 = some (.bool false) ∧ ¬ Rises (-1) n l))
theorem shaped_l0 {H2 : AH} (b : Bx H2 q x iv cv sv) {ev : Value} {l : List Int} (hl : SlV Ty H2 ev l) {env : Env} (h : ShB H2 q ev l x.size 0 env H2) : wpC Tryd.prog 50 (.loop ir_inst_Inst_shaped_l0) (ShBQ H2 l x.size) env H2:=by
 refine loop_upto l.length (ShB H2 q ev l x.size) (Q:=ShBQ H2 l x.size) h ?_
 rintro k env H' hk ⟨rfl,e1,e32,e33,e34,e7,hj⟩
 by_cases hkn : k < l.length
 ·have hmax:=hl.max
  obtain ⟨b0,off,sp,cap,cs,hcv,q1,q2⟩:=ints_rd hl (by omega)
  obtain ⟨q3,q4⟩:=q2 k hkn
  subst hcv
  have bc:=b.c
  have hg : l[k]?.getD 0 = l[k]:=by simp [hkn]
  have key : l[k] < x.size → ((if k = 0 then -1 else l.getD (k - 1) 0) < l[k]) → ∀ j (h : j < l.length),j < k + 1 → (if j = 0 then -1 else l.getD (j - 1) 0) < l[j] ∧ l[j] < x.size:=fun g1 g2 j hjn hjk => by
   by_cases hjk' : j = k
   ·subst hjk'; exact ⟨g2,g1⟩
   ·exact hj j hjn (by omega)
  have bad : ¬ ((if k = 0 then -1 else l.getD (k - 1) 0) < l[k] ∧ l[k] < x.size) → ¬ Rises (-1) x.size l:=fun hb hR => hb (rises_get.1 hR k hkn)
  generalize l[k] = z at *
  generalize (if k = 0 then (-1 : Int) else l.getD (k - 1) 0) = last at *
  by_cases h1 : z ≤ last
  ·simp (disch:=omega) [-getElem?_pos,if_pos,if_neg,decide_eq_true,decide_eq_false,ir_inst_Inst_shaped_l0,e1,e32,e33,e34,e7,q1,q3,bc,h1,IntWalk.i64_in]
   exact ⟨rfl,.inr ⟨rfl,by simp,bad (by omega)⟩⟩
  ·by_cases h2 : z ≥ x.size
   ·simp (disch:=omega) [-getElem?_pos,if_pos,if_neg,decide_eq_true,decide_eq_false,ir_inst_Inst_shaped_l0,e1,e32,e33,e34,e7,q1,q3,bc,h1,h2,IntWalk.i64_in]
    exact ⟨rfl,.inr ⟨rfl,by simp,bad (by omega)⟩⟩
   ·simp (disch:=omega) [-getElem?_pos,if_pos,if_neg,decide_eq_true,decide_eq_false,ir_inst_Inst_shaped_l0,e1,e32,e33,e34,e7,q1,q3,bc,h1,h2,IntWalk.i64_in]
    exact ⟨hkn,rfl,by simp [e1],by simp [e32],by simp [e33],by simp,by simp [hg],key (by omega) (by omega)⟩
 ·obtain rfl : k = l.length:=by omega
  simp (disch:=omega) [-getElem?_pos,if_pos,if_neg,decide_eq_true,decide_eq_false,ir_inst_Inst_shaped_l0,e1,e32,e33,e34]
  exact ⟨rfl,.inl ⟨rfl,rises_get.2 fun j h => hj j h h⟩⟩
def ShC (H1 : AH) (q : Nat) (x : InstD) (sv : Value) (k : Nat) (env : Env) (H' : AH) : Prop :=
 WF H' ∧ Keep [] H1 H' ∧ env 1 = some (.pointer (some ⟨q,0,none⟩)) ∧ env 25 = some sv ∧ env 26 = some (.int .i64 x.sets.length) ∧ env 27 = some (.int .i64 k) ∧ ∀ j (h : j < x.sets.length),j < k → Rises (-1) x.size x.sets[j].elems
def ShCQ (x : InstD) (e : AExit) (env : Env) (H' : AH) : Prop :=
 (e = .exit 2 ∧ ∀ j (h : j < x.sets.length),Rises (-1) x.size x.sets[j].elems) ∨ (e = .ret ∧ env 2 = some (.bool false) ∧ ¬ x.Shaped)
theorem shaped_l1 (hw : WF H1) (b : Bx H1 q x iv cv sv) {env : Env} (h : ShC H1 q x sv 0 env H1) : wpC Tryd.prog 50 (.loop ir_inst_Inst_shaped_l1) (ShCQ x) env H1:=by
 refine loop_upto x.sets.length (ShC H1 q x sv) (Q:=ShCQ x) h ?_
 rintro k env H' hk ⟨w',k',e1,e25,e26,e27,hj⟩
 by_cases hkn : k < x.sets.length
 ·have b':=b.kept hw k'
  have hmax:=b.s.max
  obtain ⟨b0,off,sp,cap,cs,hsv,q1,q2⟩:=sets_rd b'.s (by omega)
  obtain ⟨w,q3,q4,q5,q6,q7⟩:=q2 k hkn
  obtain ⟨aw,cw,rfl⟩:=q7.slice
  subst hsv
  have bad : ¬ Rises (-1) x.size x.sets[k].elems → ¬ x.Shaped:=fun hb hc => hb (hc.sets k hkn)
  have key : Rises (-1) x.size x.sets[k].elems → ∀ j (h : j < x.sets.length),j < k + 1 → Rises (-1) x.size x.sets[j].elems:=fun hr j hjn hjk => by
   by_cases hjk' : j = k
   ·subst hjk'; exact hr
   ·exact hj j hjn (by omega)
  generalize x.sets[k].elems = l at *
  generalize x.sets[k].cost = c at *
  have hk2 : Keep [] H' (H'.alloc (.row [.int .i64 c,.slice aw l.length cw] T_inst_Set true)):=.alloc
  simp (disch:=omega) [-getElem?_pos,if_pos,if_neg,decide_eq_true,decide_eq_false,ir_inst_Inst_shaped_l1,e1,e25,e26,e27,q1,q3,writeA,over,IntWalk.i64_in]
  have b2:=b'.kept w' hk2
  have hl2:=q7.kept w' hk2
  have w2:=WF.alloc w' (B:=.row [.int .i64 c,.slice aw l.length cw] T_inst_Set true)
  have k2:=k'.trans' hk2
  generalize H'.alloc (.row [.int .i64 c,.slice aw l.length cw] T_inst_Set true) = H2 at *
  refine wpC_use (shaped_l0 b2 hl2 ⟨rfl,by simp [e1],by simp,by simp,by simp,by simp,by omega⟩) ?_
  rintro e env2 H3 ⟨rfl,⟨rfl,hr⟩ | ⟨rfl,e2,hr⟩⟩ hu
  ·have u1:=hu 1 (by decide)
   have u25:=hu 25 (by decide)
   have u26:=hu 26 (by decide)
   have u27:=hu 27 (by decide)
   simp (disch:=omega) [-getElem?_pos,if_pos,if_neg,decide_eq_true,decide_eq_false,u1,u25,u26,u27,e1,e25,e26,e27,IntWalk.i64_in]
   exact ⟨hkn,w2,k2,by simp [u1,e1],by simp [u25,e25],by simp [u26,e26],by simp,key hr⟩
  ·simp (disch:=omega) [-getElem?_pos,if_pos,if_neg,decide_eq_true,decide_eq_false,]
   exact .inr ⟨rfl,e2,bad hr⟩
 ·obtain rfl : k = x.sets.length:=by omega
  simp (disch:=omega) [-getElem?_pos,if_pos,if_neg,decide_eq_true,decide_eq_false,ir_inst_Inst_shaped_l1,e1,e25,e26,e27]
  exact .inl ⟨rfl,fun j h => hj j h h⟩
end
section
variable {p : Nat → Prop} {H : AH} {v : Value} {x : InstD}
theorem Shaped_spec (hx : InstV p H v x) : AFn Tryd.prog F_inst_Inst_shaped [v] H fun u H' => u = .bool (tr x.Shaped) ∧ H' = H:=by
 refine AFn.calm (fun H0 hs => ?_) rfl
 obtain ⟨iv,cv,sv,rfl,_,_,_,h1,h2,h3⟩:=hx.same hs
 refine AFn.enter mixed ir_inst_Inst_shaped_eq (by simp [ir_inst_Inst_shaped]) fun hw => ?_
 have b:=Bx.make (t:=T_inst_Inst) hw h1 h2 h3
 have w1:=WF.alloc hw (B:=.row (instC x iv cv sv) T_inst_Inst true)
 have bc:=b.c
 obtain ⟨a2,c2,rfl⟩:=h2.slice
 obtain ⟨a3,c3,rfl⟩:=h3.slice
 generalize hq : H0.next = q at *
 simp (disch:=omega) [-getElem?_pos,if_pos,if_neg,decide_eq_true,decide_eq_false,ir_inst_Inst_shaped,hq]
 generalize H0.alloc (.row (instC x iv (.slice a2 x.cost.length c2) (.slice a3 x.sets.length c3)) T_inst_Inst true) = H1 at *
 refine wpC_use (shaped_l2 b ⟨rfl,by simp,by simp,by simp,by simp,by omega⟩) ?_
 rintro e env2 H3 ⟨rfl,⟨rfl,hr⟩ | ⟨rfl,e2,hr⟩⟩ hu
 ·have u1:=hu 1 (by decide)
  simp (disch:=omega) [-getElem?_pos,if_pos,if_neg,decide_eq_true,decide_eq_false,u1,bc]
  refine wpC_use (shaped_l1 w1 b ⟨w1,.refl,by simp [u1],by simp,by simp,by simp,by omega⟩) ?_
  rintro e env3 H4 (⟨rfl,hr2⟩ | ⟨rfl,e2,hr2⟩) hu2
  ·simp (disch:=omega) [-getElem?_pos,if_pos,if_neg,decide_eq_true,decide_eq_false,]
   exact tr_true ⟨hr,hr2⟩
  ·simp (disch:=omega) [-getElem?_pos,if_pos,if_neg,decide_eq_true,decide_eq_false,e2]
   exact tr_false hr2
 ·simp (disch:=omega) [-getElem?_pos,if_pos,if_neg,decide_eq_true,decide_eq_false,e2]
  exact tr_false hr
end
end Go.Proofs.YtejifalflkbekaaDoor
