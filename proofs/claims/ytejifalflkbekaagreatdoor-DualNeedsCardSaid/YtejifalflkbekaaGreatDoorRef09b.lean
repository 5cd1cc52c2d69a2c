/-
  The document's instance: Check, N.
-/
import Derived.Test.YtejifalflkbekaaGreatDoorRef09a
set_option maxRecDepth 100000
set_option linter.unusedSimpArgs false
set_option linter.unusedVariables false
namespace Go.Proofs.YtejifalflkbekaaGreatDoor
open Go Go.Abs
def hdC : ACode → ACode
 | .seq a _ => a
 | c => c
def tlC : ACode → ACode
 | .seq _ b => b
 | c => c
section
variable {H1 : AH} {q : Nat} {x : InstD} {iv cv sv : Value}
def C3I (H1 : AH) (q : Nat) (x : InstD) (k : Nat) (env : Env) (H' : AH) : Prop :=
 H' = H1 ∧ env 1 = some (.pointer (some ⟨q,0,none⟩)) ∧ env 4 = some (.int .i64 k) ∧ ∀ j (h : j < x.cost.length),j < k → x.cost[j].length = x.cost.length
def C3Q (H1 : AH) (x : InstD) (e : AExit) (env : Env) (H' : AH) : Prop :=
 H' = H1 ∧ ((e = .exit 0 ∧ ∀ j (h : j < x.cost.length),x.cost[j].length = x.cost.length) ∨ (e = .ret ∧ env 2 = some (.int .i64 4) ∧ ¬ x.Shaped))
theorem check9_l3 (b : Bx H1 q x iv cv sv) {env : Env} (h : C3I H1 q x 0 env H1) : wpC Tryz.prog 192 (.loop ir_ref09_Check_l3) (C3Q H1 x) env H1:=by
 refine loop_upto x.cost.length (C3I H1 q x) (Q:=C3Q H1 x) h ?_
 rintro k env H' hk ⟨rfl,e1,e4,hj⟩
 have hmax:=b.m.max
 have bc:=b.c
 by_cases hkn : k < x.cost.length
 ·obtain ⟨b0,off,sp,cap,cs,hcv,q1,q2⟩:=rows_rd b.m (by omega)
  obtain ⟨w,q3,q4⟩:=q2 k hkn
  obtain ⟨aw,cw,rfl⟩:=q4.slice
  subst hcv
  by_cases hr : x.cost[k].length = x.cost.length
  ·simp (disch:=omega) [-getElem?_pos,if_pos,if_neg,decide_eq_true,decide_eq_false,ir_ref09_Check_l3,e1,e4,q1,q3,bc,hr,IntWalk.i64_in]
   refine ⟨hkn,rfl,by simp [e1],by simp,fun j hjn hjk => ?_⟩
   by_cases hjk' : j = k
   ·subst hjk'; exact hr
   ·exact hj j hjn (by omega)
  ·simp (disch:=omega) [-getElem?_pos,if_pos,if_neg,decide_eq_true,decide_eq_false,ir_ref09_Check_l3,e1,e4,q1,q3,bc,hr,IntWalk.i64_in]
   exact ⟨rfl,.inr ⟨rfl,by simp,fun hc => hr (hc.rows k hkn)⟩⟩
 ·obtain rfl : k = x.cost.length:=by omega
  obtain ⟨a,cc,hcv⟩:=b.m.slice
  subst hcv
  simp (disch:=omega) [-getElem?_pos,if_pos,if_neg,decide_eq_true,decide_eq_false,ir_ref09_Check_l3,e1,e4,bc]
  exact ⟨rfl,.inl ⟨rfl,fun j h => hj j h h⟩⟩
def C1I (H1 : AH) (q : Nat) (ev : Value) (l : List Int) (n : Int) (k : Nat) (env : Env) (H' : AH) : Prop :=
 H' = H1 ∧ env 1 = some (.pointer (some ⟨q,0,none⟩)) ∧ env 6 = some ev ∧ env 7 = some (.int .i64 k) ∧
  ∀ j (h : j < l.length),j < k → ((if j = 0 then -1 else l.getD (j - 1) 0) < l[j] ∧ l[j] < n) ∧ 0 ≤ l[j]
def C1Q (H1 : AH) (l : List Int) (n : Int) (e : AExit) (env : Env) (H' : AH) : Prop :=
 H' = H1 ∧ ((e = .exit 4 ∧ Rises (-1) n l) ∨ (e = .ret ∧ env 2 = some (.int .i64 4) ∧ ¬ Rises (-1) n l))
theorem check9_l1 (b : Bx H1 q x iv cv sv) {ev : Value} {l : List Int} (hl : SlV Ty H1 ev l) {env : Env} (h : C1I H1 q ev l x.size 0 env H1) : wpC Tryz.prog 192 (.loop ir_ref09_Check_l1) (C1Q H1 l x.size) env H1:=by
 refine loop_upto l.length (C1I H1 q ev l x.size) (Q:=C1Q H1 l x.size) h ?_
 rintro k env H' hk ⟨rfl,e1,e6,e7,hj⟩
 have hmax:=hl.max
 have bc:=b.c
 by_cases hkn : k < l.length
 ·obtain ⟨b0,off,sp,cap,cs,hcv,q1,q2⟩:=ints_rd hl (by omega)
  obtain ⟨q3,q4⟩:=q2 k hkn
  subst hcv
  have key : (if k = 0 then -1 else l.getD (k - 1) 0) < l[k] → l[k] < x.size → 0 ≤ l[k] → ∀ j (h : j < l.length),j < k + 1 → ((if j = 0 then -1 else l.getD (j - 1) 0) < l[j] ∧ l[j] < x.size) ∧ 0 ≤ l[j]:=fun g1 g2 g3 j hjn hjk => by
   by_cases hjk' : j = k
   ·subst hjk'; exact ⟨⟨g1,g2⟩,g3⟩
   ·exact hj j hjn (by omega)
  have bad : ¬ ((if k = 0 then -1 else l.getD (k - 1) 0) < l[k] ∧ l[k] < x.size) → ¬ Rises (-1) x.size l:=fun hb hR => hb (rises_get.1 hR k hkn)
  by_cases hk0 : k = 0
  ·subst hk0
   simp only [if_true] at key bad
   simp only [Nat.add_zero] at q3
   generalize l[0] = z at *
   by_cases h1 : z < 0
   ·simp (disch:=omega) [-getElem?_pos,if_pos,if_neg,decide_eq_true,decide_eq_false,ir_ref09_Check_l1,e1,e6,e7,q1,q3,bc,h1,hkn,IntWalk.i64_in]
    exact ⟨rfl,.inr ⟨rfl,by simp,bad (by omega)⟩⟩
   ·by_cases h2 : x.size ≤ z
    ·simp (disch:=omega) [-getElem?_pos,if_pos,if_neg,decide_eq_true,decide_eq_false,ir_ref09_Check_l1,e1,e6,e7,q1,q3,bc,h1,h2,hkn,IntWalk.i64_in]
     exact ⟨rfl,.inr ⟨rfl,by simp,bad (by omega)⟩⟩
    ·simp (disch:=omega) [-getElem?_pos,if_pos,if_neg,decide_eq_true,decide_eq_false,ir_ref09_Check_l1,e1,e6,e7,q1,q3,bc,h1,h2,hkn,IntWalk.i64_in]
     exact ⟨rfl,by simp [e1],by simp [e6],by simp,key (by omega) (by omega) (by omega)⟩
  ·obtain ⟨m,rfl⟩ : ∃ m,k = m + 1:=⟨k - 1,by omega⟩
   obtain ⟨r3,r4⟩:=q2 m (by omega)
   have hg : l.getD (m + 1 - 1) 0 = l[m]:=by simp; rw [List.getElem?_eq_getElem (by omega)]; rfl
   have h0:=(hj m (by omega) (by omega)).2
   simp only [Nat.succ_ne_zero,if_false] at key bad
   rw [hg] at key bad
   have hm1 : (((m + 1 : Nat) : Int) - 1).toNat = m:=by omega
   generalize l[m + 1] = z at *
   generalize l[m] = y at *
   by_cases h1 : z < 0
   ·simp (disch:=omega) [-getElem?_pos,if_pos,if_neg,decide_eq_true,decide_eq_false,ir_ref09_Check_l1,e1,e6,e7,q1,q3,bc,h1,hkn,IntWalk.i64_in]
    exact ⟨rfl,.inr ⟨rfl,by simp,bad (by omega)⟩⟩
   ·by_cases h2 : x.size ≤ z
    ·simp (disch:=omega) [-getElem?_pos,if_pos,if_neg,decide_eq_true,decide_eq_false,ir_ref09_Check_l1,e1,e6,e7,q1,q3,bc,h1,h2,hkn,IntWalk.i64_in]
     exact ⟨rfl,.inr ⟨rfl,by simp,bad (by omega)⟩⟩
    ·by_cases h3 : z ≤ y
     ·simp (disch:=omega) [-getElem?_pos,if_pos,if_neg,decide_eq_true,decide_eq_false,ir_ref09_Check_l1,e1,e6,e7,q1,q3,r3,bc,h1,h2,h3,hkn,hm1,IntWalk.i64_in]
      exact ⟨rfl,.inr ⟨rfl,by simp,bad (by omega)⟩⟩
     ·simp (disch:=omega) [-getElem?_pos,if_pos,if_neg,decide_eq_true,decide_eq_false,ir_ref09_Check_l1,e1,e6,e7,q1,q3,r3,bc,h1,h2,h3,hkn,hm1,IntWalk.i64_in]
      exact ⟨rfl,by simp [e1],by simp [e6],by simp,key (by omega) (by omega) (by omega)⟩
 ·obtain rfl : k = l.length:=by omega
  obtain ⟨a,cc,hcv⟩:=hl.slice
  subst hcv
  simp (disch:=omega) [-getElem?_pos,if_pos,if_neg,decide_eq_true,decide_eq_false,ir_ref09_Check_l1,e1,e6,e7]
  exact ⟨rfl,.inl ⟨rfl,rises_get.2 fun j h => (hj j h h).1⟩⟩
def C2I (H1 : AH) (q : Nat) (x : InstD) (k : Nat) (env : Env) (H' : AH) : Prop :=
 H' = H1 ∧ env 1 = some (.pointer (some ⟨q,0,none⟩)) ∧ env 5 = some (.int .i64 k) ∧ ∀ j (h : j < x.sets.length),j < k → Rises (-1) x.size x.sets[j].elems
def C2Q (H1 : AH) (x : InstD) (e : AExit) (env : Env) (H' : AH) : Prop :=
 H' = H1 ∧ ((e = .exit 2 ∧ ∀ j (h : j < x.sets.length),Rises (-1) x.size x.sets[j].elems) ∨ (e = .ret ∧ env 2 = some (.int .i64 4) ∧ ¬ x.Shaped))
theorem check9_l2 (b : Bx H1 q x iv cv sv) {env : Env} (h : C2I H1 q x 0 env H1) : wpC Tryz.prog 192 (.loop ir_ref09_Check_l2) (C2Q H1 x) env H1:=by
 refine loop_upto x.sets.length (C2I H1 q x) (Q:=C2Q H1 x) h ?_
 rintro k env H' hk ⟨rfl,e1,e5,hj⟩
 have hmax:=b.s.max
 have bc:=b.c
 by_cases hkn : k < x.sets.length
 ·obtain ⟨b0,off,sp,cap,cs,hsv,q1,q2⟩:=sets_rd b.s (by omega)
  obtain ⟨w,q3,q4,q5,q6,q7⟩:=q2 k hkn
  have hw:=q7.cell
  subst hsv
  have key : Rises (-1) x.size x.sets[k].elems → ∀ j (h : j < x.sets.length),j < k + 1 → Rises (-1) x.size x.sets[j].elems:=fun hr j hjn hjk => by
   by_cases hjk' : j = k
   ·subst hjk'; exact hr
   ·exact hj j hjn (by omega)
  simp (disch:=omega) [-getElem?_pos,if_pos,if_neg,decide_eq_true,decide_eq_false,ir_ref09_Check_l2,e1,e5,q1,q5,bc,hkn,IntWalk.i64_in]
  refine wpC_use (check9_l1 b q7 ⟨rfl,by simp [e1],by simp,by simp,by omega⟩) ?_
  rintro e env2 H3 ⟨rfl,⟨rfl,hr⟩ | ⟨rfl,e2,hr⟩⟩ hu
  ·have u1:=hu 1 (by decide)
   have u5:=hu 5 (by decide)
   simp (disch:=omega) [-getElem?_pos,if_pos,if_neg,decide_eq_true,decide_eq_false,u1,u5,e1,e5,IntWalk.i64_in]
   exact ⟨hkn,rfl,by simp [u1,e1],by simp,key hr⟩
  ·simp (disch:=omega) [-getElem?_pos,if_pos,if_neg,decide_eq_true,decide_eq_false,]
   exact ⟨rfl,.inr ⟨rfl,e2,fun hc => hr (hc.sets k hkn)⟩⟩
 ·obtain rfl : k = x.sets.length:=by omega
  obtain ⟨a,cc,hsv⟩:=b.s.slice
  subst hsv
  simp (disch:=omega) [-getElem?_pos,if_pos,if_neg,decide_eq_true,decide_eq_false,ir_ref09_Check_l2,e1,e5,bc]
  exact ⟨rfl,.inl ⟨rfl,fun j h => hj j h h⟩⟩
def C0I (H1 : AH) (q : Nat) (x : InstD) (k : Nat) (env : Env) (H' : AH) : Prop :=
 H' = H1 ∧ env 1 = some (.pointer (some ⟨q,0,none⟩)) ∧ env 9 = some (.int .i64 k) ∧ ∀ j (h : j < x.cost.length),j < k → x.kind = 2 → x.cost[j].getD j 0 = 0
def C0Q (H1 : AH) (x : InstD) (e : AExit) (env : Env) (H' : AH) : Prop :=
 (e = .exit 6 ∧ x.Bare) ∨ (e = .ret ∧ env 2 = some (.int .i64 4) ∧ ¬ x.Bare)
theorem check9_l0 (b : Bx H1 q x iv cv sv) (hs : x.Shaped) {env : Env} (h : C0I H1 q x 0 env H1) : wpC Tryz.prog 192 (.loop ir_ref09_Check_l0) (C0Q H1 x) env H1:=by
 refine loop_upto x.cost.length (C0I H1 q x) (Q:=C0Q H1 x) h ?_
 rintro k env H' hk ⟨rfl,e1,e9,hj⟩
 have hmax:=b.m.max
 have bc:=b.c
 by_cases h2 : x.kind = 2
 ·by_cases hkn : k < x.cost.length
  ·obtain ⟨b0,off,sp,cap,cs,hcv,q1,q2⟩:=rows_rd b.m (by omega)
   obtain ⟨w,q3,q4⟩:=q2 k hkn
   subst hcv
   have key : (x.kind = 2 → x.cost[k].getD k 0 = 0) → ∀ j (h : j < x.cost.length),j < k + 1 → x.kind = 2 → x.cost[j].getD j 0 = 0:=fun hr j hjn hjk h2 => by
    by_cases hjk' : j = k
    ·subst hjk'; exact hr h2
    ·exact hj j hjn (by omega) h2
   have hlen:=hs.rows k hkn
   have bad : x.cost[k].getD k 0 ≠ 0 → ¬ x.Bare:=fun h hb => h (hb h2 k hkn)
   obtain ⟨b1,off1,sp1,cap1,cs1,hcv1,g1,g2⟩:=ints_rd q4 (by omega)
   obtain ⟨g3,g4⟩:=g2 k (by omega)
   cases hcv1
   have hg : x.cost[k].getD k 0 = x.cost[k][k]:=by simp [hlen,hkn]
   rw [hg] at key bad
   generalize x.cost[k][k] = z at *
   by_cases hz : z = 0
   ·simp (disch:=omega) [-getElem?_pos,if_pos,if_neg,decide_eq_true,decide_eq_false,ir_ref09_Check_l0,e1,e9,q1,q3,bc,h2,g1,g3,hz,hlen,hkn,IntWalk.i64_in]
    exact ⟨rfl,by simp [e1],by simp,key fun _ => hz⟩
   ·simp (disch:=omega) [-getElem?_pos,if_pos,if_neg,decide_eq_true,decide_eq_false,ir_ref09_Check_l0,e1,e9,q1,q3,bc,h2,g1,g3,hz,hlen,hkn,IntWalk.i64_in]
    exact .inr ⟨rfl,by simp,bad hz⟩
  ·obtain rfl : k = x.cost.length:=by omega
   obtain ⟨a,cc,hcv⟩:=b.m.slice
   subst hcv
   simp (disch:=omega) [-getElem?_pos,if_pos,if_neg,decide_eq_true,decide_eq_false,ir_ref09_Check_l0,e1,e9,bc,h2]
   exact .inl ⟨rfl,fun h2 j h => hj j h h h2⟩
 ·obtain ⟨a,cc,hcv⟩:=b.m.slice
  subst hcv
  by_cases hkn : k < x.cost.length
  ·simp (disch:=omega) [-getElem?_pos,if_pos,if_neg,decide_eq_true,decide_eq_false,ir_ref09_Check_l0,e1,e9,bc,h2,hkn]
   exact .inl ⟨rfl,fun h => absurd h h2⟩
  ·simp (disch:=omega) [-getElem?_pos,if_pos,if_neg,decide_eq_true,decide_eq_false,ir_ref09_Check_l0,e1,e9,bc,h2,hkn]
   exact .inl ⟨rfl,fun h => absurd h h2⟩
end
end Go.Proofs.YtejifalflkbekaaGreatDoor
