/-
  Contracts of package inst (3): small, bare, Check, N.
-/
import Derived.Test.YtejifalflkbekaaDoorInst2
set_option maxRecDepth 100000
set_option linter.unusedSimpArgs false
set_option linter.unusedVariables false
namespace Go.Proofs.YtejifalflkbekaaDoor
open Go Go.Abs
section
variable {H1 : AH} {q : Nat} {x : InstD} {iv cv sv : Value}
/-! ### small -/
def SmA (H1 : AH) (q : Nat) (x : InstD) (iv : Value) (k : Nat) (env : Env) (H' : AH) : Prop :=
 WF H' ∧ Keep [] H1 H' ∧ env 1 = some (.pointer (some ⟨q,0,none⟩)) ∧ env 16 = some iv ∧ env 17 = some (.int .i64 x.items.length) ∧ env 18 = some (.int .i64 k) ∧
  ∃ b,env 3 = some (.bool b) ∧ (b = true ↔ Mag 0 x.cap ∧ ∀ j (h : j < x.items.length),j < k → Mag 0 x.items[j].1 ∧ Mag 0 x.items[j].2)
def SmAQ (H1 : AH) (x : InstD) (e : AExit) (env : Env) (H' : AH) : Prop :=
 WF H' ∧ Keep [] H1 H' ∧ e = .exit 0 ∧ ∃ b,env 3 = some (.bool b) ∧ (b = true ↔ Mag 0 x.cap ∧ ∀ j (h : j < x.items.length),Mag 0 x.items[j].1 ∧ Mag 0 x.items[j].2)
theorem small_l3 (hw : WF H1) (b : Bx H1 q x iv cv sv) {env : Env} (h : SmA H1 q x iv 0 env H1) : wpC Tryd.prog 69 (.loop ir_inst_Inst_small_l3) (SmAQ H1 x) env H1:=by
 refine loop_upto x.items.length (SmA H1 q x iv) (Q:=SmAQ H1 x) h ?_
 rintro k env H' hk ⟨w',k',e1,e16,e17,e18,t,e3,ht⟩
 by_cases hkn : k < x.items.length
 ·have hmax:=b.i.max
  have b':=b.kept hw k'
  obtain ⟨b0,off,sp,cap,cs,hiv,q1,q2⟩:=pairs_rd b'.i (by omega)
  obtain ⟨q3,q4,q5,q6,q7⟩:=q2 k hkn
  subst hiv
  have key : (Mag 0 x.cap ∧ ∀ j (h : j < x.items.length),j < k + 1 → Mag 0 x.items[j].1 ∧ Mag 0 x.items[j].2) ↔ (t = true ∧ Mag 0 x.items[k].1 ∧ Mag 0 x.items[k].2):=by
   rw [ht]
   constructor
   ·exact fun ⟨h1,h2⟩ => ⟨⟨h1,fun j hj hjk => h2 j hj (by omega)⟩,h2 k hkn (by omega)⟩
   ·rintro ⟨⟨h1,h2⟩,h3⟩
    refine ⟨h1,fun j hj hjk => ?_⟩
    by_cases hjk' : j = k
    ·subst hjk'; exact h3
    ·exact h2 j hj (by omega)
  generalize x.items[k] = y at *
  obtain ⟨y1,y2⟩:=y
  simp only at *
  have hk2 : Keep [] H' (H'.alloc (.row [.int .i64 y1,.int .i64 y2] T_inst_Item true)):=.alloc
  have w2:=WF.alloc w' (B:=.row [.int .i64 y1,.int .i64 y2] T_inst_Item true)
  have k2:=k'.trans' hk2
  cases t with
  | true =>
   simp (disch:=omega) [-getElem?_pos,if_pos,if_neg,decide_eq_true,decide_eq_false,ir_inst_Inst_small_l3,e1,e16,e17,e18,e3,q1,q3,writeA,over,IntWalk.i64_in]
   refine AFn.pure (from_spec _ _) ?_
   by_cases m1 : Mag 0 y1
   ·simp (disch:=omega) [-getElem?_pos,if_pos,if_neg,decide_eq_true,decide_eq_false,m1,e1,e16,e17,e18,q1,writeA,over,IntWalk.i64_in]
    refine AFn.pure (from_spec _ _) ?_
    simp (disch:=omega) [-getElem?_pos,if_pos,if_neg,decide_eq_true,decide_eq_false,e1,e16,e17,e18,IntWalk.i64_in]
    exact ⟨hkn,w2,k2,by simp [e1],by simp [e16],by simp [e17],by simp,_,(by simp; rfl),by rw [key]; simp [m1]⟩
   ·simp (disch:=omega) [-getElem?_pos,if_pos,if_neg,decide_eq_true,decide_eq_false,m1,e1,e16,e17,e18,q1,writeA,over,IntWalk.i64_in]
    exact ⟨hkn,w2,k2,by simp [e1],by simp [e16],by simp [e17],by simp,_,(by simp; rfl),by rw [key]; simp [m1]⟩
  | false =>
   simp (disch:=omega) [-getElem?_pos,if_pos,if_neg,decide_eq_true,decide_eq_false,ir_inst_Inst_small_l3,e1,e16,e17,e18,e3,q1,q3,writeA,over,IntWalk.i64_in]
   exact ⟨hkn,w2,k2,by simp [e1],by simp [e16],by simp [e17],by simp,_,(by simp; rfl),by rw [key]; simp⟩
 ·obtain rfl : k = x.items.length:=by omega
  simp (disch:=omega) [-getElem?_pos,if_pos,if_neg,decide_eq_true,decide_eq_false,ir_inst_Inst_small_l3,e1,e16,e17,e18]
  exact ⟨w',k',rfl,t,e3,ht.trans (and_congr_right fun _ => ⟨fun h j hj => h j hj hj,fun h j hj _ => h j hj⟩)⟩
def RowsTo (x : InstD) (k m : Nat) : Prop:=∀ i (h : i < x.cost.length),∀ j (h : j < x.cost[i].length),(i < k ∨ i = k ∧ j < m) → Mag (-2147483648) x.cost[i][j]
theorem rowsTo_next {x : InstD} {k : Nat} (h : k < x.cost.length) : RowsTo x k x.cost[k].length ↔ RowsTo x (k + 1) 0 :=
 ⟨fun hr i hi j hj hlt => hr i hi j hj (by
   rcases hlt with hlt | ⟨_,hlt⟩
   ·by_cases hik : i = k
    ·subst hik; exact .inr ⟨rfl,hj⟩
    ·exact .inl (by omega)
   ·omega),fun hr i hi j hj hlt => hr i hi j hj (.inl (by omega))⟩
theorem rowsTo_step {x : InstD} {k m : Nat} (h : k < x.cost.length) (hm : m < x.cost[k].length) : RowsTo x k (m + 1) ↔ RowsTo x k m ∧ Mag (-2147483648) x.cost[k][m]:=by
 constructor
 ·exact fun hr => ⟨fun i hi j hj hlt => hr i hi j hj (by omega),hr k h m hm (.inr ⟨rfl,by omega⟩)⟩
 ·rintro ⟨h1,h2⟩ i hi j hj hlt
  by_cases hik : i = k ∧ j = m
  ·obtain ⟨rfl,rfl⟩:=hik; exact h2
  ·exact h1 i hi j hj (by omega)
theorem rowsTo_zero {x : InstD} : RowsTo x 0 0:=fun i hi j hj h => by omega
theorem rowsTo_all {x : InstD} {k : Nat} (hk : x.cost.length ≤ k) : RowsTo x k 0 ↔ ∀ i (h : i < x.cost.length),∀ j (h : j < x.cost[i].length),Mag (-2147483648) x.cost[i][j] :=
 ⟨fun h i hi j hj => h i hi j hj (.inl (by omega)),fun h i hi j hj _ => h i hi j hj⟩
def SmB (H2 : AH) (rv : Value) (n : Nat) (c : Prop) (x : InstD) (k : Nat) (m : Nat) (env : Env) (H' : AH) : Prop :=
 H' = H2 ∧ env 41 = some rv ∧ env 42 = some (.int .i64 n) ∧ env 43 = some (.int .i64 m) ∧ ∃ b,env 3 = some (.bool b) ∧ (b = true ↔ c ∧ RowsTo x k m)
def SmBQ (H2 : AH) (c : Prop) (x : InstD) (k : Nat) (e : AExit) (env : Env) (H' : AH) : Prop :=
 H' = H2 ∧ e = .exit 4 ∧ ∃ b,env 3 = some (.bool b) ∧ (b = true ↔ c ∧ RowsTo x (k + 1) 0)
theorem small_l1 {H2 : AH} {rv : Value} {k : Nat} (hk : k < x.cost.length) {c : Prop} (hl : SlV Ty H2 rv x.cost[k]) {env : Env} (h : SmB H2 rv x.cost[k].length c x k 0 env H2) : wpC Tryd.prog 69 (.loop ir_inst_Inst_small_l1) (SmBQ H2 c x k) env H2:=by
 refine loop_upto x.cost[k].length (SmB H2 rv x.cost[k].length c x k) (Q:=SmBQ H2 c x k) h ?_
 rintro m env H' hm ⟨rfl,e41,e42,e43,t,e3,ht⟩
 by_cases hmn : m < x.cost[k].length
 ·have hmax:=hl.max
  obtain ⟨b0,off,sp,cap,cs,hiv,q1,q2⟩:=ints_rd hl (by omega)
  obtain ⟨q3,q4⟩:=q2 m hmn
  subst hiv
  have key:=rowsTo_step hk hmn
  generalize x.cost[k][m] = z at *
  cases t with
  | true =>
   simp (disch:=omega) [-getElem?_pos,if_pos,if_neg,decide_eq_true,decide_eq_false,ir_inst_Inst_small_l1,e41,e42,e43,e3,q1,q3,IntWalk.i64_in]
   refine AFn.pure (from_spec _ _) ?_
   simp (disch:=omega) [-getElem?_pos,if_pos,if_neg,decide_eq_true,decide_eq_false,e41,e42,e43,IntWalk.i64_in]
   refine ⟨hmn,rfl,by simp [e41],by simp [e42],by simp,_,(by simp; rfl),?_⟩
   rw [key,← and_assoc,← ht]; simp
  | false =>
   simp (disch:=omega) [-getElem?_pos,if_pos,if_neg,decide_eq_true,decide_eq_false,ir_inst_Inst_small_l1,e41,e42,e43,e3,q1,q3,IntWalk.i64_in]
   refine ⟨hmn,rfl,by simp [e41],by simp [e42],by simp,_,(by simp; rfl),?_⟩
   rw [key,← and_assoc,← ht]; simp
 ·obtain rfl : m = x.cost[k].length:=by omega
  have key:=rowsTo_next hk
  generalize x.cost[k].length = n at *
  simp (disch:=omega) [-getElem?_pos,if_pos,if_neg,decide_eq_true,decide_eq_false,ir_inst_Inst_small_l1,e41,e42,e43]
  exact ⟨rfl,rfl,t,e3,by rw [ht,key]⟩
def SmC (H1 : AH) (cv : Value) (c : Prop) (x : InstD) (k : Nat) (env : Env) (H' : AH) : Prop :=
 H' = H1 ∧ env 35 = some cv ∧ env 36 = some (.int .i64 x.cost.length) ∧ env 37 = some (.int .i64 k) ∧ ∃ b,env 3 = some (.bool b) ∧ (b = true ↔ c ∧ RowsTo x k 0)
def SmCQ (H1 : AH) (c : Prop) (x : InstD) (e : AExit) (env : Env) (H' : AH) : Prop :=
 H' = H1 ∧ e = .exit 2 ∧ ∃ b,env 3 = some (.bool b) ∧ (b = true ↔ c ∧ RowsTo x x.cost.length 0)
theorem small_l2 (b : Bx H1 q x iv cv sv) {c : Prop} {env : Env} (h : SmC H1 cv c x 0 env H1) : wpC Tryd.prog 69 (.loop ir_inst_Inst_small_l2) (SmCQ H1 c x) env H1:=by
 refine loop_upto x.cost.length (SmC H1 cv c x) (Q:=SmCQ H1 c x) h ?_
 rintro k env H' hk ⟨rfl,e35,e36,e37,t,e3,ht⟩
 by_cases hkn : k < x.cost.length
 ·have hmax:=b.m.max
  obtain ⟨b0,off,sp,cap,cs,hcv,q1,q2⟩:=rows_rd b.m (by omega)
  obtain ⟨w,q3,q4⟩:=q2 k hkn
  obtain ⟨aw,cw,rfl⟩:=q4.slice
  subst hcv
  simp (disch:=omega) [-getElem?_pos,if_pos,if_neg,decide_eq_true,decide_eq_false,ir_inst_Inst_small_l2,e35,e36,e37,q1,q3,IntWalk.i64_in]
  refine wpC_use (small_l1 (c:=c) hkn q4 ⟨rfl,by simp,by simp,by simp,t,by simp [e3],ht⟩) ?_
  rintro e env2 H3 ⟨rfl,rfl,t2,e3',ht2⟩ hu
  have u35:=hu 35 (by decide)
  have u36:=hu 36 (by decide)
  have u37:=hu 37 (by decide)
  simp (disch:=omega) [-getElem?_pos,if_pos,if_neg,decide_eq_true,decide_eq_false,u35,u36,u37,e35,e36,e37,IntWalk.i64_in]
  exact ⟨hkn,rfl,by simp [u35,e35],by simp [u36,e36],by simp,t2,by simp [e3'],ht2⟩
 ·obtain rfl : k = x.cost.length:=by omega
  simp (disch:=omega) [-getElem?_pos,if_pos,if_neg,decide_eq_true,decide_eq_false,ir_inst_Inst_small_l2,e35,e36,e37]
  exact ⟨rfl,rfl,t,e3,ht⟩
def SmD (H1 : AH) (q : Nat) (sv : Value) (c : Prop) (x : InstD) (k : Nat) (env : Env) (H' : AH) : Prop :=
 WF H' ∧ Keep [] H1 H' ∧ env 55 = some sv ∧ env 56 = some (.int .i64 x.sets.length) ∧ env 57 = some (.int .i64 k) ∧ ∃ b,env 3 = some (.bool b) ∧ (b = true ↔ c ∧ ∀ j (h : j < x.sets.length),j < k → Mag 0 x.sets[j].cost)
def SmDQ (c : Prop) (x : InstD) (e : AExit) (env : Env) (H' : AH) : Prop :=
 e = .exit 6 ∧ ∃ b,env 3 = some (.bool b) ∧ (b = true ↔ c ∧ ∀ j (h : j < x.sets.length),Mag 0 x.sets[j].cost)
theorem small_l0 (hw : WF H1) (b : Bx H1 q x iv cv sv) {c : Prop} {env : Env} (h : SmD H1 q sv c x 0 env H1) : wpC Tryd.prog 69 (.loop ir_inst_Inst_small_l0) (SmDQ c x) env H1:=by
 refine loop_upto x.sets.length (SmD H1 q sv c x) (Q:=SmDQ c x) h ?_
 rintro k env H' hk ⟨w',k',e55,e56,e57,t,e3,ht⟩
 by_cases hkn : k < x.sets.length
 ·have b':=b.kept hw k'
  have hmax:=b.s.max
  obtain ⟨b0,off,sp,cap,cs,hsv,q1,q2⟩:=sets_rd b'.s (by omega)
  obtain ⟨w,q3,q4,q5,q6,q7⟩:=q2 k hkn
  subst hsv
  have key : (c ∧ ∀ j (h : j < x.sets.length),j < k + 1 → Mag 0 x.sets[j].cost) ↔ (t = true ∧ Mag 0 x.sets[k].cost):=by
   rw [ht]
   constructor
   ·exact fun ⟨h1,h2⟩ => ⟨⟨h1,fun j hj hjk => h2 j hj (by omega)⟩,h2 k hkn (by omega)⟩
   ·rintro ⟨⟨h1,h2⟩,h3⟩
    refine ⟨h1,fun j hj hjk => ?_⟩
    by_cases hjk' : j = k
    ·subst hjk'; exact h3
    ·exact h2 j hj (by omega)
  generalize x.sets[k].elems = l at *
  generalize x.sets[k].cost = y at *
  have hk2 : Keep [] H' (H'.alloc (.row [.int .i64 y,w] T_inst_Set true)):=.alloc
  have w2:=WF.alloc w' (B:=.row [.int .i64 y,w] T_inst_Set true)
  have k2:=k'.trans' hk2
  cases t with
  | true =>
   simp (disch:=omega) [-getElem?_pos,if_pos,if_neg,decide_eq_true,decide_eq_false,ir_inst_Inst_small_l0,e55,e56,e57,e3,q1,q3,writeA,over,IntWalk.i64_in]
   refine AFn.pure (from_spec _ _) ?_
   simp (disch:=omega) [-getElem?_pos,if_pos,if_neg,decide_eq_true,decide_eq_false,e55,e56,e57,IntWalk.i64_in]
   exact ⟨hkn,w2,k2,by simp [e55],by simp [e56],by simp,_,(by simp; rfl),by rw [key]; simp⟩
  | false =>
   simp (disch:=omega) [-getElem?_pos,if_pos,if_neg,decide_eq_true,decide_eq_false,ir_inst_Inst_small_l0,e55,e56,e57,e3,q1,q3,writeA,over,IntWalk.i64_in]
   exact ⟨hkn,w2,k2,by simp [e55],by simp [e56],by simp,_,(by simp; rfl),by rw [key]; simp⟩
 ·obtain rfl : k = x.sets.length:=by omega
  simp (disch:=omega) [-getElem?_pos,if_pos,if_neg,decide_eq_true,decide_eq_false,ir_inst_Inst_small_l0,e55,e56,e57]
  exact ⟨rfl,t,e3,ht.trans (and_congr_right fun _ => ⟨fun h j hj => h j hj hj,fun h j hj _ => h j hj⟩)⟩
/-! ### bare -/
def BrI (H1 : AH) (q : Nat) (x : InstD) (cv : Value) (k : Nat) (env : Env) (H' : AH) : Prop :=
 H' = H1 ∧ env 1 = some (.pointer (some ⟨q,0,none⟩)) ∧ env 6 = some cv ∧ env 7 = some (.int .i64 x.cost.length) ∧ env 8 = some (.int .i64 k) ∧ ∀ j (h : j < x.cost.length),j < k → x.kind = 2 → x.cost[j].getD j 0 = 0
def BrQ (x : InstD) (e : AExit) (env : Env) (H' : AH) : Prop :=
 (e = .exit 0 ∧ x.Bare) ∨ (e = .ret ∧ env 2 = some (.bool false) ∧ ¬ x.Bare)
theorem bare_l0 (b : Bx H1 q x iv cv sv) (hs : x.kind = 2 → x.Shaped) {env : Env} (h : BrI H1 q x cv 0 env H1) : wpC Tryd.prog 24 (.loop ir_inst_Inst_bare_l0) (BrQ x) env H1:=by
 refine loop_upto x.cost.length (BrI H1 q x cv) (Q:=BrQ x) h ?_
 rintro k env H' hk ⟨rfl,e1,e6,e7,e8,hj⟩
 by_cases hkn : k < x.cost.length
 ·have hmax:=b.m.max
  obtain ⟨b0,off,sp,cap,cs,hcv,q1,q2⟩:=rows_rd b.m (by omega)
  obtain ⟨w,q3,q4⟩:=q2 k hkn
  obtain ⟨aw,cw,rfl⟩:=q4.slice
  subst hcv
  have bc:=b.c
  have key : (x.kind = 2 → x.cost[k].getD k 0 = 0) → ∀ j (h : j < x.cost.length),j < k + 1 → x.kind = 2 → x.cost[j].getD j 0 = 0:=fun hr j hjn hjk h2 => by
   by_cases hjk' : j = k
   ·subst hjk'; exact hr h2
   ·exact hj j hjn (by omega) h2
  by_cases h2 : x.kind = 2
  ·have hlen:=(hs h2).rows k hkn
   have bad : x.cost[k].getD k 0 ≠ 0 → ¬ x.Bare:=fun h hb => h (hb h2 k hkn)
   obtain ⟨b1,off1,sp1,cap1,cs1,hcv1,g1,g2⟩:=ints_rd q4 (by omega)
   obtain ⟨g3,g4⟩:=g2 k (by omega)
   cases hcv1
   have hg : x.cost[k].getD k 0 = x.cost[k][k]:=by simp [hlen,hkn]
   rw [hg] at key bad
   generalize x.cost[k][k] = z at *
   by_cases hz : z = 0
   ·simp (disch:=omega) [-getElem?_pos,if_pos,if_neg,decide_eq_true,decide_eq_false,ir_inst_Inst_bare_l0,e1,e6,e7,e8,q1,q3,bc,h2,g1,g3,hz,hlen,IntWalk.i64_in]
    exact ⟨hkn,rfl,by simp [e1],by simp [e6],by simp [e7],by simp,key fun _ => hz⟩
   ·simp (disch:=omega) [-getElem?_pos,if_pos,if_neg,decide_eq_true,decide_eq_false,ir_inst_Inst_bare_l0,e1,e6,e7,e8,q1,q3,bc,h2,g1,g3,hz,hlen,IntWalk.i64_in]
    exact .inr ⟨rfl,by simp,bad hz⟩
  ·simp (disch:=omega) [-getElem?_pos,if_pos,if_neg,decide_eq_true,decide_eq_false,ir_inst_Inst_bare_l0,e1,e6,e7,e8,q1,q3,bc,h2,IntWalk.i64_in]
   exact ⟨hkn,rfl,by simp [e1],by simp [e6],by simp [e7],by simp,key fun h => absurd h h2⟩
 ·obtain rfl : k = x.cost.length:=by omega
  simp (disch:=omega) [-getElem?_pos,if_pos,if_neg,decide_eq_true,decide_eq_false,ir_inst_Inst_bare_l0,e1,e6,e7,e8]
  exact .inl ⟨rfl,fun h2 j h => hj j h h h2⟩
end
section
variable {p : Nat → Prop} {H : AH} {v : Value} {x : InstD}
theorem Small_spec (hx : InstV p H v x) : AFn Tryd.prog F_inst_Inst_small [v] H fun u H' => u = .bool (tr x.Small) ∧ H' = H:=by
 refine AFn.calm (fun H0 hs => ?_) rfl
 obtain ⟨iv,cv,sv,rfl,_,_,_,h1,h2,h3⟩:=hx.same hs
 refine AFn.enter mixed ir_inst_Inst_small_eq (by simp [ir_inst_Inst_small]) fun hw => ?_
 have b:=Bx.make (t:=T_inst_Inst) hw h1 h2 h3
 have w1:=WF.alloc hw (B:=.row (instC x iv cv sv) T_inst_Inst true)
 have bc:=b.c
 obtain ⟨a1,c1,rfl⟩:=h1.slice
 obtain ⟨a2,c2,rfl⟩:=h2.slice
 obtain ⟨a3,c3,rfl⟩:=h3.slice
 generalize hq : H0.next = q at *
 simp (disch:=omega) [-getElem?_pos,if_pos,if_neg,decide_eq_true,decide_eq_false,ir_inst_Inst_small,hq]
 generalize H0.alloc (.row (instC x (.slice a1 x.items.length c1) (.slice a2 x.cost.length c2) (.slice a3 x.sets.length c3)) T_inst_Inst true) = H1 at *
 refine AFn.pure (from_spec _ _) ?_
 simp (disch:=omega) [-getElem?_pos,if_pos,if_neg,decide_eq_true,decide_eq_false,bc]
 refine wpC_use (small_l3 w1 b ⟨w1,.refl,by simp,by simp,by simp,by simp,_,by simp; rfl,by simp⟩) ?_
 rintro e env2 H3 ⟨w3,k3,rfl,t,e3,ht⟩ hu
 have u1:=hu 1 (by decide)
 have b3:=b.kept w1 k3
 have bc3:=b3.c
 simp (disch:=omega) [-getElem?_pos,if_pos,if_neg,decide_eq_true,decide_eq_false,u1,bc3]
 refine wpC_use (small_l2 b3 (c:=t = true) ⟨rfl,by simp,by simp,by simp,t,by simp [e3],by simp [rowsTo_zero]⟩) ?_
 rintro e env3 H4 ⟨rfl,rfl,t2,e32,ht2⟩ hu2
 have u12:=hu2 1 (by decide)
 simp (disch:=omega) [-getElem?_pos,if_pos,if_neg,decide_eq_true,decide_eq_false,u12,u1,bc3]
 refine wpC_use (small_l0 w3 b3 (c:=t2 = true) ⟨w3,.refl,by simp,by simp,by simp,t2,by simp [e32],by simp⟩) ?_
 rintro e env4 H5 ⟨rfl,t3,e33,ht3⟩ hu3
 simp (disch:=omega) [-getElem?_pos,if_pos,if_neg,decide_eq_true,decide_eq_false,e33]
 refine (tr_eq ?_).symm
 rw [ht3,ht2,ht,rowsTo_all (Nat.le_refl _)]
 exact ⟨fun ⟨⟨⟨q1,q2⟩,q3⟩,q4⟩ => ⟨q1,q2,q3,q4⟩,fun ⟨q1,q2,q3,q4⟩ => ⟨⟨⟨q1,q2⟩,q3⟩,q4⟩⟩
theorem Bare_spec (hx : InstV p H v x) (hsh : x.Shaped) : AFn Tryd.prog F_inst_Inst_bare [v] H fun u H' => u = .bool (tr x.Bare) ∧ H' = H:=by
 refine AFn.calm (fun H0 hs => ?_) rfl
 obtain ⟨iv,cv,sv,rfl,_,_,_,h1,h2,h3⟩:=hx.same hs
 refine AFn.enter mixed ir_inst_Inst_bare_eq (by simp [ir_inst_Inst_bare]) fun hw => ?_
 have b:=Bx.make (t:=T_inst_Inst) hw h1 h2 h3
 have w1:=WF.alloc hw (B:=.row (instC x iv cv sv) T_inst_Inst true)
 have bc:=b.c
 obtain ⟨a2,c2,rfl⟩:=h2.slice
 generalize hq : H0.next = q at *
 simp (disch:=omega) [-getElem?_pos,if_pos,if_neg,decide_eq_true,decide_eq_false,ir_inst_Inst_bare,hq]
 generalize H0.alloc (.row (instC x iv (.slice a2 x.cost.length c2) sv) T_inst_Inst true) = H1 at *
 refine wpC_use (bare_l0 b (fun _ => hsh) ⟨rfl,by simp,by simp,by simp,by simp,by omega⟩) ?_
 rintro e env2 H3 (⟨rfl,hr⟩ | ⟨rfl,e2,hr⟩) hu
 ·simp (disch:=omega) [-getElem?_pos,if_pos,if_neg,decide_eq_true,decide_eq_false,]
  exact tr_true hr
 ·simp (disch:=omega) [-getElem?_pos,if_pos,if_neg,decide_eq_true,decide_eq_false,e2]
  exact tr_false hr
theorem Check_spec (hx : InstV p H v x) : AFn Tryd.prog F_inst_Inst_Check [v] H fun u H' => u = .int .i64 x.check ∧ H' = H:=by
 refine AFn.calm (fun H0 hs => ?_) rfl
 have hx0:=hx.same hs
 obtain ⟨iv,cv,sv,rfl,i1,i2,i3,h1,h2,h3⟩:=id hx0
 refine AFn.enter mixed ir_inst_Inst_Check_eq (by simp [ir_inst_Inst_Check]) fun hw => ?_
 have bc : (H0.alloc (.row (instC x iv cv sv) T_inst_Inst true)).cells H0.next = some (instC x iv cv sv):=AH.cells_alloc_new
 have hx1:=(hx0.kept hw (.alloc (B:=.row (instC x iv cv sv) T_inst_Inst true))).any
 generalize hq : H0.next = q at *
 simp (disch:=omega) [-getElem?_pos,if_pos,if_neg,decide_eq_true,decide_eq_false,ir_inst_Inst_Check,hq]
 generalize H0.alloc (.row (instC x iv cv sv) T_inst_Inst true) = H1 at *
 refine AFn.pure (Kis_spec _) ?_
 unfold InstD.check
 by_cases hk : 0 ≤ x.kind ∧ x.kind < 4
 ·rw [tr_true hk]
  simp (disch:=omega) [-getElem?_pos,if_pos,if_neg,decide_eq_true,decide_eq_false,hk,bc,inst_cut]
  refine AFn.pure (Lean_spec hx1) ?_
  by_cases hl : x.Lean
  ·rw [tr_true hl]
   simp (disch:=omega) [-getElem?_pos,if_pos,if_neg,decide_eq_true,decide_eq_false,bc,inst_cut]
   refine AFn.pure (Few_spec hx1) ?_
   by_cases hf : x.Few
   ·rw [tr_true hf]
    simp (disch:=omega) [-getElem?_pos,if_pos,if_neg,decide_eq_true,decide_eq_false,bc,inst_cut]
    refine AFn.pure (Shaped_spec hx1) ?_
    by_cases hsh : x.Shaped
    ·rw [tr_true hsh]
     simp (disch:=omega) [-getElem?_pos,if_pos,if_neg,decide_eq_true,decide_eq_false,bc,inst_cut]
     refine AFn.pure (Small_spec hx1) ?_
     by_cases hsm : x.Small
     ·rw [tr_true hsm]
      simp (disch:=omega) [-getElem?_pos,if_pos,if_neg,decide_eq_true,decide_eq_false,bc,inst_cut]
      refine AFn.pure (Bare_spec hx1 hsh) ?_
      by_cases hb : x.Bare
      ·rw [tr_true hb]
       simp (disch:=omega) [-getElem?_pos,if_pos,if_neg,decide_eq_true,decide_eq_false,]
      ·rw [tr_false hb]
       simp (disch:=omega) [-getElem?_pos,if_pos,if_neg,decide_eq_true,decide_eq_false,]
     ·rw [tr_false hsm]
      simp (disch:=omega) [-getElem?_pos,if_pos,if_neg,decide_eq_true,decide_eq_false,]
    ·rw [tr_false hsh]
     simp (disch:=omega) [-getElem?_pos,if_pos,if_neg,decide_eq_true,decide_eq_false,]
   ·rw [tr_false hf]
    simp (disch:=omega) [-getElem?_pos,if_pos,if_neg,decide_eq_true,decide_eq_false,]
  ·rw [tr_false hl]
   simp (disch:=omega) [-getElem?_pos,if_pos,if_neg,decide_eq_true,decide_eq_false,]
 ·rw [tr_false hk]
  simp (disch:=omega) [-getElem?_pos,if_pos,if_neg,decide_eq_true,decide_eq_false,hk]
end
end Go.Proofs.YtejifalflkbekaaDoor
