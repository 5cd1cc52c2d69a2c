/-
  The document's instance: numbers.
-/
import Derived.Test.YtejifalflkbekaaGreatDoorInst3
import Derived.Test.YtejifalflkbekaaGreatDoorIrR
set_option maxRecDepth 100000
set_option linter.unusedSimpArgs false
set_option linter.unusedVariables false
namespace Go.Proofs.YtejifalflkbekaaGreatDoor
open Go Go.Abs
theorem out9_spec {H : AH} (n lo hi : Int) : AFn Tryz.prog F_ref09_out [.int .i64 n,.int .i64 lo,.int .i64 hi] H fun u H' => u = .bool (decide (n < lo ∨ hi < n)) ∧ H' = H:=by
 refine AFn.enter mixed ir_ref09_out_eq (by simp [ir_ref09_out]) fun hw => ?_
 by_cases h1 : n < lo
 ·simp (disch:=omega) [-getElem?_pos,if_pos,if_neg,decide_eq_true,decide_eq_false,ir_ref09_out,h1]
 ·by_cases h2 : hi < n
  ·simp (disch:=omega) [-getElem?_pos,if_pos,if_neg,decide_eq_true,decide_eq_false,ir_ref09_out,h1,h2]
  ·simp (disch:=omega) [-getElem?_pos,if_pos,if_neg,decide_eq_true,decide_eq_false,ir_ref09_out,h1,h2]
theorem out_false {n lo : Int} : (decide (n < lo ∨ 2147483648 < n)) = false ↔ Mag lo n:=by
 rw [decide_eq_false_iff_not]; unfold Mag; omega
section
variable {H1 : AH} {q : Nat} {x : InstD} {iv cv sv : Value}
def NuI (H1 : AH) (q : Nat) (c : Prop) (x : InstD) (k : Nat) (env : Env) (H' : AH) : Prop :=
 H' = H1 ∧ env 1 = some (.pointer (some ⟨q,0,none⟩)) ∧ env 4 = some (.int .i64 k) ∧ ∃ B,env 3 = some (.bool B) ∧ (B = false ↔ c ∧ ∀ j (h : j < x.items.length),j < k → Mag 0 x.items[j].1 ∧ Mag 0 x.items[j].2)
def NuQ (H1 : AH) (c : Prop) (x : InstD) (e : AExit) (env : Env) (H' : AH) : Prop :=
 H' = H1 ∧ e = .exit 0 ∧ ∃ B,env 3 = some (.bool B) ∧ (B = false ↔ c ∧ ∀ j (h : j < x.items.length),Mag 0 x.items[j].1 ∧ Mag 0 x.items[j].2)
theorem numbers_l3 (b : Bx H1 q x iv cv sv) {c : Prop} {env : Env} (h : NuI H1 q c x 0 env H1) : wpC Tryz.prog 93 (.loop ir_ref09_numbers_l3) (NuQ H1 c x) env H1:=by
 refine loop_upto x.items.length (NuI H1 q c x) (Q:=NuQ H1 c x) h ?_
 rintro k env H' hk ⟨rfl,e1,e4,B,e3,hB⟩
 have hmax:=b.i.max
 have bc:=b.c
 by_cases hkn : k < x.items.length
 ·obtain ⟨b0,off,sp,cap,cs,hiv,q1,q2⟩:=pairs_rd b.i (by omega)
  obtain ⟨q3,q4,q5,q6,q7⟩:=q2 k hkn
  subst hiv
  have key : (c ∧ ∀ j (h : j < x.items.length),j < k + 1 → Mag 0 x.items[j].1 ∧ Mag 0 x.items[j].2) ↔ (B = false ∧ Mag 0 x.items[k].1 ∧ Mag 0 x.items[k].2):=by
   rw [hB]
   constructor
   ·exact fun ⟨h1,h2⟩ => ⟨⟨h1,fun j hj hjk => h2 j hj (by omega)⟩,h2 k hkn (by omega)⟩
   ·rintro ⟨⟨h1,h2⟩,h3⟩
    refine ⟨h1,fun j hj hjk => ?_⟩
    by_cases hjk' : j = k
    ·subst hjk'; exact h3
    ·exact h2 j hj (by omega)
  rw [← out_false,← out_false] at key
  generalize x.items[k].1 = y1 at *
  generalize x.items[k].2 = y2 at *
  generalize hv1 : decide (y1 < 0 ∨ 2147483648 < y1) = v1 at *
  generalize hv2 : decide (y2 < 0 ∨ 2147483648 < y2) = v2 at *
  simp (disch:=omega) [-getElem?_pos,if_pos,if_neg,decide_eq_true,decide_eq_false,ir_ref09_numbers_l3,e1,e4,e3,bc,q1,q4,q5,IntWalk.i64_in]
  refine AFn.pure (out9_spec _ _ _) ?_
  simp (disch:=omega) [-getElem?_pos,if_pos,if_neg,decide_eq_true,decide_eq_false,hv1,e1,e4,e3,bc,q1,q4,q5,IntWalk.i64_in]
  refine AFn.pure (out9_spec _ _ _) ?_
  cases B <;> cases v1 <;> cases v2 <;>
  ·simp (disch:=omega) [-getElem?_pos,if_pos,if_neg,decide_eq_true,decide_eq_false,hv2,e1,e4,e3,IntWalk.i64_in]
   exact ⟨hkn,rfl,by simp [e1],by simp,_,(by simp; rfl),by rw [key]; simp⟩
 ·obtain rfl : k = x.items.length:=by omega
  obtain ⟨a,cc,rfl⟩:=b.i.slice
  simp (disch:=omega) [-getElem?_pos,if_pos,if_neg,decide_eq_true,decide_eq_false,ir_ref09_numbers_l3,e1,e4,bc]
  exact ⟨rfl,rfl,B,e3,hB.trans (and_congr_right fun _ => ⟨fun h j hj => h j hj hj,fun h j hj _ => h j hj⟩)⟩
def NuB (H1 : AH) (q : Nat) (c : Prop) (x : InstD) (k m : Nat) (env : Env) (H' : AH) : Prop :=
 H' = H1 ∧ env 1 = some (.pointer (some ⟨q,0,none⟩)) ∧ env 7 = some (.int .i64 k) ∧ env 8 = some (.int .i64 m) ∧ ∃ B,env 3 = some (.bool B) ∧ (B = false ↔ c ∧ RowsTo x k m)
def NuBQ (H1 : AH) (c : Prop) (x : InstD) (k : Nat) (e : AExit) (env : Env) (H' : AH) : Prop :=
 H' = H1 ∧ e = .exit 4 ∧ ∃ B,env 3 = some (.bool B) ∧ (B = false ↔ c ∧ RowsTo x (k + 1) 0)
theorem numbers_l1 (b : Bx H1 q x iv cv sv) {c : Prop} {k : Nat} (hk : k < x.cost.length) {env : Env} (h : NuB H1 q c x k 0 env H1) : wpC Tryz.prog 93 (.loop ir_ref09_numbers_l1) (NuBQ H1 c x k) env H1:=by
 refine loop_upto x.cost[k].length (NuB H1 q c x k) (Q:=NuBQ H1 c x k) h ?_
 rintro m env H' hm ⟨rfl,e1,e7,e8,B,e3,hB⟩
 have hmax:=b.m.max
 have bc:=b.c
 obtain ⟨b0,off,sp,cap,cs,hcv,q1,q2⟩:=rows_rd b.m (by omega)
 obtain ⟨w,q3,q4⟩:=q2 k hk
 have hmax2:=q4.max
 subst hcv
 by_cases hmn : m < x.cost[k].length
 ·obtain ⟨b2,off2,sp2,cap2,cs2,hiv,r1,r2⟩:=ints_rd q4 (by omega)
  obtain ⟨r3,r4⟩:=r2 m hmn
  subst hiv
  have key:=rowsTo_step hk hmn
  have key2 : (c ∧ RowsTo x k (m + 1)) ↔ (B = false ∧ Mag (-2147483648) x.cost[k][m]):=by rw [key,hB,and_assoc]
  rw [← out_false] at key2
  generalize x.cost[k][m] = z at *
  generalize hv1 : decide (z < -2147483648 ∨ 2147483648 < z) = v1 at *
  simp (disch:=omega) [-getElem?_pos,if_pos,if_neg,decide_eq_true,decide_eq_false,ir_ref09_numbers_l1,e1,e7,e8,e3,bc,q1,q3,hk,r1,r3,IntWalk.i64_in]
  refine AFn.pure (out9_spec _ _ _) ?_
  cases B <;> cases v1 <;>
  ·simp (disch:=omega) [-getElem?_pos,if_pos,if_neg,decide_eq_true,decide_eq_false,hv1,e1,e7,e8,e3,IntWalk.i64_in]
   exact ⟨hmn,rfl,by simp [e1],by simp [e7],by simp,_,(by simp; rfl),by rw [key2]; simp⟩
 ·obtain rfl : m = x.cost[k].length:=by omega
  have key:=rowsTo_next hk
  obtain ⟨a,cc,rfl⟩:=q4.slice
  generalize x.cost[k].length = n at *
  simp (disch:=omega) [-getElem?_pos,if_pos,if_neg,decide_eq_true,decide_eq_false,ir_ref09_numbers_l1,e1,e7,e8,bc,q1,q3,hk]
  exact ⟨rfl,rfl,B,e3,by rw [hB,key]⟩
def NuC (H1 : AH) (q : Nat) (c : Prop) (x : InstD) (k : Nat) (env : Env) (H' : AH) : Prop :=
 H' = H1 ∧ env 1 = some (.pointer (some ⟨q,0,none⟩)) ∧ env 7 = some (.int .i64 k) ∧ ∃ B,env 3 = some (.bool B) ∧ (B = false ↔ c ∧ RowsTo x k 0)
def NuCQ (H1 : AH) (c : Prop) (x : InstD) (e : AExit) (env : Env) (H' : AH) : Prop :=
 H' = H1 ∧ e = .exit 2 ∧ ∃ B,env 3 = some (.bool B) ∧ (B = false ↔ c ∧ RowsTo x x.cost.length 0)
theorem numbers_l2 (b : Bx H1 q x iv cv sv) {c : Prop} {env : Env} (h : NuC H1 q c x 0 env H1) : wpC Tryz.prog 93 (.loop ir_ref09_numbers_l2) (NuCQ H1 c x) env H1:=by
 refine loop_upto x.cost.length (NuC H1 q c x) (Q:=NuCQ H1 c x) h ?_
 rintro k env H' hk ⟨rfl,e1,e7,B,e3,hB⟩
 have hmax:=b.m.max
 have bc:=b.c
 obtain ⟨a,cc,hcv⟩:=b.m.slice
 by_cases hkn : k < x.cost.length
 ·subst hcv
  simp (disch:=omega) [-getElem?_pos,if_pos,if_neg,decide_eq_true,decide_eq_false,ir_ref09_numbers_l2,e1,e7,bc,IntWalk.i64_in]
  refine wpC_use (numbers_l1 b (c:=c) hkn ⟨rfl,by simp [e1],by simp [e7],by simp,B,by simp [e3],hB⟩) ?_
  rintro e env2 H3 ⟨rfl,rfl,B2,e3',hB2⟩ hu
  have u1:=hu 1 (by decide)
  have u7:=hu 7 (by decide)
  simp (disch:=omega) [-getElem?_pos,if_pos,if_neg,decide_eq_true,decide_eq_false,u1,u7,e1,e7,IntWalk.i64_in]
  exact ⟨hkn,rfl,by simp [u1,e1],by simp,B2,by simp [e3'],hB2⟩
 ·obtain rfl : k = x.cost.length:=by omega
  subst hcv
  simp (disch:=omega) [-getElem?_pos,if_pos,if_neg,decide_eq_true,decide_eq_false,ir_ref09_numbers_l2,e1,e7,bc]
  exact ⟨rfl,rfl,B,e3,hB⟩
def NuD (H1 : AH) (q : Nat) (c : Prop) (x : InstD) (k : Nat) (env : Env) (H' : AH) : Prop :=
 H' = H1 ∧ env 1 = some (.pointer (some ⟨q,0,none⟩)) ∧ env 10 = some (.int .i64 k) ∧ ∃ B,env 3 = some (.bool B) ∧ (B = false ↔ c ∧ ∀ j (h : j < x.sets.length),j < k → Mag 0 x.sets[j].cost)
def NuDQ (H1 : AH) (c : Prop) (x : InstD) (e : AExit) (env : Env) (H' : AH) : Prop :=
 H' = H1 ∧ e = .exit 6 ∧ ∃ B,env 3 = some (.bool B) ∧ (B = false ↔ c ∧ ∀ j (h : j < x.sets.length),Mag 0 x.sets[j].cost)
theorem numbers_l0 (b : Bx H1 q x iv cv sv) {c : Prop} {env : Env} (h : NuD H1 q c x 0 env H1) : wpC Tryz.prog 93 (.loop ir_ref09_numbers_l0) (NuDQ H1 c x) env H1:=by
 refine loop_upto x.sets.length (NuD H1 q c x) (Q:=NuDQ H1 c x) h ?_
 rintro k env H' hk ⟨rfl,e1,e10,B,e3,hB⟩
 have hmax:=b.s.max
 have bc:=b.c
 by_cases hkn : k < x.sets.length
 ·obtain ⟨b0,off,sp,cap,cs,hsv,q1,q2⟩:=sets_rd b.s (by omega)
  obtain ⟨w,q3,q4,q5,q6,q7⟩:=q2 k hkn
  subst hsv
  have key : (c ∧ ∀ j (h : j < x.sets.length),j < k + 1 → Mag 0 x.sets[j].cost) ↔ (B = false ∧ Mag 0 x.sets[k].cost):=by
   rw [hB]
   constructor
   ·exact fun ⟨h1,h2⟩ => ⟨⟨h1,fun j hj hjk => h2 j hj (by omega)⟩,h2 k hkn (by omega)⟩
   ·rintro ⟨⟨h1,h2⟩,h3⟩
    refine ⟨h1,fun j hj hjk => ?_⟩
    by_cases hjk' : j = k
    ·subst hjk'; exact h3
    ·exact h2 j hj (by omega)
  rw [← out_false] at key
  generalize x.sets[k].cost = z at *
  generalize hv1 : decide (z < 0 ∨ 2147483648 < z) = v1 at *
  simp (disch:=omega) [-getElem?_pos,if_pos,if_neg,decide_eq_true,decide_eq_false,ir_ref09_numbers_l0,e1,e10,e3,bc,q1,q4,IntWalk.i64_in]
  refine AFn.pure (out9_spec _ _ _) ?_
  cases B <;> cases v1 <;>
  ·simp (disch:=omega) [-getElem?_pos,if_pos,if_neg,decide_eq_true,decide_eq_false,hv1,e1,e10,e3,IntWalk.i64_in]
   exact ⟨hkn,rfl,by simp [e1],by simp,_,(by simp; rfl),by rw [key]; simp⟩
 ·obtain rfl : k = x.sets.length:=by omega
  obtain ⟨a,cc,hsv⟩:=b.s.slice
  subst hsv
  simp (disch:=omega) [-getElem?_pos,if_pos,if_neg,decide_eq_true,decide_eq_false,ir_ref09_numbers_l0,e1,e10,bc]
  exact ⟨rfl,rfl,B,e3,hB.trans (and_congr_right fun _ => ⟨fun h j hj => h j hj hj,fun h j hj _ => h j hj⟩)⟩
end
theorem numbers_spec {p : Nat → Prop} {H : AH} {v : Value} {x : InstD} (hx : InstV p H v x) : AFn Tryz.prog F_ref09_numbers [v] H fun u H' => u = .bool (tr x.Small) ∧ H' = H:=by
 refine AFn.calm (fun H0 hs => ?_) rfl
 obtain ⟨iv,cv,sv,rfl,_,_,_,h1,h2,h3⟩:=hx.same hs
 refine AFn.enter mixed ir_ref09_numbers_eq (by simp [ir_ref09_numbers]) fun hw => ?_
 have b:=Bx.make (t:=T_secateurref09_Inst) hw h1 h2 h3
 have bc:=b.c
 generalize hq : H0.next = q at *
 simp (disch:=omega) [-getElem?_pos,if_pos,if_neg,decide_eq_true,decide_eq_false,ir_ref09_numbers,hq]
 generalize H0.alloc (.row (instC x iv cv sv) T_secateurref09_Inst true) = H1 at *
 refine AFn.pure (out9_spec _ _ _) ?_
 have h0:=out_false (n:=x.cap) (lo:=0)
 generalize decide (x.cap < 0 ∨ 2147483648 < x.cap) = B0 at *
 simp (disch:=omega) [-getElem?_pos,if_pos,if_neg,decide_eq_true,decide_eq_false,]
 refine wpC_use (numbers_l3 b (c:=Mag 0 x.cap) ⟨rfl,by simp,by simp,B0,by simp,by rw [h0]; simp⟩) ?_
 rintro e env2 H3 ⟨rfl,rfl,B,e3,hB⟩ hu
 have u1:=hu 1 (by decide)
 simp (disch:=omega) [-getElem?_pos,if_pos,if_neg,decide_eq_true,decide_eq_false,u1]
 refine wpC_use (numbers_l2 b (c:=B = false) ⟨rfl,by simp [u1],by simp,B,by simp [e3],by simp [rowsTo_zero]⟩) ?_
 rintro e env3 H4 ⟨rfl,rfl,B2,e32,hB2⟩ hu2
 have u12:=hu2 1 (by decide)
 simp (disch:=omega) [-getElem?_pos,if_pos,if_neg,decide_eq_true,decide_eq_false,u12,u1]
 refine wpC_use (numbers_l0 b (c:=B2 = false) ⟨rfl,by simp [u12,u1],by simp,B2,by simp [e32],by simp⟩) ?_
 rintro e env4 H5 ⟨rfl,rfl,B3,e33,hB3⟩ hu3
 simp (disch:=omega) [-getElem?_pos,if_pos,if_neg,decide_eq_true,decide_eq_false,e33]
 have : B3 = false ↔ x.Small:=by
  rw [hB3,hB2,hB,rowsTo_all (Nat.le_refl _)]
  exact ⟨fun ⟨⟨⟨q1,q2⟩,q3⟩,q4⟩ => ⟨q1,q2,q3,q4⟩,fun ⟨q1,q2,q3,q4⟩ => ⟨⟨⟨q1,q2⟩,q3⟩,q4⟩⟩
 by_cases h : x.Small
 ·rw [tr_true h]; exact this.2 h
 ·rw [tr_false h]
  cases B3
  ·exact absurd (this.1 rfl) h
  ·rfl
end Go.Proofs.YtejifalflkbekaaGreatDoor
