/-
  The document's instance: numbers.
-/
import Derived.Test.YtlcddhgfkkjhkaaDoorInst
import Derived.Test.YtlcddhgfkkjhkaaDoorIr9
set_option maxRecDepth 100000
set_option linter.unusedSimpArgs false
set_option linter.unusedVariables false
namespace Go.Proofs.YtlcddhgfkkjhkaaDoor
open Go Go.Abs
theorem out9_spec {H : AH} (n lo hi : Int) : AFn Tryd.prog F_ref09_out [.int .i64 n,.int .i64 lo,.int .i64 hi] H fun u H' => u = .bool (decide (n < lo ∨ hi < n)) ∧ H' = H:=by
 refine AFn.enter mixed ir_ref09_out_eq (by simp [ir_ref09_out]) fun hw => ?_
 by_cases h1 : n < lo
 ·simp (disch:=omega) [-getElem?_pos,if_pos,if_neg,decide_eq_true,decide_eq_false,ir_ref09_out,h1]
 ·by_cases h2 : hi < n
  ·simp (disch:=omega) [-getElem?_pos,if_pos,if_neg,decide_eq_true,decide_eq_false,ir_ref09_out,h1,h2]
  ·simp (disch:=omega) [-getElem?_pos,if_pos,if_neg,decide_eq_true,decide_eq_false,ir_ref09_out,h1,h2]
theorem out_false {n lo : Int} : (decide (n < lo ∨ 2147483648 < n)) = false ↔ Mag lo n:=by
 rw [decide_eq_false_iff_not]; unfold Mag; omega
section
variable {H1 : AH} {q : Nat} {x : InstD} {iv cv sv : Value}
def NuI (H1 : AH) (q : Nat) (c : Prop) (x : InstD) (k : Nat) (env : Env) (H' : AH) : Prop :=
 H' = H1 ∧ env 1 = some (.pointer (some ⟨q,0,none⟩)) ∧ env 4 = some (.int .i64 k) ∧ ∃ B,env 3 = some (.bool B) ∧ (B = false ↔ c ∧ ∀ j (h : j < x.items.length),j < k → Mag 0 x.items[j].1 ∧ Mag 0 x.items[j].2)
def NuQ (H1 : AH) (c : Prop) (x : InstD) (e : AExit) (env : Env) (H' : AH) : Prop :=
 H' = H1 ∧ e = .exit 0 ∧ ∃ B,env 3 = some (.bool B) ∧ (B = false ↔ c ∧ ∀ j (h : j < x.items.length),Mag 0 x.items[j].1 ∧ Mag 0 x.items[j].2)
theorem numbers_l3 (b : Bx H1 q x iv cv sv) {c : Prop} {env : Env} (h : NuI H1 q c x 0 env H1) : wpC Tryd.prog 93 (.loop ir_ref09_numbers_l3) (NuQ H1 c x) env H1:=by
 refine loop_upto x.items.length (NuI H1 q c x) (Q:=NuQ H1 c x) h ?_
 rintro k env H' hk ⟨rfl,e1,e4,B,e3,hB⟩
 have hmax:=b.i.max
 have bc:=b.c
 by_cases hkn : k < x.items.length
 ·obtain ⟨b0,off,sp,cap,cs,hiv,q1,q2⟩:=pairs_rd b.i (by omega)
  obtain ⟨q3,q4,q5,q6,q7⟩:=q2 k hkn
  subst hiv
  have key : (c ∧ ∀ j (h : j < x.items.length),j < k + 1 → Mag 0 x.items[j].1 ∧ Mag 0 x.items[j].2) ↔ (B = false ∧ Mag 0 x.items[k].1 ∧ Mag 0 x.items[k].2):=by
   rw [hB]
   constructor
   ·exact fun ⟨h1,h2⟩ => ⟨⟨h1,fun j hj hjk => h2 j hj (by omega)⟩,h2 k hkn (by omega)⟩
   ·rintro ⟨⟨h1,h2⟩,h3⟩
    refine ⟨h1,fun j hj hjk => ?_⟩
    by_cases hjk' : j = k
    ·subst hjk'; exact h3
    ·exact h2 j hj (by omega)
  rw [← out_false,← out_false] at key
  generalize x.items[k].1 = y1 at *
  generalize x.items[k].2 = y2 at *
  generalize hv1 : decide (y1 < 0 ∨ 2147483648 < y1) = v1 at *
  generalize hv2 : decide (y2 < 0 ∨ 2147483648 < y2) = v2 at *
  simp (disch:=omega) [-getElem?_pos,if_pos,if_neg,decide_eq_true,decide_eq_false,ir_ref09_numbers_l3,e1,e4,e3,bc,q1,q4,q5,IntWalk.i64_in]
  refine AFn.pure (out9_spec _ _ _) ?_
  simp (disch:=omega) [-getElem?_pos,if_pos,if_neg,decide_eq_true,decide_eq_false,hv1,e1,e4,e3,bc,q1,q4,q5,IntWalk.i64_in]
  refine AFn.pure (out9_spec _ _ _) ?_
  cases B <;> cases v1 <;> cases v2 <;>
  ·simp (disch:=omega) [-getElem?_pos,if_pos,if_neg,decide_eq_true,decide_eq_false,hv2,e1,e4,e3,IntWalk.i64_in]
   exact ⟨hkn,rfl,by simp [e1],by simp,_,(by simp; rfl),by rw [key]; simp⟩
 ·obtain rfl : k = x.items.length:=by omega
  obtain ⟨a,cc,rfl⟩:=b.i.slice
  simp (disch:=omega) [-getElem?_pos,if_pos,if_neg,decide_eq_true,decide_eq_false,ir_ref09_numbers_l3,e1,e4,bc]
  exact ⟨rfl,rfl,B,e3,hB.trans (and_congr_right fun _ => ⟨fun h j hj => h j hj hj,fun h j hj _ => h j hj⟩)⟩
def NuB (H1 : AH) (q : Nat) (c : Prop) (x : InstD) (k m : Nat) (env : Env) (H' : AH) : Prop :=
 H' = H1 ∧ env 1 = some (.pointer (some ⟨q,0,none⟩)) ∧ env 7 = some (.int .i64 k) ∧ env 8 = some (.int .i64 m) ∧ ∃ B,env 3 = some (.bool B) ∧ (B = false ↔ c ∧ RowsTo x k m)
def NuBQ (H1 : AH) (c : Prop) (x : InstD) (k : Nat) (e : AExit) (env : Env) (H' : AH) : Prop :=
 H' = H1 ∧ e = .exit 4 ∧ ∃ B,env 3 = some (.bool B) ∧ (B = false ↔ c ∧ RowsTo x (k + 1) 0)
theorem numbers_l1 (b : Bx H1 q x iv cv sv) {c : Prop} {k : Nat} (hk : k < x.cost.length) {env : Env} (h : NuB H1 q c x k 0 env H1) : wpC Tryd.prog 93 (.loop ir_ref09_numbers_l1) (NuBQ H1 c x k) env H1:=by
 refine loop_upto x.cost[k].length (NuB H1 q c x k) (Q:=NuBQ H1 c x k) h ?_
 rintro m env H' hm ⟨rfl,e1,e7,e8,B,e3,hB⟩
 have hmax:=b.m.max
 have bc:=b.c
 obtain ⟨b0,off,sp,cap,cs,hcv,q1,q2⟩:=rows_rd b.m (by omega)
 obtain ⟨w,q3,q4⟩:=q2 k hk
 have hmax2:=q4.max
 subst hcv
 by_cases hmn : m < x.cost[k].length
 ·obtain ⟨b2,off2,sp2,cap2,cs2,hiv,r1,r2⟩:=ints_rd q4 (by omega)
  obtain ⟨r3,r4⟩:=r2 m hmn
  subst hiv
  have key:=rowsTo_step hk hmn
  have key2 : (c ∧ RowsTo x k (m + 1)) ↔ (B = false ∧ Mag (-2147483648) x.cost[k][m]):=by rw [key,hB,and_assoc]
  rw [← out_false] at key2
  generalize x.cost[k][m] = z at *
  generalize hv1 : decide (z < -2147483648 ∨ 2147483648 < z) = v1 at *
  simp (disch:=omega) [-getElem?_pos,if_pos,if_neg,decide_eq_true,decide_eq_false,ir_ref09_numbers_l1,e1,e7,e8,e3,bc,q1,q3,hk,r1,r3,IntWalk.i64_in]
  refine AFn.pure (out9_spec _ _ _) ?_
  cases B <;> cases v1 <;>
  ·simp (disch:=omega) [-getElem?_pos,if_pos,if_neg,decide_eq_true,decide_eq_false,hv1,e1,e7,e8,e3,IntWalk.i64_in]
   exact ⟨hmn,rfl,by simp [e1],by simp [e7],by simp,_,(by simp; rfl),by rw [key2]; simp⟩
 ·obtain rfl : m = x.cost[k].length:=by omega
  have key:=rowsTo_next hk
  obtain ⟨a,cc,rfl⟩:=q4.slice
  generalize x.cost[k].length = n at *
  simp (disch:=omega) [-getElem?_pos,if_pos,if_neg,decide_eq_true,decide_eq_false,ir_ref09_numbers_l1,e1,e7,e8,bc,q1,q3,hk]
  exact ⟨rfl,rfl,B,e3,by rw [hB,key]⟩
def NuC (H1 : AH) (q : Nat) (c : Prop) (x : InstD) (k : Nat) (env : Env) (H' : AH) : Prop :=
 H' = H1 ∧ env 1 = some (.pointer (some ⟨q,0,none⟩)) ∧ env 7 = some (.int .i64 k) ∧ ∃ B,env 3 = some (.bool B) ∧ (B = false ↔ c ∧ RowsTo x k 0)
def NuCQ (H1 : AH) (c : Prop) (x : InstD) (e : AExit) (env : Env) (H' : AH) : Prop :=
 H' = H1 ∧ e = .exit 2 ∧ ∃ B,env 3 = some (.bool B) ∧ (B = false ↔ c ∧ RowsTo x x.cost.length 0)
theorem numbers_l2 (b : Bx H1 q x iv cv sv) {c : Prop} {env : Env} (h : NuC H1 q c x 0 env H1) : wpC Tryd.prog 93 (.loop ir_ref09_numbers_l2) (NuCQ H1 c x) env H1:=by
 refine loop_upto x.cost.length (NuC H1 q c x) (Q:=NuCQ H1 c x) h ?_
 rintro k env H' hk ⟨rfl,e1,e7,B,e3,hB⟩
 have hmax:=b.m.max
 have bc:=b.c
 obtain ⟨a,cc,hcv⟩:=b.m.slice
 by_cases hkn : k < x.cost.length
 ·subst hcv
  simp (disch:=omega) [-getElem?_pos,if_pos,if_neg,decide_eq_true,decide_eq_false,ir_ref09_numbers_l2,e1,e7,bc,IntWalk.i64_in]
  refine wpC_use (numbers_l1 b (c:=c) hkn ⟨rfl,by simp [e1],by simp [e7],by simp,B,by simp [e3],hB⟩) ?_
  rintro e env2 H3 ⟨rfl,rfl,B2,e3',hB2⟩ hu
  have u1:=hu 1 (by decide)
  have u7:=hu 7 (by decide)
  simp (disch:=omega) [-getElem?_pos,if_pos,if_neg,decide_eq_true,decide_eq_false,u1,u7,e1,e7,IntWalk.i64_in]
  exact ⟨hkn,rfl,by simp [u1,e1],by simp,B2,by simp [e3'],hB2⟩
 ·obtain rfl : k = x.cost.length:=by omega
  subst hcv
  simp (disch:=omega) [-getElem?_pos,if_pos,if_neg,decide_eq_true,decide_eq_false,ir_ref09_numbers_l2,e1,e7,bc]
  exact ⟨rfl,rfl,B,e3,hB⟩
def NuD (H1 : AH) (q : Nat) (c : Prop) (x : InstD) (k : Nat) (env : Env) (H' : AH) : Prop :=
 H' = H1 ∧ env 1 = some (.pointer (some ⟨q,0,none⟩)) ∧ env 10 = some (.int .i64 k) ∧ ∃ B,env 3 = some (.bool B) ∧ (B = false ↔ c ∧ ∀ j (h : j < x.sets.length),j < k → Mag 0 x.sets[j].cost)
def NuDQ (H1 : AH) (c : Prop) (x : InstD) (e : AExit) (env : Env) (H' : AH) : Prop :=
 H' = H1 ∧ e = .exit 6 ∧ ∃ B,env 3 = some (.bool B) ∧ (B = false ↔ c ∧ ∀ j (h : j < x.sets.length),Mag 0 x.sets[j].cost)
theorem numbers_l0 (b : Bx H1 q x iv cv sv) {c : Prop} {env : Env} (h : NuD H1 q c x 0 env H1) : wpC Tryd.prog 93 (.loop ir_ref09_numbers_l0) (NuDQ H1 c x) env H1:=by
 refine loop_upto x.sets.length (NuD H1 q c x) (Q:=NuDQ H1 c x) h ?_
 rintro k env H' hk ⟨rfl,e1,e10,B,e3,hB⟩
 have hmax:=b.s.max
 have bc:=b.c
 by_cases hkn : k < x.sets.length
 ·obtain ⟨b0,off,sp,cap,cs,hsv,q1,q2⟩:=sets_rd b.s (by omega)
  obtain ⟨w,q3,q4,q5,q6,q7⟩:=q2 k hkn
  subst hsv
  have key : (c ∧ ∀ j (h : j < x.sets.length),j < k + 1 → Mag 0 x.sets[j].cost) ↔ (B = false ∧ Mag 0 x.sets[k].cost):=by
   rw [hB]
   constructor
   ·exact fun ⟨h1,h2⟩ => ⟨⟨h1,fun j hj hjk => h2 j hj (by omega)⟩,h2 k hkn (by omega)⟩
   ·rintro ⟨⟨h1,h2⟩,h3⟩
    refine ⟨h1,fun j hj hjk => ?_⟩
    by_cases hjk' : j = k
    ·subst hjk'; exact h3
    ·exact h2 j hj (by omega)
  rw [← out_false] at key
  generalize x.sets[k].cost = z at *
  generalize hv1 : decide (z < 0 ∨ 2147483648 < z) = v1 at *
  simp (disch:=omega) [-getElem?_pos,if_pos,if_neg,decide_eq_true,decide_eq_false,ir_ref09_numbers_l0,e1,e10,e3,bc,q1,q4,IntWalk.i64_in]
  refine AFn.pure (out9_spec _ _ _) ?_
  cases B <;> cases v1 <;>
  ·simp (disch:=omega) [-getElem?_pos,if_pos,if_neg,decide_eq_true,decide_eq_false,hv1,e1,e10,e3,IntWalk.i64_in]
   exact ⟨hkn,rfl,by simp [e1],by simp,_,(by simp; rfl),by rw [key]; simp⟩
 ·obtain rfl : k = x.sets.length:=by omega
  obtain ⟨a,cc,hsv⟩:=b.s.slice
  subst hsv
  simp (disch:=omega) [-getElem?_pos,if_pos,if_neg,decide_eq_true,decide_eq_false,ir_ref09_numbers_l0,e1,e10,bc]
  exact ⟨rfl,rfl,B,e3,hB.trans (and_congr_right fun _ => ⟨fun h j hj => h j hj hj,fun h j hj _ => h j hj⟩)⟩
end
theorem numbers_spec {p : Nat → Prop} {H : AH} {v : Value} {x : InstD} (hx : InstV p H v x) : AFn Tryd.prog F_ref09_numbers [v] H fun u H' => u = .bool (tr x.Small) ∧ H' = H:=by
 refine AFn.calm (fun H0 hs => ?_) rfl
 obtain ⟨iv,cv,sv,rfl,_,_,_,h1,h2,h3⟩:=hx.same hs
 refine AFn.enter mixed ir_ref09_numbers_eq (by simp [ir_ref09_numbers]) fun hw => ?_
 have b:=Bx.make (t:=T_secateurref09_Inst) hw h1 h2 h3
 have bc:=b.c
 generalize hq : H0.next = q at *
 simp (disch:=omega) [-getElem?_pos,if_pos,if_neg,decide_eq_true,decide_eq_false,ir_ref09_numbers,hq]
 generalize H0.alloc (.row (instC x iv cv sv) T_secateurref09_Inst true) = H1 at *
 refine AFn.pure (out9_spec _ _ _) ?_
 have h0:=out_false (n:=x.cap) (lo:=0)
 generalize decide (x.cap < 0 ∨ 2147483648 < x.cap) = B0 at *
 simp (disch:=omega) [-getElem?_pos,if_pos,if_neg,decide_eq_true,decide_eq_false,]
 refine wpC_use (numbers_l3 b (c:=Mag 0 x.cap) ⟨rfl,by simp,by simp,B0,by simp,by rw [h0]; simp⟩) ?_
 rintro e env2 H3 ⟨rfl,rfl,B,e3,hB⟩ hu
 have u1:=hu 1 (by decide)
 simp (disch:=omega) [-getElem?_pos,if_pos,if_neg,decide_eq_true,decide_eq_false,u1]
 refine wpC_use (numbers_l2 b (c:=B = false) ⟨rfl,by simp [u1],by simp,B,by simp [e3],by simp [rowsTo_zero]⟩) ?_
 rintro e env3 H4 ⟨rfl,rfl,B2,e32,hB2⟩ hu2
 have u12:=hu2 1 (by decide)
 simp (disch:=omega) [-getElem?_pos,if_pos,if_neg,decide_eq_true,decide_eq_false,u12,u1]
 refine wpC_use (numbers_l0 b (c:=B2 = false) ⟨rfl,by simp [u12,u1],by simp,B2,by simp [e32],by simp⟩) ?_
 rintro e env4 H5 ⟨rfl,rfl,B3,e33,hB3⟩ hu3
 simp (disch:=omega) [-getElem?_pos,if_pos,if_neg,decide_eq_true,decide_eq_false,e33]
 have : B3 = false ↔ x.Small:=by
  rw [hB3,hB2,hB,rowsTo_all (Nat.le_refl _)]
  exact ⟨fun ⟨⟨⟨q1,q2⟩,q3⟩,q4⟩ => ⟨q1,q2,q3,q4⟩,fun ⟨q1,q2,q3,q4⟩ => ⟨⟨⟨q1,q2⟩,q3⟩,q4⟩⟩
 by_cases h : x.Small
 ·rw [tr_true h]; exact this.2 h
 ·rw [tr_false h]
  cases B3
  ·exact absurd (this.1 rfl) h
  ·rfl
end Go.Proofs.YtlcddhgfkkjhkaaDoor
set_option maxRecDepth 100000
namespace Go.Proofs.YtlcddhgfkkjhkaaDoor
open Go Go.Abs
def hdC : ACode → ACode
 | .seq a _ => a
 | c => c
def tlC : ACode → ACode
 | .seq _ b => b
 | c => c
section
variable {H1 : AH} {q : Nat} {x : InstD} {iv cv sv : Value}
def C3I (H1 : AH) (q : Nat) (x : InstD) (k : Nat) (env : Env) (H' : AH) : Prop :=
 H' = H1 ∧ env 1 = some (.pointer (some ⟨q,0,none⟩)) ∧ env 4 = some (.int .i64 k) ∧ ∀ j (h : j < x.cost.length),j < k → x.cost[j].length = x.cost.length
def C3Q (H1 : AH) (x : InstD) (e : AExit) (env : Env) (H' : AH) : Prop :=
 H' = H1 ∧ ((e = .exit 0 ∧ ∀ j (h : j < x.cost.length),x.cost[j].length = x.cost.length) ∨ (e = .ret ∧ env 2 = some (.int .i64 4) ∧ ¬ x.Shaped))
theorem check9_l3 (b : Bx H1 q x iv cv sv) {env : Env} (h : C3I H1 q x 0 env H1) : wpC Tryd.prog 192 (.loop ir_ref09_Check_l3) (C3Q H1 x) env H1:=by
 refine loop_upto x.cost.length (C3I H1 q x) (Q:=C3Q H1 x) h ?_
 rintro k env H' hk ⟨rfl,e1,e4,hj⟩
 have hmax:=b.m.max
 have bc:=b.c
 by_cases hkn : k < x.cost.length
 ·obtain ⟨b0,off,sp,cap,cs,hcv,q1,q2⟩:=rows_rd b.m (by omega)
  obtain ⟨w,q3,q4⟩:=q2 k hkn
  obtain ⟨aw,cw,rfl⟩:=q4.slice
  subst hcv
  by_cases hr : x.cost[k].length = x.cost.length
  ·simp (disch:=omega) [-getElem?_pos,if_pos,if_neg,decide_eq_true,decide_eq_false,ir_ref09_Check_l3,e1,e4,q1,q3,bc,hr,IntWalk.i64_in]
   refine ⟨hkn,rfl,by simp [e1],by simp,fun j hjn hjk => ?_⟩
   by_cases hjk' : j = k
   ·subst hjk'; exact hr
   ·exact hj j hjn (by omega)
  ·simp (disch:=omega) [-getElem?_pos,if_pos,if_neg,decide_eq_true,decide_eq_false,ir_ref09_Check_l3,e1,e4,q1,q3,bc,hr,IntWalk.i64_in]
   exact ⟨rfl,.inr ⟨rfl,by simp,fun hc => hr (hc.rows k hkn)⟩⟩
 ·obtain rfl : k = x.cost.length:=by omega
  obtain ⟨a,cc,hcv⟩:=b.m.slice
  subst hcv
  simp (disch:=omega) [-getElem?_pos,if_pos,if_neg,decide_eq_true,decide_eq_false,ir_ref09_Check_l3,e1,e4,bc]
  exact ⟨rfl,.inl ⟨rfl,fun j h => hj j h h⟩⟩
def C1I (H1 : AH) (q : Nat) (ev : Value) (l : List Int) (n : Int) (k : Nat) (env : Env) (H' : AH) : Prop :=
 H' = H1 ∧ env 1 = some (.pointer (some ⟨q,0,none⟩)) ∧ env 6 = some ev ∧ env 7 = some (.int .i64 k) ∧
  ∀ j (h : j < l.length),j < k → ((if j = 0 then -1 else l.getD (j - 1) 0) < l[j] ∧ l[j] < n) ∧ 0 ≤ l[j]
def C1Q (H1 : AH) (l : List Int) (n : Int) (e : AExit) (env : Env) (H' : AH) : Prop :=
 H' = H1 ∧ ((e = .exit 4 ∧ Rises (-1) n l) ∨ (e = .ret ∧ env 2 = some (.int .i64 4) ∧ ¬ Rises (-1) n l))
theorem check9_l1 (b : Bx H1 q x iv cv sv) {ev : Value} {l : List Int} (hl : SlV Ty H1 ev l) {env : Env} (h : C1I H1 q ev l x.size 0 env H1) : wpC Tryd.prog 192 (.loop ir_ref09_Check_l1) (C1Q H1 l x.size) env H1:=by
 refine loop_upto l.length (C1I H1 q ev l x.size) (Q:=C1Q H1 l x.size) h ?_
 rintro k env H' hk ⟨rfl,e1,e6,e7,hj⟩
 have hmax:=hl.max
 have bc:=b.c
 by_cases hkn : k < l.length
 ·obtain ⟨b0,off,sp,cap,cs,hcv,q1,q2⟩:=ints_rd hl (by omega)
  obtain ⟨q3,q4⟩:=q2 k hkn
  subst hcv
  have key : (if k = 0 then -1 else l.getD (k - 1) 0) < l[k] → l[k] < x.size → 0 ≤ l[k] → ∀ j (h : j < l.length),j < k + 1 → ((if j = 0 then -1 else l.getD (j - 1) 0) < l[j] ∧ l[j] < x.size) ∧ 0 ≤ l[j]:=fun g1 g2 g3 j hjn hjk => by
   by_cases hjk' : j = k
   ·subst hjk'; exact ⟨⟨g1,g2⟩,g3⟩
   ·exact hj j hjn (by omega)
  have bad : ¬ ((if k = 0 then -1 else l.getD (k - 1) 0) < l[k] ∧ l[k] < x.size) → ¬ Rises (-1) x.size l:=fun hb hR => hb (rises_get.1 hR k hkn)
  by_cases hk0 : k = 0
  ·subst hk0
   simp only [if_true] at key bad
   simp only [Nat.add_zero] at q3
   generalize l[0] = z at *
   by_cases h1 : z < 0
   ·simp (disch:=omega) [-getElem?_pos,if_pos,if_neg,decide_eq_true,decide_eq_false,ir_ref09_Check_l1,e1,e6,e7,q1,q3,bc,h1,hkn,IntWalk.i64_in]
    exact ⟨rfl,.inr ⟨rfl,by simp,bad (by omega)⟩⟩
   ·by_cases h2 : x.size ≤ z
    ·simp (disch:=omega) [-getElem?_pos,if_pos,if_neg,decide_eq_true,decide_eq_false,ir_ref09_Check_l1,e1,e6,e7,q1,q3,bc,h1,h2,hkn,IntWalk.i64_in]
     exact ⟨rfl,.inr ⟨rfl,by simp,bad (by omega)⟩⟩
    ·simp (disch:=omega) [-getElem?_pos,if_pos,if_neg,decide_eq_true,decide_eq_false,ir_ref09_Check_l1,e1,e6,e7,q1,q3,bc,h1,h2,hkn,IntWalk.i64_in]
     exact ⟨rfl,by simp [e1],by simp [e6],by simp,key (by omega) (by omega) (by omega)⟩
  ·obtain ⟨m,rfl⟩ : ∃ m,k = m + 1:=⟨k - 1,by omega⟩
   obtain ⟨r3,r4⟩:=q2 m (by omega)
   have hg : l.getD (m + 1 - 1) 0 = l[m]:=by simp; rw [List.getElem?_eq_getElem (by omega)]; rfl
   have h0:=(hj m (by omega) (by omega)).2
   simp only [Nat.succ_ne_zero,if_false] at key bad
   rw [hg] at key bad
   have hm1 : (((m + 1 : Nat) : Int) - 1).toNat = m:=by omega
   generalize l[m + 1] = z at *
   generalize l[m] = y at *
   by_cases h1 : z < 0
   ·simp (disch:=omega) [-getElem?_pos,if_pos,if_neg,decide_eq_true,decide_eq_false,ir_ref09_Check_l1,e1,e6,e7,q1,q3,bc,h1,hkn,IntWalk.i64_in]
    exact ⟨rfl,.inr ⟨rfl,by simp,bad (by omega)⟩⟩
   ·by_cases h2 : x.size ≤ z
    ·simp (disch:=omega) [-getElem?_pos,if_pos,if_neg,decide_eq_true,decide_eq_false,ir_ref09_Check_l1,e1,e6,e7,q1,q3,bc,h1,h2,hkn,IntWalk.i64_in]
     exact ⟨rfl,.inr ⟨rfl,by simp,bad (by omega)⟩⟩
    ·by_cases h3 : z ≤ y
     ·simp (disch:=omega) [-getElem?_pos,if_pos,if_neg,decide_eq_true,decide_eq_false,ir_ref09_Check_l1,e1,e6,e7,q1,q3,r3,bc,h1,h2,h3,hkn,hm1,IntWalk.i64_in]
      exact ⟨rfl,.inr ⟨rfl,by simp,bad (by omega)⟩⟩
     ·simp (disch:=omega) [-getElem?_pos,if_pos,if_neg,decide_eq_true,decide_eq_false,ir_ref09_Check_l1,e1,e6,e7,q1,q3,r3,bc,h1,h2,h3,hkn,hm1,IntWalk.i64_in]
      exact ⟨rfl,by simp [e1],by simp [e6],by simp,key (by omega) (by omega) (by omega)⟩
 ·obtain rfl : k = l.length:=by omega
  obtain ⟨a,cc,hcv⟩:=hl.slice
  subst hcv
  simp (disch:=omega) [-getElem?_pos,if_pos,if_neg,decide_eq_true,decide_eq_false,ir_ref09_Check_l1,e1,e6,e7]
  exact ⟨rfl,.inl ⟨rfl,rises_get.2 fun j h => (hj j h h).1⟩⟩
def C2I (H1 : AH) (q : Nat) (x : InstD) (k : Nat) (env : Env) (H' : AH) : Prop :=
 H' = H1 ∧ env 1 = some (.pointer (some ⟨q,0,none⟩)) ∧ env 5 = some (.int .i64 k) ∧ ∀ j (h : j < x.sets.length),j < k → Rises (-1) x.size x.sets[j].elems
def C2Q (H1 : AH) (x : InstD) (e : AExit) (env : Env) (H' : AH) : Prop :=
 H' = H1 ∧ ((e = .exit 2 ∧ ∀ j (h : j < x.sets.length),Rises (-1) x.size x.sets[j].elems) ∨ (e = .ret ∧ env 2 = some (.int .i64 4) ∧ ¬ x.Shaped))
theorem check9_l2 (b : Bx H1 q x iv cv sv) {env : Env} (h : C2I H1 q x 0 env H1) : wpC Tryd.prog 192 (.loop ir_ref09_Check_l2) (C2Q H1 x) env H1:=by
 refine loop_upto x.sets.length (C2I H1 q x) (Q:=C2Q H1 x) h ?_
 rintro k env H' hk ⟨rfl,e1,e5,hj⟩
 have hmax:=b.s.max
 have bc:=b.c
 by_cases hkn : k < x.sets.length
 ·obtain ⟨b0,off,sp,cap,cs,hsv,q1,q2⟩:=sets_rd b.s (by omega)
  obtain ⟨w,q3,q4,q5,q6,q7⟩:=q2 k hkn
  have hw:=q7.cell
  subst hsv
  have key : Rises (-1) x.size x.sets[k].elems → ∀ j (h : j < x.sets.length),j < k + 1 → Rises (-1) x.size x.sets[j].elems:=fun hr j hjn hjk => by
   by_cases hjk' : j = k
   ·subst hjk'; exact hr
   ·exact hj j hjn (by omega)
  simp (disch:=omega) [-getElem?_pos,if_pos,if_neg,decide_eq_true,decide_eq_false,ir_ref09_Check_l2,e1,e5,q1,q5,bc,hkn,IntWalk.i64_in]
  refine wpC_use (check9_l1 b q7 ⟨rfl,by simp [e1],by simp,by simp,by omega⟩) ?_
  rintro e env2 H3 ⟨rfl,⟨rfl,hr⟩ | ⟨rfl,e2,hr⟩⟩ hu
  ·have u1:=hu 1 (by decide)
   have u5:=hu 5 (by decide)
   simp (disch:=omega) [-getElem?_pos,if_pos,if_neg,decide_eq_true,decide_eq_false,u1,u5,e1,e5,IntWalk.i64_in]
   exact ⟨hkn,rfl,by simp [u1,e1],by simp,key hr⟩
  ·simp (disch:=omega) [-getElem?_pos,if_pos,if_neg,decide_eq_true,decide_eq_false,]
   exact ⟨rfl,.inr ⟨rfl,e2,fun hc => hr (hc.sets k hkn)⟩⟩
 ·obtain rfl : k = x.sets.length:=by omega
  obtain ⟨a,cc,hsv⟩:=b.s.slice
  subst hsv
  simp (disch:=omega) [-getElem?_pos,if_pos,if_neg,decide_eq_true,decide_eq_false,ir_ref09_Check_l2,e1,e5,bc]
  exact ⟨rfl,.inl ⟨rfl,fun j h => hj j h h⟩⟩
def C0I (H1 : AH) (q : Nat) (x : InstD) (k : Nat) (env : Env) (H' : AH) : Prop :=
 H' = H1 ∧ env 1 = some (.pointer (some ⟨q,0,none⟩)) ∧ env 9 = some (.int .i64 k) ∧ ∀ j (h : j < x.cost.length),j < k → x.kind = 2 → x.cost[j].getD j 0 = 0
def C0Q (H1 : AH) (x : InstD) (e : AExit) (env : Env) (H' : AH) : Prop :=
 (e = .exit 6 ∧ x.Bare) ∨ (e = .ret ∧ env 2 = some (.int .i64 4) ∧ ¬ x.Bare)
theorem check9_l0 (b : Bx H1 q x iv cv sv) (hs : x.Shaped) {env : Env} (h : C0I H1 q x 0 env H1) : wpC Tryd.prog 192 (.loop ir_ref09_Check_l0) (C0Q H1 x) env H1:=by
 refine loop_upto x.cost.length (C0I H1 q x) (Q:=C0Q H1 x) h ?_
 rintro k env H' hk ⟨rfl,e1,e9,hj⟩
 have hmax:=b.m.max
 have bc:=b.c
 by_cases h2 : x.kind = 2
 ·by_cases hkn : k < x.cost.length
  ·obtain ⟨b0,off,sp,cap,cs,hcv,q1,q2⟩:=rows_rd b.m (by omega)
   obtain ⟨w,q3,q4⟩:=q2 k hkn
   subst hcv
   have key : (x.kind = 2 → x.cost[k].getD k 0 = 0) → ∀ j (h : j < x.cost.length),j < k + 1 → x.kind = 2 → x.cost[j].getD j 0 = 0:=fun hr j hjn hjk h2 => by
    by_cases hjk' : j = k
    ·subst hjk'; exact hr h2
    ·exact hj j hjn (by omega) h2
   have hlen:=hs.rows k hkn
   have bad : x.cost[k].getD k 0 ≠ 0 → ¬ x.Bare:=fun h hb => h (hb h2 k hkn)
   obtain ⟨b1,off1,sp1,cap1,cs1,hcv1,g1,g2⟩:=ints_rd q4 (by omega)
   obtain ⟨g3,g4⟩:=g2 k (by omega)
   cases hcv1
   have hg : x.cost[k].getD k 0 = x.cost[k][k]:=by simp [hlen,hkn]
   rw [hg] at key bad
   generalize x.cost[k][k] = z at *
   by_cases hz : z = 0
   ·simp (disch:=omega) [-getElem?_pos,if_pos,if_neg,decide_eq_true,decide_eq_false,ir_ref09_Check_l0,e1,e9,q1,q3,bc,h2,g1,g3,hz,hlen,hkn,IntWalk.i64_in]
    exact ⟨rfl,by simp [e1],by simp,key fun _ => hz⟩
   ·simp (disch:=omega) [-getElem?_pos,if_pos,if_neg,decide_eq_true,decide_eq_false,ir_ref09_Check_l0,e1,e9,q1,q3,bc,h2,g1,g3,hz,hlen,hkn,IntWalk.i64_in]
    exact .inr ⟨rfl,by simp,bad hz⟩
  ·obtain rfl : k = x.cost.length:=by omega
   obtain ⟨a,cc,hcv⟩:=b.m.slice
   subst hcv
   simp (disch:=omega) [-getElem?_pos,if_pos,if_neg,decide_eq_true,decide_eq_false,ir_ref09_Check_l0,e1,e9,bc,h2]
   exact .inl ⟨rfl,fun h2 j h => hj j h h h2⟩
 ·obtain ⟨a,cc,hcv⟩:=b.m.slice
  subst hcv
  by_cases hkn : k < x.cost.length
  ·simp (disch:=omega) [-getElem?_pos,if_pos,if_neg,decide_eq_true,decide_eq_false,ir_ref09_Check_l0,e1,e9,bc,h2,hkn]
   exact .inl ⟨rfl,fun h => absurd h h2⟩
  ·simp (disch:=omega) [-getElem?_pos,if_pos,if_neg,decide_eq_true,decide_eq_false,ir_ref09_Check_l0,e1,e9,bc,h2,hkn]
   exact .inl ⟨rfl,fun h => absurd h h2⟩
end
end Go.Proofs.YtlcddhgfkkjhkaaDoor
set_option maxRecDepth 100000
set_option maxHeartbeats 4000000
namespace Go.Proofs.YtlcddhgfkkjhkaaDoor
open Go Go.Abs
def chk9 : ACode:=ir_ref09_Check.code
def chk9T : ACode:=tlC (tlC (tlC (tlC (tlC chk9))))
theorem chk9_eq : ir_ref09_Check = ⟨192,[.tmp 2],.seq (hdC chk9) (.seq (hdC (tlC chk9)) (.seq (hdC (tlC (tlC chk9))) (.seq (hdC (tlC (tlC (tlC chk9)))) (.seq (hdC (tlC (tlC (tlC (tlC chk9))))) chk9T))))⟩:=rfl
section
variable {H1 : AH} {q : Nat} {x : InstD} {iv cv sv : Value}
theorem check9_tail (b : Bx H1 q x iv cv sv) (hx1 : InstV Ty H1 (.agg #[.int .i64 x.kind,.int .i64 x.cap,iv,cv,.int .i64 x.size,sv]) x) (hk : 0 ≤ x.kind ∧ x.kind < 4) (hl : x.Lean) (hf : x.Few) {env : Env} (e1 : env 1 = some (.pointer (some ⟨q,0,none⟩))) :
  wpC Tryd.prog 192 chk9T (bodyK [ARes.tmp 2] fun u _ => u = .int .i64 x.check) env H1:=by
 have bc:=b.c
 unfold InstD.check
 rw [tr_true hk,tr_true hl,tr_true hf]
 simp (disch:=omega) [-getElem?_pos,if_pos,if_neg,decide_eq_true,decide_eq_false,chk9T,chk9,hdC,tlC,ir_ref09_Check]
 refine wpC_use (check9_l3 b ⟨rfl,by simp [e1],by simp,by omega⟩) ?_
 rintro e env2 H3 ⟨rfl,⟨rfl,hr⟩ | ⟨rfl,e2,hr⟩⟩ hu
 ·have u1:=hu 1 (by decide)
  simp (disch:=omega) [-getElem?_pos,if_pos,if_neg,decide_eq_true,decide_eq_false,u1,e1]
  refine wpC_use (check9_l2 b ⟨rfl,by simp [u1,e1],by simp,by omega⟩) ?_
  rintro e env3 H4 ⟨rfl,⟨rfl,hr2⟩ | ⟨rfl,e2,hr2⟩⟩ hu2
  ·have u2:=hu2 1 (by decide)
   have hsh : x.Shaped:=⟨hr,hr2⟩
   rw [tr_true hsh]
   simp (disch:=omega) [-getElem?_pos,if_pos,if_neg,decide_eq_true,decide_eq_false,u2,u1,e1,bc,inst_cut]
   refine AFn.pure (numbers_spec hx1) ?_
   by_cases hsm : x.Small
   ·rw [tr_true hsm]
    simp (disch:=omega) [-getElem?_pos,if_pos,if_neg,decide_eq_true,decide_eq_false,]
    refine wpC_use (check9_l0 b hsh ⟨rfl,by simp [u2,u1,e1],by simp,by omega⟩) ?_
    rintro e env4 H5 (⟨rfl,hb⟩ | ⟨rfl,e2,hb⟩) hu3
    ·rw [tr_true hb]
     simp (disch:=omega) [-getElem?_pos,if_pos,if_neg,decide_eq_true,decide_eq_false,]
    ·rw [tr_false hb]
     simp (disch:=omega) [-getElem?_pos,if_pos,if_neg,decide_eq_true,decide_eq_false,e2]
   ·rw [tr_false hsm]
    simp (disch:=omega) [-getElem?_pos,if_pos,if_neg,decide_eq_true,decide_eq_false,]
  ·rw [tr_false hr2]
   simp (disch:=omega) [-getElem?_pos,if_pos,if_neg,decide_eq_true,decide_eq_false,e2]
 ·rw [tr_false hr]
  simp (disch:=omega) [-getElem?_pos,if_pos,if_neg,decide_eq_true,decide_eq_false,e2]
end
theorem lean0 {x : InstD} (hk : x.kind = 0) : x.Lean ↔ x.cost.length = 0 ∧ x.size = 0 ∧ x.sets.length = 0 :=
 ⟨fun h => ⟨by rcases h.sq with h | h | h <;> omega,by rcases h.cov with h | h; omega; exact h.1,by rcases h.cov with h | h; omega; exact h.2⟩,fun ⟨h1,h2,h3⟩ => ⟨.inl hk,.inr (.inr h1),.inr ⟨h2,h3⟩⟩⟩
theorem lean12 {x : InstD} (hk : x.kind = 1 ∨ x.kind = 2) : x.Lean ↔ x.cap = 0 ∧ x.items.length = 0 ∧ x.size = 0 ∧ x.sets.length = 0 :=
 ⟨fun h => ⟨by rcases h.knap with h | h; omega; exact h.1,by rcases h.knap with h | h; omega; exact h.2,by rcases h.cov with h | h; omega; exact h.1,by rcases h.cov with h | h; omega; exact h.2⟩,fun ⟨h1,h2,h3,h4⟩ => ⟨.inr ⟨h1,h2⟩,by omega,.inr ⟨h3,h4⟩⟩⟩
theorem lean3 {x : InstD} (hk : x.kind = 3) : x.Lean ↔ x.cap = 0 ∧ x.items.length = 0 ∧ x.cost.length = 0 :=
 ⟨fun h => ⟨by rcases h.knap with h | h; omega; exact h.1,by rcases h.knap with h | h; omega; exact h.2,by rcases h.sq with h | h | h <;> omega⟩,fun ⟨h1,h2,h3⟩ => ⟨.inr ⟨h1,h2⟩,.inr (.inr h3),.inl hk⟩⟩
theorem Check9_spec {p : Nat → Prop} {H : AH} {v : Value} {x : InstD} (hx : InstV p H v x) : AFn Tryd.prog F_ref09_Check [v] H fun u H' => u = .int .i64 x.check ∧ H' = H:=by
 refine AFn.calm (fun H0 hs => ?_) rfl
 have hx0:=hx.same hs
 obtain ⟨iv,cv,sv,rfl,_,_,_,h1,h2,h3⟩:=id hx0
 refine AFn.enter mixed (ir_ref09_Check_eq.trans (congrArg some chk9_eq)) (by simp) fun hw => ?_
 have b:=Bx.make (t:=T_secateurref09_Inst) hw h1 h2 h3
 have hx1:=(hx0.kept hw (.alloc (B:=.row (instC x iv cv sv) T_secateurref09_Inst true))).any
 have bc:=b.c
 have m1:=h1.max
 have m2:=h2.max
 have m3:=h3.max
 obtain ⟨a1,c1,rfl⟩:=h1.slice
 obtain ⟨a2,c2,rfl⟩:=h2.slice
 obtain ⟨a3,c3,rfl⟩:=h3.slice
 have tail:=fun hk hl hf {env} e1 => check9_tail b hx1 hk hl hf (env:=env) e1
 have nl : 0 ≤ x.kind ∧ x.kind < 4 → ¬ x.Lean → x.check = 4:=fun hk hl => by unfold InstD.check; rw [tr_true hk,tr_false hl]; rfl
 have nf : 0 ≤ x.kind ∧ x.kind < 4 → x.Lean → ¬ x.Few → x.check = 22:=fun hk hl hf => by unfold InstD.check; rw [tr_true hk,tr_true hl,tr_false hf]; rfl
 generalize hq : H0.next = q at *
 by_cases hk1 : x.kind < 0
 ·have : x.check = 25:=by unfold InstD.check; rw [tr_false (by omega)]; rfl
  simp (disch:=omega) [-getElem?_pos,if_pos,if_neg,decide_eq_true,decide_eq_false,hdC,tlC,chk9,ir_ref09_Check,hq,hk1,this]
 ·by_cases hk2 : 3 < x.kind
  ·have : x.check = 25:=by unfold InstD.check; rw [tr_false (by omega)]; rfl
   simp (disch:=omega) [-getElem?_pos,if_pos,if_neg,decide_eq_true,decide_eq_false,hdC,tlC,chk9,ir_ref09_Check,hq,hk1,hk2,this]
  ·rcases (show x.kind = 0 ∨ x.kind = 1 ∨ x.kind = 2 ∨ x.kind = 3 by omega) with hk | hk | hk | hk
   ·have hkk : 0 ≤ x.kind ∧ x.kind < 4:=by omega
    have k0 : (x.kind = 0) = True:=eq_true hk
    have k1 : (x.kind = 1) = False:=eq_false (by omega)
    have k2 : (x.kind = 2) = False:=eq_false (by omega)
    have k3 : (x.kind = 3) = False:=eq_false (by omega)
    by_cases g1 : 0 < x.cost.length
    ·have:=nl hkk (fun h => by have:=((lean0 hk).1 h).1; omega)
     simp (disch:=omega) [-getElem?_pos,if_pos,if_neg,decide_eq_true,decide_eq_false,hdC,tlC,chk9,ir_ref09_Check,hq,k0,k1,k2,k3,hk1,hk2,g1,this]
    ·by_cases g2 : x.size = 0
     ·have g2T:=eq_true g2
      by_cases g3 : 0 < x.sets.length
      ·have:=nl hkk (fun h => by have:=((lean0 hk).1 h).2.2; omega)
       simp (disch:=omega) [-getElem?_pos,if_pos,if_neg,decide_eq_true,decide_eq_false,hdC,tlC,chk9,ir_ref09_Check,hq,k0,k1,k2,k3,hk1,hk2,g1,g2T,g3,this]
      ·have hl:=(lean0 hk).2 ⟨by omega,g2,by omega⟩
       have u1 : ¬ 4096 < x.sets.length:=by omega
       have u2 : ¬ 64 < x.cost.length:=by omega
       have u3 : ¬ x.size < 0:=by omega
       have u4 : ¬ 4096 < x.size:=by omega
       by_cases f1 : 4096 < x.items.length
       ·have:=nf hkk hl (fun h => by have:=h.items; omega)
        simp (disch:=omega) [-getElem?_pos,if_pos,if_neg,decide_eq_true,decide_eq_false,hdC,tlC,chk9,ir_ref09_Check,hq,k0,k1,k2,k3,hk1,hk2,g1,g2T,g3,f1,u1,u2,u3,u4,this]
       ·have hf : x.Few:=⟨by omega,by omega,by omega,by omega,by omega⟩
        simp (disch:=omega) [-getElem?_pos,if_pos,if_neg,decide_eq_true,decide_eq_false,hdC,tlC,chk9,ir_ref09_Check,hq,k0,k1,k2,k3,hk1,hk2,g1,g2T,g3,f1,u1,u2,u3,u4]
        exact tail hkk hl hf (by simp)
     ·have:=nl hkk (fun h => g2 ((lean0 hk).1 h).2.1)
      simp (disch:=omega) [-getElem?_pos,if_pos,if_neg,decide_eq_true,decide_eq_false,hdC,tlC,chk9,ir_ref09_Check,hq,k0,k1,k2,k3,hk1,hk2,g1,g2,this]
   ·have hkk : 0 ≤ x.kind ∧ x.kind < 4:=by omega
    have k0 : (x.kind = 0) = False:=eq_false (by omega)
    have k1 : (x.kind = 1) = True:=eq_true hk
    have k2 : (x.kind = 2) = False:=eq_false (by omega)
    have k3 : (x.kind = 3) = False:=eq_false (by omega)
    by_cases g1 : x.cap = 0
    ·have g1T:=eq_true g1
     by_cases g2 : 0 < x.items.length
     ·have:=nl hkk (fun h => by have:=((lean12 (.inl hk)).1 h).2.1; omega)
      simp (disch:=omega) [-getElem?_pos,if_pos,if_neg,decide_eq_true,decide_eq_false,hdC,tlC,chk9,ir_ref09_Check,hq,k0,k1,k2,k3,hk1,hk2,g1T,g2,this]
     ·by_cases g3 : x.size = 0
      ·have g3T:=eq_true g3
       by_cases g4 : 0 < x.sets.length
       ·have:=nl hkk (fun h => by have:=((lean12 (.inl hk)).1 h).2.2.2; omega)
        simp (disch:=omega) [-getElem?_pos,if_pos,if_neg,decide_eq_true,decide_eq_false,hdC,tlC,chk9,ir_ref09_Check,hq,k0,k1,k2,k3,hk1,hk2,g1T,g2,g3T,g4,this]
       ·have hl:=(lean12 (.inl hk)).2 ⟨g1,by omega,g3,by omega⟩
        have u0 : ¬ 4096 < x.items.length:=by omega
        have u1 : ¬ 4096 < x.sets.length:=by omega
        have u3 : ¬ x.size < 0:=by omega
        have u4 : ¬ 4096 < x.size:=by omega
        by_cases f1 : 64 < x.cost.length
        ·have:=nf hkk hl (fun h => by have:=h.sq (by omega); omega)
         simp (disch:=omega) [-getElem?_pos,if_pos,if_neg,decide_eq_true,decide_eq_false,hdC,tlC,chk9,ir_ref09_Check,hq,k0,k1,k2,k3,hk1,hk2,g1T,g2,g3T,g4,f1,u0,u1,u3,u4,this]
        ·by_cases f2 : x.cost.length = 0
         ·have:=nf hkk hl (fun h => by have:=h.sq (by omega); omega)
          have f2T : x.cost = []:=List.eq_nil_of_length_eq_zero f2
          have f3 : (x.cost = []) = True:=eq_true f2T
          simp (disch:=omega) [-getElem?_pos,if_pos,if_neg,decide_eq_true,decide_eq_false,hdC,tlC,chk9,ir_ref09_Check,hq,k0,k1,k2,k3,hk1,hk2,g1T,g2,g3T,g4,f1,f3,u0,u1,u3,u4,this]
         ·have hf : x.Few:=⟨by omega,by omega,by omega,by omega,by omega⟩
          have f3 : ¬ x.cost = []:=fun h => f2 (by rw [h]; rfl)
          simp (disch:=omega) [-getElem?_pos,if_pos,if_neg,decide_eq_true,decide_eq_false,hdC,tlC,chk9,ir_ref09_Check,hq,k0,k1,k2,k3,hk1,hk2,g1T,g2,g3T,g4,f1,f3,u0,u1,u3,u4]
          exact tail hkk hl hf (by simp)
      ·have:=nl hkk (fun h => g3 ((lean12 (.inl hk)).1 h).2.2.1)
       simp (disch:=omega) [-getElem?_pos,if_pos,if_neg,decide_eq_true,decide_eq_false,hdC,tlC,chk9,ir_ref09_Check,hq,k0,k1,k2,k3,hk1,hk2,g1T,g2,g3,this]
    ·have:=nl hkk (fun h => g1 ((lean12 (.inl hk)).1 h).1)
     simp (disch:=omega) [-getElem?_pos,if_pos,if_neg,decide_eq_true,decide_eq_false,hdC,tlC,chk9,ir_ref09_Check,hq,k0,k1,k2,k3,hk1,hk2,g1,this]
   ·have hkk : 0 ≤ x.kind ∧ x.kind < 4:=by omega
    have k0 : (x.kind = 0) = False:=eq_false (by omega)
    have k1 : (x.kind = 1) = False:=eq_false (by omega)
    have k2 : (x.kind = 2) = True:=eq_true hk
    have k3 : (x.kind = 3) = False:=eq_false (by omega)
    by_cases g1 : x.cap = 0
    ·have g1T:=eq_true g1
     by_cases g2 : 0 < x.items.length
     ·have:=nl hkk (fun h => by have:=((lean12 (.inr hk)).1 h).2.1; omega)
      simp (disch:=omega) [-getElem?_pos,if_pos,if_neg,decide_eq_true,decide_eq_false,hdC,tlC,chk9,ir_ref09_Check,hq,k0,k1,k2,k3,hk1,hk2,g1T,g2,this]
     ·by_cases g3 : x.size = 0
      ·have g3T:=eq_true g3
       by_cases g4 : 0 < x.sets.length
       ·have:=nl hkk (fun h => by have:=((lean12 (.inr hk)).1 h).2.2.2; omega)
        simp (disch:=omega) [-getElem?_pos,if_pos,if_neg,decide_eq_true,decide_eq_false,hdC,tlC,chk9,ir_ref09_Check,hq,k0,k1,k2,k3,hk1,hk2,g1T,g2,g3T,g4,this]
       ·have hl:=(lean12 (.inr hk)).2 ⟨g1,by omega,g3,by omega⟩
        have u0 : ¬ 4096 < x.items.length:=by omega
        have u1 : ¬ 4096 < x.sets.length:=by omega
        have u3 : ¬ x.size < 0:=by omega
        have u4 : ¬ 4096 < x.size:=by omega
        by_cases f1 : 64 < x.cost.length
        ·have:=nf hkk hl (fun h => by have:=h.sq (by omega); omega)
         simp (disch:=omega) [-getElem?_pos,if_pos,if_neg,decide_eq_true,decide_eq_false,hdC,tlC,chk9,ir_ref09_Check,hq,k0,k1,k2,k3,hk1,hk2,g1T,g2,g3T,g4,f1,u0,u1,u3,u4,this]
        ·by_cases f2 : x.cost.length = 0
         ·have:=nf hkk hl (fun h => by have:=h.sq (by omega); omega)
          have f2T : x.cost = []:=List.eq_nil_of_length_eq_zero f2
          have f3 : (x.cost = []) = True:=eq_true f2T
          simp (disch:=omega) [-getElem?_pos,if_pos,if_neg,decide_eq_true,decide_eq_false,hdC,tlC,chk9,ir_ref09_Check,hq,k0,k1,k2,k3,hk1,hk2,g1T,g2,g3T,g4,f1,f3,u0,u1,u3,u4,this]
         ·have hf : x.Few:=⟨by omega,by omega,by omega,by omega,by omega⟩
          have f3 : ¬ x.cost = []:=fun h => f2 (by rw [h]; rfl)
          simp (disch:=omega) [-getElem?_pos,if_pos,if_neg,decide_eq_true,decide_eq_false,hdC,tlC,chk9,ir_ref09_Check,hq,k0,k1,k2,k3,hk1,hk2,g1T,g2,g3T,g4,f1,f3,u0,u1,u3,u4]
          exact tail hkk hl hf (by simp)
      ·have:=nl hkk (fun h => g3 ((lean12 (.inr hk)).1 h).2.2.1)
       simp (disch:=omega) [-getElem?_pos,if_pos,if_neg,decide_eq_true,decide_eq_false,hdC,tlC,chk9,ir_ref09_Check,hq,k0,k1,k2,k3,hk1,hk2,g1T,g2,g3,this]
    ·have:=nl hkk (fun h => g1 ((lean12 (.inr hk)).1 h).1)
     simp (disch:=omega) [-getElem?_pos,if_pos,if_neg,decide_eq_true,decide_eq_false,hdC,tlC,chk9,ir_ref09_Check,hq,k0,k1,k2,k3,hk1,hk2,g1,this]
   ·have hkk : 0 ≤ x.kind ∧ x.kind < 4:=by omega
    have k0 : (x.kind = 0) = False:=eq_false (by omega)
    have k1 : (x.kind = 1) = False:=eq_false (by omega)
    have k2 : (x.kind = 2) = False:=eq_false (by omega)
    have k3 : (x.kind = 3) = True:=eq_true hk
    by_cases g1 : x.cap = 0
    ·have g1T:=eq_true g1
     by_cases g2 : 0 < x.items.length
     ·have:=nl hkk (fun h => by have:=((lean3 hk).1 h).2.1; omega)
      simp (disch:=omega) [-getElem?_pos,if_pos,if_neg,decide_eq_true,decide_eq_false,hdC,tlC,chk9,ir_ref09_Check,hq,k0,k1,k2,k3,hk1,hk2,g1T,g2,this]
     ·by_cases g3 : 0 < x.cost.length
      ·have:=nl hkk (fun h => by have:=((lean3 hk).1 h).2.2; omega)
       simp (disch:=omega) [-getElem?_pos,if_pos,if_neg,decide_eq_true,decide_eq_false,hdC,tlC,chk9,ir_ref09_Check,hq,k0,k1,k2,k3,hk1,hk2,g1T,g2,g3,this]
      ·have hl:=(lean3 hk).2 ⟨g1,by omega,by omega⟩
       have u0 : ¬ 4096 < x.items.length:=by omega
       have u2 : ¬ 64 < x.cost.length:=by omega
       by_cases f1 : 4096 < x.sets.length
       ·have:=nf hkk hl (fun h => by have:=h.sets; omega)
        simp (disch:=omega) [-getElem?_pos,if_pos,if_neg,decide_eq_true,decide_eq_false,hdC,tlC,chk9,ir_ref09_Check,hq,k0,k1,k2,k3,hk1,hk2,g1T,g2,g3,f1,u0,u2,this]
       ·by_cases f2 : x.size < 0
        ·have:=nf hkk hl (fun h => by have:=h.size0; omega)
         simp (disch:=omega) [-getElem?_pos,if_pos,if_neg,decide_eq_true,decide_eq_false,hdC,tlC,chk9,ir_ref09_Check,hq,k0,k1,k2,k3,hk1,hk2,g1T,g2,g3,f1,f2,u0,u2,this]
        ·by_cases f3 : 4096 < x.size
         ·have:=nf hkk hl (fun h => by have:=h.size; omega)
          simp (disch:=omega) [-getElem?_pos,if_pos,if_neg,decide_eq_true,decide_eq_false,hdC,tlC,chk9,ir_ref09_Check,hq,k0,k1,k2,k3,hk1,hk2,g1T,g2,g3,f1,f2,f3,u0,u2,this]
         ·have hf : x.Few:=⟨by omega,by omega,by omega,by omega,by omega⟩
          simp (disch:=omega) [-getElem?_pos,if_pos,if_neg,decide_eq_true,decide_eq_false,hdC,tlC,chk9,ir_ref09_Check,hq,k0,k1,k2,k3,hk1,hk2,g1T,g2,g3,f1,f2,f3,u0,u2]
          exact tail hkk hl hf (by simp)
    ·have:=nl hkk (fun h => g1 ((lean3 hk).1 h).1)
     simp (disch:=omega) [-getElem?_pos,if_pos,if_neg,decide_eq_true,decide_eq_false,hdC,tlC,chk9,ir_ref09_Check,hq,k0,k1,k2,k3,hk1,hk2,g1,this]
theorem N9_spec {p : Nat → Prop} {H : AH} {v : Value} {x : InstD} (hx : InstV p H v x) : AFn Tryd.prog F_ref09_N [v] H fun u H' => u = .int .i64 x.n ∧ H' = H:=by
 refine AFn.calm (fun H0 hs => ?_) rfl
 have hx0:=hx.same hs
 obtain ⟨iv,cv,sv,rfl,i1,i2,i3,h1,h2,h3⟩:=id hx0
 refine AFn.enter mixed ir_ref09_N_eq (by simp [ir_ref09_N]) fun hw => ?_
 have bc : (H0.alloc (.row (instC x iv cv sv) T_secateurref09_Inst true)).cells H0.next = some (instC x iv cv sv):=AH.cells_alloc_new
 have hx1:=(hx0.kept hw (.alloc (B:=.row (instC x iv cv sv) T_secateurref09_Inst true))).any
 have hm:=h2.max
 obtain ⟨a1,c1,rfl⟩:=h1.slice
 obtain ⟨a2,c2,rfl⟩:=h2.slice
 obtain ⟨a3,c3,rfl⟩:=h3.slice
 generalize hq : H0.next = q at *
 simp (disch:=omega) [-getElem?_pos,if_pos,if_neg,decide_eq_true,decide_eq_false,ir_ref09_N,hq,inst_cut]
 generalize H0.alloc (.row (instC x (.slice a1 x.items.length c1) (.slice a2 x.cost.length c2) (.slice a3 x.sets.length c3)) T_secateurref09_Inst true) = H1 at *
 refine AFn.pure (Check9_spec hx1) ?_
 unfold InstD.n
 by_cases hc : x.check = 0
 ·have hok:=InstD.check_ok.1 hc
  have f1:=hok.few.items
  have f2:=hok.few.sets
  have k0:=hok.kind0
  have k4:=hok.kind4
  rcases (show x.kind = 0 ∨ x.kind = 1 ∨ x.kind = 2 ∨ x.kind = 3 by omega) with hk | hk | hk | hk
  ·have g:=(lean0 hk).1 hok.lean
   simp (disch:=omega) [-getElem?_pos,if_pos,if_neg,decide_eq_true,decide_eq_false,hc,bc,hk,IntWalk.i64_in]
   omega
  ·have g:=(lean12 (.inl hk)).1 hok.lean
   have g2:=hok.few.sq (.inl hk)
   simp (disch:=omega) [-getElem?_pos,if_pos,if_neg,decide_eq_true,decide_eq_false,hc,bc,hk,IntWalk.i64_in]
   omega
  ·have g2:=hok.few.sq (.inr hk)
   simp (disch:=omega) [-getElem?_pos,if_pos,if_neg,decide_eq_true,decide_eq_false,hc,bc,hk,IntWalk.i64_in]
  ·have g:=(lean3 hk).1 hok.lean
   simp (disch:=omega) [-getElem?_pos,if_pos,if_neg,decide_eq_true,decide_eq_false,hc,bc,hk,IntWalk.i64_in]
   omega
 ·simp (disch:=omega) [-getElem?_pos,if_pos,if_neg,decide_eq_true,decide_eq_false,hc]
end Go.Proofs.YtlcddhgfkkjhkaaDoor
