/-
  The document's Essential and Needless.
-/
import Derived.Test.YtejifalflkbekaaGreatDoorDs21
set_option maxRecDepth 100000
set_option linter.unusedSimpArgs false
set_option linter.unusedVariables false
namespace Go.Abs
open Go Go.Proofs.YtejifalflkbekaaGreatDoor.Bs
def esE (L : List SetD) (T : List Bool) (s : SetD) (m : Nat) : Bool:=(List.range m).any fun e => T.getD e false && hasE s e && decide (cntE L e = 1)
theorem esE_succ {L : List SetD} {T : List Bool} {s : SetD} {m : Nat} : esE L T s (m + 1) = (esE L T s m || (T.getD m false && hasE s m && decide (cntE L m = 1))):=by unfold esE; rw [List.range_succ,List.any_append]; simp
def stT (L : List SetD) (T : List Bool) (b m : Nat) : Bool:=(List.range m).any fun a => stR L T a b
theorem stT_succ {L : List SetD} {T : List Bool} {b m : Nat} : stT L T b (m + 1) = (stT L T b m || stR L T m b):=by unfold stT; rw [List.range_succ,List.any_append]; simp
theorem stT_need {L : List SetD} {T : List Bool} {b : Nat} (hb : b < L.length) : stT L T b L.length = needB L T b:=by
 unfold stT needB
 rw [Bool.eq_iff_iff,List.any_eq_true,List.any_eq_true]
 constructor
 ·rintro ⟨a,ha,h⟩; exact ⟨a,ha,by rw [st_same (List.mem_range.1 ha) hb]; exact h⟩
 ·rintro ⟨a,ha,h⟩; exact ⟨a,ha,by rw [← st_same (List.mem_range.1 ha) hb]; exact h⟩
end Go.Abs
namespace Go.Proofs.YtejifalflkbekaaGreatDoor
open Go Go.Abs Go.Proofs.YtejifalflkbekaaGreatDoor.Bs
def E0I (H1 : AH) (lv : Value) (L : List SetD) (e : Nat) (k : Nat) (env : Env) (H' : AH) : Prop :=
 H' = H1 ∧ env 1 = some lv ∧ env 9 = some (.int .i64 e) ∧ env 11 = some (.int .i64 k) ∧ env 10 = some (.int .i64 (cntE (L.take k) e))
def E0Q (H1 : AH) (L : List SetD) (e : Nat) (x : AExit) (env : Env) (H' : AH) : Prop:=x = .exit 4 ∧ H' = H1 ∧ env 10 = some (.int .i64 (cntE L e))
theorem essR_l0 {p : Nat → Prop} {H1 : AH} {lv : Value} {L : List SetD} {e : Nat} (hL : SlV p H1 lv L) (hl : L.length ≤ 30) (hel : ∀ s ∈ L,s.elems.length ≤ 30) {env : Env} (h : E0I H1 lv L e 0 env H1) : wpC Tryz.prog 74 (.loop ir_ref18_Essential_l0) (E0Q H1 L e) env H1:=by
 refine loop_upto L.length (E0I H1 lv L e) (Q:=E0Q H1 L e) h ?_
 rintro k env H' hk ⟨rfl,e1,e9,e11,e10⟩
 obtain ⟨la,lc,hlv⟩:=hL.slice
 by_cases hkn : k < L.length
 ·obtain ⟨b0,off,sp,cap,cs,hv,q1,q2⟩:=sets_rd hL (by omega)
  obtain ⟨ev,q3,q4,q5,q6,q7⟩:=q2 k hkn
  have hsl:=hel L[k] (List.getElem_mem hkn)
  have hh:=hasR_spec (c:=L[k].cost) (e:=(e : Int)) q7 (by omega)
  have hst:=cntE_take (L:=L) (e:=e) hkn
  have hhe : hasE L[k] e = decide ((e : Int) ∈ L[k].elems):=rfl
  rw [← hhe] at hh
  have hcl:=cntE_le (L.take k) e
  have htl : (L.take k).length ≤ 30:=by rw [List.length_take]; omega
  have hkn' : (k : Int) < (L.length : Int):=by omega
  subst hv
  generalize L[k].cost = c at *
  generalize cntE (L.take k) e = n at *
  cases hb : hasE L[k] e with
  | true =>
   rw [hb] at hh hst
   simp (disch:=omega) [-getElem?_pos,if_pos,if_neg,decide_eq_true,decide_eq_false,ir_ref18_Essential_l0,e1,e9,e10,e11,hkn,hkn',q1,q3]
   refine AFn.pure hh ?_
   simp (disch:=omega) [-getElem?_pos,if_pos,if_neg,decide_eq_true,decide_eq_false,e10,e11,hkn,IntWalk.i64_in]
   exact ⟨rfl,by simp [e1],by simp [e9],by simp,by simp [hst]⟩
  | false =>
   rw [hb] at hh hst
   simp (disch:=omega) [-getElem?_pos,if_pos,if_neg,decide_eq_true,decide_eq_false,ir_ref18_Essential_l0,e1,e9,e10,e11,hkn,hkn',q1,q3]
   refine AFn.pure hh ?_
   simp (disch:=omega) [-getElem?_pos,if_pos,if_neg,decide_eq_true,decide_eq_false,e10,e11,hkn,IntWalk.i64_in]
   exact ⟨rfl,by simp [e1],by simp [e9],by simp,by simp [hst,e10]⟩
 ·obtain rfl : k = L.length:=by omega
  rw [List.take_length] at e10
  subst hlv
  simp (disch:=omega) [-getElem?_pos,if_pos,if_neg,decide_eq_true,decide_eq_false,ir_ref18_Essential_l0,e1,e11]
  exact ⟨rfl,rfl,e10⟩
def E1I (H1 : AH) (tv lv : Value) (L : List SetD) (T : List Bool) (s : SetD) (b : Nat) (k : Nat) (env : Env) (H' : AH) : Prop :=
 H' = H1 ∧ env 0 = some tv ∧ env 1 = some lv ∧ env 7 = some (.int .i64 b) ∧ env 9 = some (.int .i64 k) ∧ env 8 = some (.bool (esE L T s k))
def E1Q (H1 : AH) (L : List SetD) (T : List Bool) (s : SetD) (x : AExit) (env : Env) (H' : AH) : Prop:=x = .exit 2 ∧ H' = H1 ∧ env 8 = some (.bool (esE L T s T.length))
theorem essR_l1 {p p' : Nat → Prop} {H1 : AH} {tv lv : Value} {L : List SetD} {T : List Bool} {b : Nat} (hL : SlV p H1 lv L) (hT : SlV p' H1 tv T) (hb : b < L.length) (hl : L.length ≤ 30) (hel : ∀ s ∈ L,s.elems.length ≤ 30) (hn : T.length ≤ 1000) {env : Env} (h : E1I H1 tv lv L T L[b] b 0 env H1) : wpC Tryz.prog 74 (.loop ir_ref18_Essential_l1) (E1Q H1 L T L[b]) env H1:=by
 refine loop_upto T.length (E1I H1 tv lv L T L[b] b) (Q:=E1Q H1 L T L[b]) h ?_
 rintro k env H' hk ⟨rfl,e0,e1,e7,e9,e8⟩
 obtain ⟨ta,tc,htv⟩:=hT.slice
 by_cases hkn : k < T.length
 ·obtain ⟨b0,off,sp,cap,cs,hv,q1,q2⟩:=sets_rd hL (by omega)
  obtain ⟨ev,q3,q4,q5,q6,q7⟩:=q2 b hb
  obtain ⟨b1,off1,sp1,cap1,cs1,hv1,r1,r2⟩:=bools_rd hT (by omega)
  have r3:=r2 k hkn
  have hg : T.getD k false = T[k]:=by rw [List.getD_eq_getElem?_getD,List.getElem?_eq_getElem hkn]; rfl
  have hsl:=hel L[b] (List.getElem_mem hb)
  have hh:=hasR_spec (c:=L[b].cost) (e:=(k : Int)) q7 (by omega)
  have hst:=esE_succ (L:=L) (T:=T) (s:=L[b]) (m:=k)
  rw [hg] at hst
  have hhe : hasE L[b] k = decide ((k : Int) ∈ L[b].elems):=rfl
  rw [← hhe] at hh
  have hkn' : (k : Int) < (T.length : Int):=by omega
  have hb' : (b : Int) < (L.length : Int):=by omega
  subst htv
  obtain ⟨b1r,hvr⟩ : ∃ x,x = (Value.slice ta T.length tc):=⟨_,rfl⟩
  simp (disch:=omega) [-getElem?_pos,if_pos,if_neg,decide_eq_true,decide_eq_false,ir_ref18_Essential_l1,e0,e1,e7,e9,hkn,hkn']
  refine wpC_use (essR_l0 (lv:=lv) (L:=L) (e:=k) hL hl hel ?_) ?_
  ·exact ⟨rfl,by simp [e1],by simp [e9],by simp,by simp [cntE]⟩
  rintro x env2 H2 ⟨rfl,rfl,f10⟩ hu
  have u0:=hu 0 (by decide)
  have u1:=hu 1 (by decide)
  have u7:=hu 7 (by decide)
  have u8:=hu 8 (by decide)
  have u9:=hu 9 (by decide)
  simp at u0 u1 u7 u8 u9
  rw [e0] at u0
  rw [e1] at u1
  rw [e7] at u7
  rw [e8] at u8
  rw [e9] at u9
  rw [hv1] at u0
  rw [hv] at u1
  generalize esE L T L[b] k = ab at *
  generalize hasE L[b] k = hb2 at *
  generalize L[b].cost = c at *
  generalize T[k] = tk at *
  by_cases hc : cntE L k = 1
  ·rw [decide_eq_true hc] at hst
   have hc' : (cntE L k : Int) = 1:=by omega
   simp (disch:=omega) [-getElem?_pos,if_pos,if_neg,decide_eq_true,decide_eq_false,u0,u1,u7,u9,hb,hb',q1,q3]
   refine AFn.pure hh ?_
   cases ab <;> cases tk <;> cases hb2 <;> (simp (disch:=omega) [-getElem?_pos,if_pos,if_neg,decide_eq_true,decide_eq_false,u0,u1,u7,u8,u9,f10,hc',r1,r3,hkn,hkn',IntWalk.i64_in]; exact ⟨rfl,by simp [u0,hv1],by simp [u1,hv],by simp [u7],by simp,by simp [hst,u8]⟩)
  ·rw [decide_eq_false hc] at hst
   have hc' : ¬ (cntE L k : Int) = 1:=by omega
   simp (disch:=omega) [-getElem?_pos,if_pos,if_neg,decide_eq_true,decide_eq_false,u0,u1,u7,u9,hb,hb',q1,q3]
   refine AFn.pure hh ?_
   cases ab <;> cases tk <;> cases hb2 <;> (simp (disch:=omega) [-getElem?_pos,if_pos,if_neg,decide_eq_true,decide_eq_false,u0,u1,u7,u8,u9,f10,hc',r1,r3,hkn,hkn',IntWalk.i64_in]; exact ⟨rfl,by simp [u0,hv1],by simp [u1,hv],by simp [u7],by simp,by simp [hst,u8]⟩)
 ·obtain rfl : k = T.length:=by omega
  subst htv
  simp (disch:=omega) [-getElem?_pos,if_pos,if_neg,decide_eq_true,decide_eq_false,ir_ref18_Essential_l1,e0,e9]
  exact ⟨rfl,rfl,e8⟩
end Go.Proofs.YtejifalflkbekaaGreatDoor
