/-
  package dual: stands, Needless.
-/
import Derived.Test.YtejifalflkbekaaDoorDs20
set_option maxRecDepth 100000
set_option linter.unusedSimpArgs false
set_option linter.unusedVariables false
namespace Go.Proofs.YtejifalflkbekaaDoor
open Go Go.Abs Go.Proofs.YtejifalflkbekaaDoor.Bs
theorem stands_spec {p q : Nat → Prop} {H : AH} {lv hv : Value} {L : List SetD} {T : List Bool} {a b : Nat} (hL : SlV p H lv L) (hH : SlV q H hv (lksB L T)) (ha : a < L.length) (hb : b < L.length) : AFn Tryd.prog F_dual_stands [lv,hv,.int .i64 a,.int .i64 b] H fun u H' => u = .bool (stB L T a b) ∧ H' = H:=by
 refine AFn.calm (fun H0 hsm => ?_) rfl
 have hL0:=hL.same hsm
 have hH0:=hH.same hsm
 clear hL hH
 refine AFn.enter mixed ir_dual_stands_eq (by simp [ir_dual_stands]) fun hw => ?_
 have hll : (lksB L T).length = L.length:=by simp [lksB]
 obtain ⟨b0,off,sp,cap,cs,rfl,q1,q2⟩:=sets_rd hL0 (by omega)
 obtain ⟨b1,off1,sp1,cap1,cs1,rfl,r1,r2⟩:=bss_rd hH0 (by omega)
 obtain ⟨_,_,qa,_,ia,_⟩:=q2 a ha
 obtain ⟨_,_,qb,_,ib,_⟩:=q2 b hb
 obtain ⟨sa,ra,va⟩:=r2 a (by omega)
 obtain ⟨sb,rb,vb⟩:=r2 b (by omega)
 have hba : (lksB L T)[a]'(by omega) = ⟨lkB T L[a]⟩:=by simp [lksB]
 have hbb : (lksB L T)[b]'(by omega) = ⟨lkB T L[b]⟩:=by simp [lksB]
 rw [hba] at ra va
 rw [hbb] at rb vb
 rw [hll]
 have hst : stB L T a b = (decide (a ≠ b) && (decide ((eachB (fun x y => x && !y) (lkB T L[b]) (lkB T L[a])).count true = 0) && (decide (L[a].cost ≤ L[b].cost) && (decide (L[a].cost < L[b].cost) || (decide ((lkB T L[b]).count true < (lkB T L[a]).count true) || decide (a < b)))))):=by unfold stB subL; rw [lkN_eq ha,lkN_eq hb,costN_eq ha,costN_eq hb]
 rw [hst]
 have hwi:=Within_spec vb va
 have hca:=Count_spec va
 have hcb:=Count_spec vb
 have ha' : (a : Int) < (L.length : Int):=by omega
 have hb' : (b : Int) < (L.length : Int):=by omega
 clear q2 r2 hst hba hbb hL0 hH0 va vb
 simp only [lkB_len] at ra rb hwi hca hcb
 generalize L[a].cost = ca at *
 generalize L[b].cost = cb at *
 generalize (lkB T L[a]).count true = na at *
 generalize (lkB T L[b]).count true = nb at *
 generalize hwn : decide ((eachB (fun x y => x && !y) (lkB T L[b]) (lkB T L[a])).count true = 0) = wn at *
 by_cases hab : a = b
 ·subst hab
  simp (disch:=omega) [-getElem?_pos,if_pos,if_neg,decide_eq_true,decide_eq_false,ir_dual_stands,ha,ha',q1,r1,qa,qb,ra,rb]
 ·have hab' : ¬ (a : Int) = (b : Int):=by omega
  rw [decide_eq_true (show a ≠ b from hab)]
  cases wn with
  | false =>
   simp (disch:=omega) [-getElem?_pos,if_pos,if_neg,decide_eq_true,decide_eq_false,ir_dual_stands,hab,hab',ha,hb,ha',hb',q1,r1,qa,qb,ra,rb]
   refine AFnD.of hwi ?_
   simp (disch:=omega) [-getElem?_pos,if_pos,if_neg,decide_eq_true,decide_eq_false,]
  | true =>
   by_cases h1 : ca ≤ cb
   ·have h1' : ¬ cb < ca:=by omega
    by_cases h2 : ca < cb
    ·simp (disch:=omega) [-getElem?_pos,if_pos,if_neg,decide_eq_true,decide_eq_false,ir_dual_stands,hab,hab',ha,hb,ha',hb',q1,r1,qa,qb,ra,rb]
     refine AFnD.of hwi ?_
     simp (disch:=omega) [-getElem?_pos,if_pos,if_neg,decide_eq_true,decide_eq_false,ha,hb,ha',hb',q1,r1,qa,qb,ra,rb,h1,h1',h2]
    ·have h2' : ca = cb:=by omega
     by_cases h3 : nb < na
     ·have h3' : (nb : Int) < (na : Int):=by omega
      simp (disch:=omega) [-getElem?_pos,if_pos,if_neg,decide_eq_true,decide_eq_false,ir_dual_stands,hab,hab',ha,hb,ha',hb',q1,r1,qa,qb,ra,rb]
      refine AFnD.of hwi ?_
      simp (disch:=omega) [-getElem?_pos,if_pos,if_neg,decide_eq_true,decide_eq_false,ha,hb,ha',hb',q1,r1,qa,qb,ra,rb,h1,h1',h2]
      refine AFnD.of hca ?_
      simp (disch:=omega) [-getElem?_pos,if_pos,if_neg,decide_eq_true,decide_eq_false,]
      refine AFnD.of hcb ?_
      simp (disch:=omega) [-getElem?_pos,if_pos,if_neg,decide_eq_true,decide_eq_false,h3,h3',h2,h1]
     ·have h3' : ¬ (nb : Int) < (na : Int):=by omega
      simp (disch:=omega) [-getElem?_pos,if_pos,if_neg,decide_eq_true,decide_eq_false,ir_dual_stands,hab,hab',ha,hb,ha',hb',q1,r1,qa,qb,ra,rb]
      refine AFnD.of hwi ?_
      simp (disch:=omega) [-getElem?_pos,if_pos,if_neg,decide_eq_true,decide_eq_false,ha,hb,ha',hb',q1,r1,qa,qb,ra,rb,h1,h1',h2]
      refine AFnD.of hca ?_
      simp (disch:=omega) [-getElem?_pos,if_pos,if_neg,decide_eq_true,decide_eq_false,]
      refine AFnD.of hcb ?_
      simp (disch:=omega) [-getElem?_pos,if_pos,if_neg,decide_eq_true,decide_eq_false,h3,h3',h2,h1]
   ·have h1' : cb < ca:=by omega
    simp (disch:=omega) [-getElem?_pos,if_pos,if_neg,decide_eq_true,decide_eq_false,ir_dual_stands,hab,hab',ha,hb,ha',hb',q1,r1,qa,qb,ra,rb]
    refine AFnD.of hwi ?_
    simp (disch:=omega) [-getElem?_pos,if_pos,if_neg,decide_eq_true,decide_eq_false,ha,hb,ha',hb',q1,r1,qa,qb,ra,rb,h1,h1']
def NdI (H1 : AH) (lv hv : Value) (L : List SetD) (T : List Bool) (b : Nat) (k : Nat) (env : Env) (H' : AH) : Prop :=
 env 1 = some lv ∧ env 5 = some hv ∧ env 7 = some (.int .i64 b) ∧ env 23 = some (.int .i64 L.length) ∧ env 24 = some (.int .i64 k) ∧ WF H' ∧ Keep [] H1 H' ∧ ((List.range k).any fun a => stB L T a b) = false ∧ ∃ a S,env 6 = some a ∧ OwnL (fun _ => False) H' T_int a (selK (needB L T) b) S ∧ ∀ c ∈ S,H1.next ≤ c
def NdQ (H1 : AH) (L : List SetD) (T : List Bool) (b : Nat) (x : AExit) (env : Env) (H' : AH) : Prop :=
 x = .exit 2 ∧ WF H' ∧ Keep [] H1 H' ∧ ∃ a S,env 6 = some a ∧ OwnL (fun _ => False) H' T_int a (selK (needB L T) (b + 1)) S ∧ ∀ c ∈ S,H1.next ≤ c
theorem needless_l0 {p q : Nat → Prop} {H1 Hs : AH} {lv hv : Value} {L : List SetD} {T : List Bool} {b : Nat} (hw : WF H1) (hL : SlV p H1 lv L) (hH : SlV q H1 hv (lksB L T)) (hb : b < L.length) (hl : L.length ≤ 30) {env : Env} (h : NdI H1 lv hv L T b 0 env Hs) :
  wpC Tryd.prog 39 (.loop ir_dual_Needless_l0) (NdQ H1 L T b) env Hs:=by
 refine loop_upto L.length (NdI H1 lv hv L T b) (Q:=NdQ H1 L T b) h ?_
 rintro k env H' hk ⟨e1,e5,e7,e23,e24,w',k',hno,a,S,e6,hA,hS⟩
 have hn':=k'.next
 obtain ⟨aa,ac,rfl⟩:=hA.slice
 have hs1:=selK_succ (needB L T) b
 have hl1:=selK_len (needB L T) b
 by_cases hkn : k < L.length
 ·have hst:=stands_spec (hL.kept hw k') (hH.kept hw k') hkn hb
  have hsn : ((List.range (k+1)).any fun a => stB L T a b) = stB L T k b:=by rw [List.range_succ,List.any_append,hno]; simp
  cases hc : stB L T k b with
  | true =>
   rw [hc] at hst
   have hnb : needB L T b = true:=List.any_eq_true.2 ⟨k,List.mem_range.2 hkn,hc⟩
   rw [hnb,if_pos rfl] at hs1
   obtain ⟨va,vc,H4,S',p1,w4,hA4,k4,hS4,_,_⟩:=push_int w' hA k' hS (a:=(b : Int)) (by unfold I64; omega) (by omega)
   have pE : elemsA (H'.alloc (.row [.int .i64 (b : Int)] T_int true)) 1 (.slice (some ⟨H'.next,0,none⟩) 1 1) = some [.int .i64 (b : Int)]:=elems_one rfl
   simp (disch:=omega) [-getElem?_pos,if_pos,if_neg,decide_eq_true,decide_eq_false,ir_dual_Needless_l0,e1,e5,e6,e7,e23,e24,hkn]
   refine AFn.pure hst ?_
   simp (disch:=omega) [-getElem?_pos,if_pos,if_neg,decide_eq_true,decide_eq_false,e6,e7,pE,p1]
   exact ⟨rfl,w4,k4,_,S',by simp; rfl,by rw [hs1]; simpa using hA4,hS4⟩
  | false =>
   rw [hc] at hst hsn
   simp (disch:=omega) [-getElem?_pos,if_pos,if_neg,decide_eq_true,decide_eq_false,ir_dual_Needless_l0,e1,e5,e6,e7,e23,e24,hkn]
   refine AFn.pure hst ?_
   simp (disch:=omega) [-getElem?_pos,if_pos,if_neg,decide_eq_true,decide_eq_false,e24,hkn,IntWalk.i64_in]
   exact ⟨by simp [e1],by simp [e5],by simp [e7],by simp [e23],by simp,w',k',hsn,_,S,by simp [e6],hA,hS⟩
 ·obtain rfl : k = L.length:=by omega
  have hnb : needB L T b = false:=hno
  rw [hnb,if_neg (by simp)] at hs1
  simp (disch:=omega) [-getElem?_pos,if_pos,if_neg,decide_eq_true,decide_eq_false,ir_dual_Needless_l0,e23,e24]
  exact ⟨rfl,w',k',_,S,e6,by rw [hs1]; exact hA,hS⟩
def NeI (H1 : AH) (lv hv : Value) (L : List SetD) (T : List Bool) (k : Nat) (env : Env) (H' : AH) : Prop :=
 env 1 = some lv ∧ env 5 = some hv ∧ env 18 = some (.int .i64 L.length) ∧ env 19 = some (.int .i64 k) ∧ WF H' ∧ Keep [] H1 H' ∧ ∃ a S,env 6 = some a ∧ OwnL (fun _ => False) H' T_int a (selK (needB L T) k) S ∧ ∀ c ∈ S,H1.next ≤ c
def NeQ (H1 : AH) (L : List SetD) (T : List Bool) (x : AExit) (env : Env) (H' : AH) : Prop :=
 x = .exit 0 ∧ WF H' ∧ Keep [] H1 H' ∧ ∃ a S,env 6 = some a ∧ OwnL (fun _ => False) H' T_int a (selK (needB L T) L.length) S ∧ ∀ c ∈ S,H1.next ≤ c
theorem needless_l1 {p q : Nat → Prop} {H1 : AH} {lv hv : Value} {L : List SetD} {T : List Bool} (hw : WF H1) (hL : SlV p H1 lv L) (hH : SlV q H1 hv (lksB L T)) (hl : L.length ≤ 30) {env : Env} (h : NeI H1 lv hv L T 0 env H1) :
  wpC Tryd.prog 39 (.loop ir_dual_Needless_l1) (NeQ H1 L T) env H1:=by
 refine loop_upto L.length (NeI H1 lv hv L T) (Q:=NeQ H1 L T) h ?_
 rintro k env H' hk ⟨e1,e5,e18,e19,w',k',a,S,e6,hA,hS⟩
 obtain ⟨la,lc,hlv⟩:=hL.slice
 by_cases hkn : k < L.length
 ·subst hlv
  simp (disch:=omega) [-getElem?_pos,if_pos,if_neg,decide_eq_true,decide_eq_false,ir_dual_Needless_l1,e1,e18,e19,hkn]
  refine wpC_use (needless_l0 (H1:=H1) (lv:=.slice la L.length lc) (hv:=hv) (L:=L) (T:=T) (b:=k) hw hL hH hkn hl ?_) ?_
  ·exact ⟨by simp [e1],by simp [e5],by simp,by simp,by simp,w',k',rfl,a,S,by simp [e6],hA,hS⟩
  rintro x env2 H2 ⟨rfl,w2,k2,a2,S2,f6,hA2,hS2⟩ hu
  have u1:=hu 1 (by decide)
  have u5:=hu 5 (by decide)
  have u18:=hu 18 (by decide)
  have u19:=hu 19 (by decide)
  simp at u1 u5 u18 u19
  rw [e1] at u1
  rw [e5] at u5
  rw [e18] at u18
  rw [e19] at u19
  simp (disch:=omega) [-getElem?_pos,if_pos,if_neg,decide_eq_true,decide_eq_false,u19,hkn,IntWalk.i64_in]
  exact ⟨by simp [u1],by simp [u5],by simp [u18],by simp,w2,k2,a2,S2,by simp [f6],hA2,hS2⟩
 ·obtain rfl : k = L.length:=by omega
  simp (disch:=omega) [-getElem?_pos,if_pos,if_neg,decide_eq_true,decide_eq_false,ir_dual_Needless_l1,e18,e19]
  exact ⟨rfl,w',k',a,S,e6,hA,hS⟩
theorem Needless_spec {H : AH} {sv lv : Value} {L : List SetD} {T : List Bool} (hs : SetB (fun b => b < H.next) H sv T) (hL : SlV (fun b => b < H.next) H lv L) (hn : T.length ≤ 12) (hl : L.length ≤ 30) (hel : ∀ s ∈ L,s.elems.length ≤ 30) : AFn Tryd.prog F_dual_Needless [sv,lv] H (NewI H (ndA L T)):=by
 obtain ⟨sl,rfl⟩:=setV hs
 obtain ⟨la,lc,rfl⟩:=hL.slice
 refine AFn.enter mixed ir_dual_Needless_eq (by simp [ir_dual_Needless]) fun hw => ?_
 obtain ⟨H1,hH1⟩ : ∃ H1,H1 = H.alloc (.row [.int .i64 T.length,sl] T_bitset_Set true):=⟨_,rfl⟩
 have k1 : Keep [] H H1:=by rw [hH1]; exact .alloc
 have w1 : WF H1:=by rw [hH1]; exact hw.alloc
 have n1 : H1.next = H.next + 1:=by rw [hH1]; rfl
 have c1 : H1.cells H.next = some [.int .i64 T.length,sl]:=by rw [hH1]; exact AH.cells_alloc_new
 have hs1:=hs.kept' hw k1
 have hL1:=hL.kept hw k1
 have hea : ndA L T = if mayD T.length L then selK (needB L T) L.length else []:=rfl
 rw [hea]
 simp (disch:=omega) [-getElem?_pos,if_pos,if_neg,decide_eq_true,decide_eq_false,ir_dual_Needless,hs.one.1,hs.one.2,cut2v]
 rw [← hH1]
 refine AFn.pure (Size_spec hs1) ?_
 simp (disch:=omega) [-getElem?_pos,if_pos,if_neg,decide_eq_true,decide_eq_false,]
 refine AFn.pure (may_spec (n:=(T.length : Int)) (by unfold I64; omega) hL1) ?_
 cases hm : mayD T.length L with
 | false =>
  simp (disch:=omega) [-getElem?_pos,if_pos,if_neg,decide_eq_true,decide_eq_false,]
  exact ⟨.nil,k1⟩
 | true =>
  have hD:=mayD_ok hm
  rw [if_pos rfl]
  simp (disch:=omega) [-getElem?_pos,if_pos,if_neg,decide_eq_true,decide_eq_false,c1,cut2v]
  refine (lacking_spec (hs1.up2 (fun b hb => by omega) .refl) (hL1.mono fun b hb => by omega) hD hl hel).mono' fun u H5 w5 ⟨hH5,k5⟩ => ?_
  have n5:=k5.next
  have hll : (lksB L T).length = L.length:=by simp [lksB]
  simp (disch:=omega) [-getElem?_pos,if_pos,if_neg,decide_eq_true,decide_eq_false,]
  refine wpC_use (needless_l1 (H1:=H5) (lv:=.slice la L.length lc) (hv:=u) (L:=L) (T:=T) w5 (hL1.kept w1 k5) hH5 hl ?_) ?_
  ·exact ⟨by simp,by simp,by simp,by simp,w5,.refl,.slice none 0 0,[],by simp,.nil,by simp⟩
  rintro x env3 H7 ⟨rfl,w7,k7,a,S,g6,hA,hS⟩ _
  have hAn:=hA.lt w7
  have n7:=k7.next
  have hsl:=selK_len (needB L T) L.length
  simp (disch:=omega) [-getElem?_pos,if_pos,if_neg,decide_eq_true,decide_eq_false,g6]
  refine ⟨hA.slv (fun _ h => h.elim) (fun c hc => ⟨by have:=hS c hc; omega,hAn c hc⟩) (by omega),by omega,fun b hb _ => ?_⟩
  rw [k7.blk b (by omega) (by simp),k5.blk b (by omega) (by simp),k1.blk b hb (by simp)]
end Go.Proofs.YtejifalflkbekaaDoor
