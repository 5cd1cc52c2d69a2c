/-
  The document's Needless (2).
-/
import Derived.Test.YtejifalflkbekaaGreatDoorDs23
set_option maxRecDepth 100000
set_option linter.unusedSimpArgs false
set_option linter.unusedVariables false
namespace Go.Proofs.YtejifalflkbekaaGreatDoor
open Go Go.Abs Go.Proofs.YtejifalflkbekaaGreatDoor.Bs
def D1I (H1 : AH) (tv lv : Value) (L : List SetD) (T : List Bool) (b : Nat) (k : Nat) (env : Env) (H' : AH) : Prop :=
 H' = H1 ∧ env 0 = some tv ∧ env 1 = some lv ∧ env 7 = some (.int .i64 b) ∧ env 9 = some (.int .i64 k) ∧ env 8 = some (.bool (stT L T b k))
def D1Q (H1 : AH) (L : List SetD) (T : List Bool) (b : Nat) (x : AExit) (env : Env) (H' : AH) : Prop:=x = .exit 2 ∧ H' = H1 ∧ env 8 = some (.bool (stT L T b L.length))
theorem needR_l1 {p p' : Nat → Prop} {H1 : AH} {tv lv : Value} {L : List SetD} {T : List Bool} {b : Nat} (hL : SlV p H1 lv L) (hT : SlV p' H1 tv T) (hb : b < L.length) (hl : L.length ≤ 30) (hel : ∀ s ∈ L,s.elems.length ≤ 30) (hn : T.length ≤ 1000) {env : Env} (h : D1I H1 tv lv L T b 0 env H1) : wpC Tryz.prog 125 (.loop ir_ref18_Needless_l1) (D1Q H1 L T b) env H1:=by
 refine loop_upto L.length (D1I H1 tv lv L T b) (Q:=D1Q H1 L T b) h ?_
 rintro k env H' hk ⟨rfl,e0,e1,e7,e9,e8⟩
 obtain ⟨la,lc,hlv⟩:=hL.slice
 by_cases hkn : k < L.length
 ·obtain ⟨b0,off,sp,cap,cs,hv,q1,q2⟩:=sets_rd hL (by omega)
  obtain ⟨_,_,qa,_,ia,_⟩:=q2 k hkn
  obtain ⟨_,_,qb,_,ib,_⟩:=q2 b hb
  have hst:=stT_succ (L:=L) (T:=T) (b:=b) (m:=k)
  have hstR : stR L T k b = (allR L T k b T.length && (decide (L[k].cost < L[b].cost) || (decide (L[k].cost = L[b].cost) && (moreR L T k b T.length || decide (k < b))))):=by unfold stR; rw [costN_eq hkn,costN_eq hb]
  rw [hstR] at hst
  have hkn' : (k : Int) < (L.length : Int):=by omega
  have hb' : (b : Int) < (L.length : Int):=by omega
  have hz : allR L T k b 0 = decide (k ≠ b):=by unfold allR; simp
  have hz2 : moreR L T k b 0 = false:=rfl
  have hneq : decide (k ≠ b) = !decide ((k : Int) = (b : Int)):=by
   by_cases hkb : k = b
   ·subst hkb; simp
   ·have : ¬ (k : Int) = (b : Int):=by omega
    simp [hkb,this]
  subst hlv
  simp (disch:=omega) [-getElem?_pos,if_pos,if_neg,decide_eq_true,decide_eq_false,ir_ref18_Needless_l1,e1,e7,e9,hkn,hkn']
  refine wpC_use (needR_l0 (tv:=tv) (lv:=.slice la L.length lc) (L:=L) (T:=T) (a:=k) hL hT hkn hb hel hn ?_) ?_
  ·exact ⟨rfl,by simp [e0],by simp [e1],by simp [e7],by simp [e9],by simp,by simp [hz,hneq],by simp [hz2]⟩
  rintro x env2 H2 ⟨rfl,rfl,f10,f11⟩ hu
  have u0:=hu 0 (by decide)
  have u1:=hu 1 (by decide)
  have u7:=hu 7 (by decide)
  have u8:=hu 8 (by decide)
  have u9:=hu 9 (by decide)
  simp at u0 u1 u7 u8 u9
  rw [e0] at u0
  rw [e1] at u1
  rw [e7] at u7
  rw [e8] at u8
  rw [e9] at u9
  have hve:=hv
  rw [hv] at u1
  generalize stT L T b k = ab at *
  generalize allR L T k b T.length = al at *
  generalize moreR L T k b T.length = mo at *
  generalize L[k].cost = ca at *
  generalize L[b].cost = cb at *
  cases al with
  | false =>
   simp (disch:=omega) [-getElem?_pos,if_pos,if_neg,decide_eq_true,decide_eq_false,u1,u7,u8,u9,f10,f11,q1,qa,qb,hkn,hkn',hb,hb',IntWalk.i64_in]
   exact ⟨rfl,by simp [u0],by simp [u1,hve],by simp [u7],by simp,by simp [hst,u8]⟩
  | true =>
   rcases Int.lt_trichotomy ca cb with h1 | h1 | h1
   ·have h2 : ¬ ca = cb:=by omega
    simp (disch:=omega) [-getElem?_pos,if_pos,if_neg,decide_eq_true,decide_eq_false,u1,u7,u8,u9,f10,f11,q1,qa,qb,hkn,hkn',hb,hb',h1,h2,IntWalk.i64_in]
    exact ⟨rfl,by simp [u0],by simp [u1,hve],by simp [u7],by simp,by simp [hst,u8,h1]⟩
   ·subst h1
    have h2 : ¬ ca < ca:=by omega
    by_cases hkb : k < b
    ·have hkb' : (k : Int) < (b : Int):=by omega
     cases mo <;> (simp (disch:=omega) [-getElem?_pos,if_pos,if_neg,decide_eq_true,decide_eq_false,u1,u7,u8,u9,f10,f11,q1,qa,qb,hkn,hkn',hb,hb',h2,hkb,hkb',IntWalk.i64_in]; exact ⟨rfl,by simp [u0],by simp [u1,hve],by simp [u7],by simp,by simp [hst,u8,hkb]⟩)
    ·have hkb' : ¬ (k : Int) < (b : Int):=by omega
     cases mo <;> (simp (disch:=omega) [-getElem?_pos,if_pos,if_neg,decide_eq_true,decide_eq_false,u1,u7,u8,u9,f10,f11,q1,qa,qb,hkn,hkn',hb,hb',h2,hkb,hkb',IntWalk.i64_in]; exact ⟨rfl,by simp [u0],by simp [u1,hve],by simp [u7],by simp,by simp [hst,u8,hkb]⟩)
   ·have h2 : ¬ ca = cb:=by omega
    have h3 : ¬ ca < cb:=by omega
    simp (disch:=omega) [-getElem?_pos,if_pos,if_neg,decide_eq_true,decide_eq_false,u1,u7,u8,u9,f10,f11,q1,qa,qb,hkn,hkn',hb,hb',h2,h3,IntWalk.i64_in]
    exact ⟨rfl,by simp [u0],by simp [u1,hve],by simp [u7],by simp,by simp [hst,u8,h2,h3]⟩
 ·obtain rfl : k = L.length:=by omega
  subst hlv
  simp (disch:=omega) [-getElem?_pos,if_pos,if_neg,decide_eq_true,decide_eq_false,ir_ref18_Needless_l1,e1,e9]
  exact ⟨rfl,rfl,e8⟩
theorem needR_l2 {p p' : Nat → Prop} {H1 : AH} {tv lv : Value} {L : List SetD} {T : List Bool} {ok : Bool} (hw : WF H1) (hL : SlV p H1 lv L) (hT : SlV p' H1 tv T) (hl : L.length ≤ 30) (hel : ∀ s ∈ L,s.elems.length ≤ 30) (hn : T.length ≤ 1000) {env : Env} (h : E2I H1 tv lv (needB L T) ok 0 env H1) : wpC Tryz.prog 125 (.loop ir_ref18_Needless_l2) (E2Q H1 (needB L T) (if ok then L.length else 0)) env H1:=by
 refine loop_upto (if ok then L.length else 0) (E2I H1 tv lv (needB L T) ok) (Q:=E2Q H1 (needB L T) (if ok then L.length else 0)) h ?_
 rintro k env H' hk ⟨e0,e1,e5,e7,w',k',a,S,e6,hA,hS⟩
 obtain ⟨la,lc,hlv⟩:=hL.slice
 have hs1:=selK_succ (needB L T) k
 have hl1:=selK_len (needB L T) k
 have hn':=k'.next
 obtain ⟨aa,ac,rfl⟩:=hA.slice
 cases ok with
 | false =>
  obtain rfl : k = 0:=by simpa using hk
  subst hlv
  by_cases h0 : 0 < L.length
  ·simp (disch:=omega) [-getElem?_pos,if_pos,if_neg,decide_eq_true,decide_eq_false,ir_ref18_Needless_l2,e1,e5,e7,h0]
   exact ⟨rfl,w',k',_,S,e6,hA,hS⟩
  ·simp (disch:=omega) [-getElem?_pos,if_pos,if_neg,decide_eq_true,decide_eq_false,ir_ref18_Needless_l2,e1,e5,e7,h0]
   exact ⟨rfl,w',k',_,S,e6,hA,hS⟩
 | true =>
  rw [if_pos rfl] at hk ⊢
  by_cases hkn : k < L.length
  ·have hkn' : (k : Int) < (L.length : Int):=by omega
   have hess : stT L T k L.length = needB L T k:=stT_need hkn
   rw [← hess] at hs1
   subst hlv
   simp (disch:=omega) [-getElem?_pos,if_pos,if_neg,decide_eq_true,decide_eq_false,ir_ref18_Needless_l2,e1,e5,e7,hkn,hkn']
   refine wpC_use (needR_l1 (tv:=tv) (lv:=.slice la L.length lc) (L:=L) (T:=T) (b:=k) (hL.kept hw k') (hT.kept hw k') hkn hl hel hn ?_) ?_
   ·exact ⟨rfl,by simp [e0],by simp [e1],by simp [e7],by simp,by simp [stT]⟩
   rintro x env2 H2 ⟨rfl,rfl,f8⟩ hu
   have u0:=hu 0 (by decide)
   have u1:=hu 1 (by decide)
   have u5:=hu 5 (by decide)
   have u6:=hu 6 (by decide)
   have u7:=hu 7 (by decide)
   simp at u0 u1 u5 u6 u7
   rw [e0] at u0
   rw [e1] at u1
   rw [e5] at u5
   rw [e6] at u6
   rw [e7] at u7
   cases hb : stT L T k L.length with
   | true =>
    rw [hb] at f8
    rw [hb,if_pos rfl] at hs1
    obtain ⟨va,vc,H4,S',p1,w4,hA4,k4,hS4,_,_⟩:=push_int w' hA k' hS (a:=(k : Int)) (by unfold I64; omega) (by omega)
    have pE : elemsA (H2.alloc (.row [.int .i64 (k : Int)] T_int true)) 1 (.slice (some ⟨H2.next,0,none⟩) 1 1) = some [.int .i64 (k : Int)]:=elems_one rfl
    simp (disch:=omega) [-getElem?_pos,if_pos,if_neg,decide_eq_true,decide_eq_false,f8,u6,u7,pE,p1,hkn,IntWalk.i64_in]
    exact ⟨by simp [u0],by simp [u1],by simp [u5],by simp,w4,k4,_,S',by simp; rfl,by rw [hs1]; simpa using hA4,hS4⟩
   | false =>
    rw [hb] at f8
    rw [hb,if_neg (by simp)] at hs1
    simp (disch:=omega) [-getElem?_pos,if_pos,if_neg,decide_eq_true,decide_eq_false,f8,u6,u7,hkn,IntWalk.i64_in]
    exact ⟨by simp [u0],by simp [u1],by simp [u5],by simp,w',k',_,S,by simp [u6]; rfl,by rw [hs1]; exact hA,hS⟩
  ·obtain rfl : k = L.length:=by omega
   subst hlv
   simp (disch:=omega) [-getElem?_pos,if_pos,if_neg,decide_eq_true,decide_eq_false,ir_ref18_Needless_l2,e1,e5,e7]
   exact ⟨rfl,w',k',_,S,e6,hA,hS⟩
theorem NeedR_spec {p p' : Nat → Prop} {H : AH} {tv lv : Value} {L : List SetD} {T : List Bool} (hT : SlV p H tv T) (hL : SlV p' H lv L) (hn : T.length ≤ 12) (hl : L.length ≤ 30) (hel : ∀ s ∈ L,s.elems.length ≤ 30) : AFn Tryz.prog F_ref18_Needless [tv,lv] H (NewI H (ndA L T)):=by
 obtain ⟨la,lc,hlv⟩:=hL.slice
 obtain ⟨ta,tc,htv⟩:=hT.slice
 refine AFn.enter mixed ir_ref18_Needless_eq (by simp [ir_ref18_Needless]) fun hw => ?_
 have hea : ndA L T = selK (needB L T) (if mayD T.length L then L.length else 0):=by unfold ndA; split <;> rfl
 rw [hea]
 subst htv
 simp (disch:=omega) [-getElem?_pos,if_pos,if_neg,decide_eq_true,decide_eq_false,ir_ref18_Needless]
 refine AFn.pure (mayR_spec (n:=(T.length : Int)) (by unfold I64; omega) hL) ?_
 generalize mayD T.length L = ok at *
 simp (disch:=omega) [-getElem?_pos,if_pos,if_neg,decide_eq_true,decide_eq_false,]
 refine wpC_use (needR_l2 (tv:=.slice ta T.length tc) (lv:=lv) (L:=L) (T:=T) (ok:=ok) hw hL hT hl hel (by omega) ?_) ?_
 ·exact ⟨by simp,by simp,by simp,by simp,hw,.refl,.slice none 0 0,[],by simp,.nil,by simp⟩
 rintro x env3 H7 ⟨rfl,w7,k7,a,S,g6,hA,hS⟩ _
 have hAn:=hA.lt w7
 have n7:=k7.next
 have hsl:=selK_len (needB L T) (if ok = true then L.length else 0)
 have hm : (if ok = true then L.length else 0) ≤ 30:=by split <;> omega
 simp (disch:=omega) [-getElem?_pos,if_pos,if_neg,decide_eq_true,decide_eq_false,g6]
 refine ⟨hA.slv (fun _ h => h.elim) (fun c hc => ⟨by have:=hS c hc; omega,hAn c hc⟩) (by omega),k7⟩
end Go.Proofs.YtejifalflkbekaaGreatDoor
