/-
  The document's Essential and Needless (2).
-/
import Derived.Test.YtejifalflkbekaaGreatDoorDs22
set_option maxRecDepth 100000
set_option linter.unusedSimpArgs false
set_option linter.unusedVariables false
namespace Go.Proofs.YtejifalflkbekaaGreatDoor
open Go Go.Abs Go.Proofs.YtejifalflkbekaaGreatDoor.Bs
def E2I (H1 : AH) (tv lv : Value) (f : Nat → Bool) (ok : Bool) (k : Nat) (env : Env) (H' : AH) : Prop :=
 env 0 = some tv ∧ env 1 = some lv ∧ env 5 = some (.bool ok) ∧ env 7 = some (.int .i64 k) ∧ WF H' ∧ Keep [] H1 H' ∧ ∃ a S,env 6 = some a ∧ OwnL (fun _ => False) H' T_int a (selK f k) S ∧ ∀ c ∈ S,H1.next ≤ c
def E2Q (H1 : AH) (f : Nat → Bool) (m : Nat) (x : AExit) (env : Env) (H' : AH) : Prop :=
 x = .exit 0 ∧ WF H' ∧ Keep [] H1 H' ∧ ∃ a S,env 6 = some a ∧ OwnL (fun _ => False) H' T_int a (selK f m) S ∧ ∀ c ∈ S,H1.next ≤ c
theorem essR_l2 {p p' : Nat → Prop} {H1 : AH} {tv lv : Value} {L : List SetD} {T : List Bool} {ok : Bool} (hw : WF H1) (hL : SlV p H1 lv L) (hT : SlV p' H1 tv T) (hl : L.length ≤ 30) (hel : ∀ s ∈ L,s.elems.length ≤ 30) (hn : T.length ≤ 1000) {env : Env} (h : E2I H1 tv lv (essB L T) ok 0 env H1) : wpC Tryz.prog 74 (.loop ir_ref18_Essential_l2) (E2Q H1 (essB L T) (if ok then L.length else 0)) env H1:=by
 refine loop_upto (if ok then L.length else 0) (E2I H1 tv lv (essB L T) ok) (Q:=E2Q H1 (essB L T) (if ok then L.length else 0)) h ?_
 rintro k env H' hk ⟨e0,e1,e5,e7,w',k',a,S,e6,hA,hS⟩
 obtain ⟨la,lc,hlv⟩:=hL.slice
 have hs1:=selK_succ (essB L T) k
 have hl1:=selK_len (essB L T) k
 have hn':=k'.next
 obtain ⟨aa,ac,rfl⟩:=hA.slice
 cases ok with
 | false =>
  obtain rfl : k = 0:=by simpa using hk
  subst hlv
  by_cases h0 : 0 < L.length
  ·simp (disch:=omega) [-getElem?_pos,if_pos,if_neg,decide_eq_true,decide_eq_false,ir_ref18_Essential_l2,e1,e5,e7,h0]
   exact ⟨rfl,w',k',_,S,e6,hA,hS⟩
  ·simp (disch:=omega) [-getElem?_pos,if_pos,if_neg,decide_eq_true,decide_eq_false,ir_ref18_Essential_l2,e1,e5,e7,h0]
   exact ⟨rfl,w',k',_,S,e6,hA,hS⟩
 | true =>
  rw [if_pos rfl] at hk ⊢
  by_cases hkn : k < L.length
  ·have hkn' : (k : Int) < (L.length : Int):=by omega
   have hess : esE L T L[k] T.length = essB L T k:=(essB_eq hkn).symm
   rw [← hess] at hs1
   subst hlv
   simp (disch:=omega) [-getElem?_pos,if_pos,if_neg,decide_eq_true,decide_eq_false,ir_ref18_Essential_l2,e1,e5,e7,hkn,hkn']
   refine wpC_use (essR_l1 (tv:=tv) (lv:=.slice la L.length lc) (L:=L) (T:=T) (hL.kept hw k') (hT.kept hw k') hkn hl hel hn ?_) ?_
   ·exact ⟨rfl,by simp [e0],by simp [e1],by simp [e7],by simp,by simp [esE]⟩
   rintro x env2 H2 ⟨rfl,rfl,f8⟩ hu
   have u0:=hu 0 (by decide)
   have u1:=hu 1 (by decide)
   have u5:=hu 5 (by decide)
   have u6:=hu 6 (by decide)
   have u7:=hu 7 (by decide)
   simp at u0 u1 u5 u6 u7
   rw [e0] at u0
   rw [e1] at u1
   rw [e5] at u5
   rw [e6] at u6
   rw [e7] at u7
   cases hb : esE L T L[k] T.length with
   | true =>
    rw [hb] at f8
    rw [hb,if_pos rfl] at hs1
    obtain ⟨va,vc,H4,S',p1,w4,hA4,k4,hS4,_,_⟩:=push_int w' hA k' hS (a:=(k : Int)) (by unfold I64; omega) (by omega)
    have pE : elemsA (H2.alloc (.row [.int .i64 (k : Int)] T_int true)) 1 (.slice (some ⟨H2.next,0,none⟩) 1 1) = some [.int .i64 (k : Int)]:=elems_one rfl
    simp (disch:=omega) [-getElem?_pos,if_pos,if_neg,decide_eq_true,decide_eq_false,f8,u6,u7,pE,p1,hkn,IntWalk.i64_in]
    exact ⟨by simp [u0],by simp [u1],by simp [u5],by simp,w4,k4,_,S',by simp; rfl,by rw [hs1]; simpa using hA4,hS4⟩
   | false =>
    rw [hb] at f8
    rw [hb,if_neg (by simp)] at hs1
    simp (disch:=omega) [-getElem?_pos,if_pos,if_neg,decide_eq_true,decide_eq_false,f8,u6,u7,hkn,IntWalk.i64_in]
    exact ⟨by simp [u0],by simp [u1],by simp [u5],by simp,w',k',_,S,by simp [u6]; rfl,by rw [hs1]; exact hA,hS⟩
  ·obtain rfl : k = L.length:=by omega
   subst hlv
   simp (disch:=omega) [-getElem?_pos,if_pos,if_neg,decide_eq_true,decide_eq_false,ir_ref18_Essential_l2,e1,e5,e7]
   exact ⟨rfl,w',k',_,S,e6,hA,hS⟩
theorem EssR_spec {p p' : Nat → Prop} {H : AH} {tv lv : Value} {L : List SetD} {T : List Bool} (hT : SlV p H tv T) (hL : SlV p' H lv L) (hn : T.length ≤ 12) (hl : L.length ≤ 30) (hel : ∀ s ∈ L,s.elems.length ≤ 30) : AFn Tryz.prog F_ref18_Essential [tv,lv] H (NewI H (esA L T)):=by
 obtain ⟨la,lc,hlv⟩:=hL.slice
 obtain ⟨ta,tc,htv⟩:=hT.slice
 refine AFn.enter mixed ir_ref18_Essential_eq (by simp [ir_ref18_Essential]) fun hw => ?_
 have hea : esA L T = selK (essB L T) (if mayD T.length L then L.length else 0):=by unfold esA; split <;> rfl
 rw [hea]
 subst htv
 simp (disch:=omega) [-getElem?_pos,if_pos,if_neg,decide_eq_true,decide_eq_false,ir_ref18_Essential]
 refine AFn.pure (mayR_spec (n:=(T.length : Int)) (by unfold I64; omega) hL) ?_
 generalize mayD T.length L = ok at *
 simp (disch:=omega) [-getElem?_pos,if_pos,if_neg,decide_eq_true,decide_eq_false,]
 refine wpC_use (essR_l2 (tv:=.slice ta T.length tc) (lv:=lv) (L:=L) (T:=T) (ok:=ok) hw hL hT hl hel (by omega) ?_) ?_
 ·exact ⟨by simp,by simp,by simp,by simp,hw,.refl,.slice none 0 0,[],by simp,.nil,by simp⟩
 rintro x env3 H7 ⟨rfl,w7,k7,a,S,g6,hA,hS⟩ _
 have hAn:=hA.lt w7
 have n7:=k7.next
 have hsl:=selK_len (essB L T) (if ok = true then L.length else 0)
 have hm : (if ok = true then L.length else 0) ≤ 30:=by split <;> omega
 simp (disch:=omega) [-getElem?_pos,if_pos,if_neg,decide_eq_true,decide_eq_false,g6]
 refine ⟨hA.slv (fun _ h => h.elim) (fun c hc => ⟨by have:=hS c hc; omega,hAn c hc⟩) (by omega),k7⟩
/-! ### Needless -/
def D0I (H1 : AH) (tv lv : Value) (L : List SetD) (T : List Bool) (a b : Nat) (k : Nat) (env : Env) (H' : AH) : Prop :=
 H' = H1 ∧ env 0 = some tv ∧ env 1 = some lv ∧ env 7 = some (.int .i64 b) ∧ env 9 = some (.int .i64 a) ∧ env 12 = some (.int .i64 k) ∧ env 10 = some (.bool (allR L T a b k)) ∧ env 11 = some (.bool (moreR L T a b k))
def D0Q (H1 : AH) (L : List SetD) (T : List Bool) (a b : Nat) (x : AExit) (env : Env) (H' : AH) : Prop:=x = .exit 4 ∧ H' = H1 ∧ env 10 = some (.bool (allR L T a b T.length)) ∧ env 11 = some (.bool (moreR L T a b T.length))
theorem needR_l0 {p p' : Nat → Prop} {H1 : AH} {tv lv : Value} {L : List SetD} {T : List Bool} {a b : Nat} (hL : SlV p H1 lv L) (hT : SlV p' H1 tv T) (ha : a < L.length) (hb : b < L.length) (hel : ∀ s ∈ L,s.elems.length ≤ 30) (hn : T.length ≤ 1000) {env : Env} (h : D0I H1 tv lv L T a b 0 env H1) : wpC Tryz.prog 125 (.loop ir_ref18_Needless_l0) (D0Q H1 L T a b) env H1:=by
 refine loop_upto T.length (D0I H1 tv lv L T a b) (Q:=D0Q H1 L T a b) h ?_
 rintro k env H' hk ⟨rfl,e0,e1,e7,e9,e12,e10,e11⟩
 obtain ⟨ta,tc,htv⟩:=hT.slice
 by_cases hkn : k < T.length
 ·obtain ⟨b0,off,sp,cap,cs,hv,q1,q2⟩:=sets_rd hL (by omega)
  obtain ⟨_,qa,_,_,_,ra⟩:=q2 a ha
  obtain ⟨_,qb,_,_,_,rb⟩:=q2 b hb
  obtain ⟨b1,off1,sp1,cap1,cs1,hv1,r1,r2⟩:=bools_rd hT (by omega)
  have r3:=r2 k hkn
  have hg : T.getD k false = T[k]:=by rw [List.getD_eq_getElem?_getD,List.getElem?_eq_getElem hkn]; rfl
  have hla:=hel L[a] (List.getElem_mem ha)
  have hlb:=hel L[b] (List.getElem_mem hb)
  have hha:=hasR_spec (c:=L[a].cost) (e:=(k : Int)) ra (by omega)
  have hhb:=hasR_spec (c:=L[b].cost) (e:=(k : Int)) rb (by omega)
  have s1:=allR_succ (T:=T) (k:=k) ha hb
  have s2:=moreR_succ (T:=T) (k:=k) ha hb
  rw [hg] at s1 s2
  have hea : hasE L[a] k = decide ((k : Int) ∈ L[a].elems):=rfl
  have heb : hasE L[b] k = decide ((k : Int) ∈ L[b].elems):=rfl
  rw [← hea] at hha
  rw [← heb] at hhb
  have hkn' : (k : Int) < (T.length : Int):=by omega
  have ha' : (a : Int) < (L.length : Int):=by omega
  have hb' : (b : Int) < (L.length : Int):=by omega
  subst hv hv1
  clear hea heb hg
  generalize allR L T a b k = al at *
  generalize moreR L T a b k = mo at *
  generalize hasE L[a] k = xa at *
  generalize hasE L[b] k = xb at *
  generalize L[a].cost = ca at *
  generalize L[b].cost = cb at *
  generalize T[k] = tk at *
  simp (disch:=omega) [-getElem?_pos,if_pos,if_neg,decide_eq_true,decide_eq_false,ir_ref18_Needless_l0,e0,e1,e7,e9,e12,hkn,hkn',q1,qa,ha,ha']
  refine AFn.pure hha ?_
  simp (disch:=omega) [-getElem?_pos,if_pos,if_neg,decide_eq_true,decide_eq_false,e0,e1,e7,e9,e12,q1,qb,hb,hb']
  refine AFn.pure hhb ?_
  cases al <;> cases tk <;> cases xa <;> cases xb <;> cases mo <;> (simp (disch:=omega) [-getElem?_pos,if_pos,if_neg,decide_eq_true,decide_eq_false,e0,e10,e11,e12,r1,r3,hkn,hkn',IntWalk.i64_in]; exact ⟨rfl,by simp [e0],by simp [e1],by simp [e7],by simp [e9],by simp,by simp [s1],by simp [s2]⟩)
 ·obtain rfl : k = T.length:=by omega
  subst htv
  simp (disch:=omega) [-getElem?_pos,if_pos,if_neg,decide_eq_true,decide_eq_false,ir_ref18_Needless_l0,e0,e12]
  exact ⟨rfl,rfl,e10,e11⟩
end Go.Proofs.YtejifalflkbekaaGreatDoor
