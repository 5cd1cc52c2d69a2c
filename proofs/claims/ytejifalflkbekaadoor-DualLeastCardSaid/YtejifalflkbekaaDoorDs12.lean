/-
  package dual: Greedy, its loops.
-/
import Derived.Test.YtejifalflkbekaaDoorDs11
set_option maxRecDepth 100000
set_option linter.unusedSimpArgs false
set_option linter.unusedVariables false
namespace Go.Proofs.YtejifalflkbekaaDoor
open Go Go.Abs Go.Proofs.YtejifalflkbekaaDoor.Bs
def SetAt (H : AH) (q : Nat) (S : List Nat) (B : List Bool) : Prop:=∃ sl,H.blk q = some (.row [.int .i64 B.length,sl] T_bitset_Set true) ∧ SetB (fun b => b ≠ q ∧ b ∉ S) H (.agg #[.int .i64 B.length,sl]) B
theorem SetAt.grow {H H' : AH} {q : Nat} {B : List Bool} {S S' : List Nat} (h : SetAt H q S B) (hw : WF H) (hk : Keep S H H') (hq : q ∉ S) (hS : ∀ b ∈ S',b ∈ S ∨ H.next ≤ b) : SetAt H' q S' B:=by
 obtain ⟨sl,h1,h2⟩:=h
 refine ⟨sl,(hk.blk q (hw.lt h1) hq).trans h1,(setB_old hw h2).up2 (fun b hb => ⟨hb.1.1,fun hc => ?_⟩) (.keep hw hk fun b hb hc => hc.1.2 hb)⟩
 rcases hS b hc with h | h
 ·exact hb.1.2 h
 ·have:=hb.2; omega
def GwI (H1 : AH) (q : Nat) (S : List Nat) (ev : Value) (B : List Bool) (E : List Int) (k : Nat) (env : Env) (H' : AH) : Prop :=
 env 2 = some (.pointer (some ⟨q,0,none⟩)) ∧ env 31 = some ev ∧ env 32 = some (.int .i64 E.length) ∧ env 33 = some (.int .i64 k) ∧ WF H' ∧ Keep [q] H1 H' ∧ SetAt H' q S (wipe B (E.take k))
def GwQ (H1 : AH) (q : Nat) (S : List Nat) (B : List Bool) (E : List Int) (x : AExit) (env : Env) (H' : AH) : Prop:=x = .exit 2 ∧ WF H' ∧ Keep [q] H1 H' ∧ SetAt H' q S (wipe B E)
theorem greedy_l0 {H1 : AH} {q : Nat} {S : List Nat} {ev : Value} {B : List Bool} {E : List Int} (hq : q < H1.next) (hS : ∀ c ∈ S,c < H1.next) (hw : WF H1) (hE : SlV (fun b => b ≠ q) H1 ev E) (hl : E.length ≤ 1000) {env : Env} (h : GwI H1 q S ev B E 0 env H1) :
  wpC Tryd.prog 44 (.loop ir_dual_Greedy_l0) (GwQ H1 q S B E) env H1:=by
 refine loop_upto E.length (GwI H1 q S ev B E) (Q:=GwQ H1 q S B E) h ?_
 rintro k env H' hk ⟨e2,e31,e32,e33,w',k',sl,hb,hs⟩
 have hn':=k'.next
 by_cases hkn : k < E.length
 ·have hE' : SlV (fun b => b ≠ q) H' ev E:=hE.sub (.keep hw k' fun b hb hc => by simp at hb; exact hc hb)
  obtain ⟨b0,off,sp,cap,cs,rfl,q1,q2⟩:=ints_rd hE' (by omega)
  obtain ⟨q3,_⟩:=q2 k hkn
  have hst : wipe B (E.take (k + 1)) = setB (wipe B (E.take k)) E[k] false:=by rw [List.take_succ_eq_append_getElem hkn,wipe_snoc]
  have hc:=AH.cells_of hb
  generalize E[k] = e at *
  generalize wipe B (E.take k) = W at *
  simp (disch:=omega) [-getElem?_pos,if_pos,if_neg,decide_eq_true,decide_eq_false,ir_dual_Greedy_l0,e2,e31,e32,e33,q1,q3,hkn,hc,cut2v]
  refine (Without_spec hs e).mono' fun u H2 w2 ⟨hs2,k2⟩ => ?_
  rw [← hst] at hs2
  have hlen : (wipe B (E.take (k + 1))).length = W.length:=by rw [hst,setB_lenF]
  obtain ⟨s2,rfl⟩:=setV hs2
  have b2:=(k2.blk q (by omega) (by simp)).trans hb
  have n2:=k2.next
  simp (disch:=omega) [-getElem?_pos,if_pos,if_neg,decide_eq_true,decide_eq_false,writeA_row b2,over,hs2.one.1,hs2.one.2,e2,e33,IntWalk.i64_in]
  refine ⟨hkn,by simp [e2],by simp [e31],by simp [e32],by simp,w2.set (by omega),k'.trans' ((k2.mono (by simp)).trans' (.set (by simp))),s2,AH.set_blk_same,?_⟩
  refine hs2.up2 (fun b hb => ?_) (fun b hb cs hcs => ?_)
  ·rcases hb with hb | hb
   ·exact hb
   ·exact ⟨by omega,fun h => by have:=hS b h; omega⟩
  ·have : b ≠ q:=by
    rcases hb with hb | hb
    ·exact hb.1
    ·omega
   rw [AH.cells_set_ne this]; exact hcs
 ·obtain rfl : k = E.length:=by omega
  rw [List.take_length] at hs hb
  simp (disch:=omega) [-getElem?_pos,if_pos,if_neg,decide_eq_true,decide_eq_false,ir_dual_Greedy_l0,e32,e33]
  exact ⟨rfl,w',k',sl,hb,hs⟩
structure GmH (H1 H' : AH) (q n : Nat) (L : List SetD) (T B : List Bool) (A : List Int) (a : Value) (S : List Nat) : Prop where
 st : GrSt L n T B A
 set : SetAt H' q S B
 own : OwnL (fun _ => False) H' T_int a A S
 s : ∀ c ∈ S,H1.next ≤ c
 wf : WF H'
 keep : Keep [q] H1 H'
def GmI (H1 : AH) (q n : Nat) (lv : Value) (L : List SetD) (T : List Bool) (m : Nat) (env : Env) (H' : AH) : Prop :=
 env 1 = some lv ∧ env 2 = some (.pointer (some ⟨q,0,none⟩)) ∧ ∃ B A a S,m = B.count true ∧ env 6 = some a ∧ GmH H1 H' q n L T B A a S
def GmQ (H1 : AH) (q n : Nat) (L : List SetD) (T : List Bool) (x : AExit) (env : Env) (H' : AH) : Prop :=
 (x = .exit 0 ∧ ∃ B A a S,env 6 = some a ∧ GmH H1 H' q n L T B A a S ∧ grD L T.length T [] = some A) ∨
 (x = .ret ∧ env 4 = some (.slice none 0 0) ∧ env 5 = some (.bool false) ∧ Keep [q] H1 H' ∧ WF H' ∧ grD L T.length T [] = none)
theorem greedy_l1 {H1 : AH} {q n m : Nat} {lv : Value} {L : List SetD} {T : List Bool} (hq : q < H1.next) (hw : WF H1) (hL : SlV (fun b => b < H1.next ∧ b ≠ q) H1 lv L) (hD : DOk n L) (hl : L.length ≤ 30) (hel : ∀ s ∈ L,s.elems.length ≤ 30) {env : Env} (h : GmI H1 q n lv L T m env H1) :
  wpC Tryd.prog 44 (.loop ir_dual_Greedy_l1) (GmQ H1 q n L T) env H1:=by
 refine loop_rule (GmI H1 q n lv L T) (Q:=GmQ H1 q n L T) ?_ (j:=m) h
 clear h
 rintro m env H' ⟨e1,e2,B,A,a,S,hm,e6,hH⟩
 obtain ⟨sl,hb,hs⟩:=hH.set
 have hc:=AH.cells_of hb
 have k':=hH.keep
 have w':=hH.wf
 have hn':=k'.next
 have hcnt:=Count_spec hs
 have hL' : SlV (fun b => b < H1.next ∧ b ≠ q) H' lv L:=hL.sub (.keep hw k' fun b hb hc => by simp at hb; exact hc.2 hb)
 have hch:=cheap_spec hL' hs hD hl hel
 have hso:=chS_some (L:=L) (B:=B) L.length (Nat.le_refl _)
 by_cases hz : B.count true = 0
 ·rw [hz] at hcnt
  simp (disch:=omega) [-getElem?_pos,if_pos,if_neg,decide_eq_true,decide_eq_false,ir_dual_Greedy_l1,e1,e2,hc,cut2v]
  refine AFn.pure hcnt ?_
  simp (disch:=omega) [-getElem?_pos,if_pos,if_neg,decide_eq_true,decide_eq_false,]
  exact .inl ⟨rfl,B,A,a,S,by simp [e6],hH,gr_done hH.st hz⟩
 ·have hz' : 0 < B.count true:=by omega
  have hz2 : (0 : Int) < (B.count true : Nat):=by omega
  have hcell:=hL.cell
  generalize hcb : B.count true = cb at *
  rcases hso with ⟨h1,h2⟩ | ⟨b,hbl,h1,hbk,h2,h3⟩
  ·rw [h1] at hch
   simp (disch:=omega) [-getElem?_pos,if_pos,if_neg,decide_eq_true,decide_eq_false,ir_dual_Greedy_l1,e1,e2,hc,cut2v]
   refine AFn.pure hcnt ?_
   simp (disch:=omega) [-getElem?_pos,if_pos,if_neg,decide_eq_true,decide_eq_false,hz2,e1,e2,hc,cut2v,hcell.1,hcell.2]
   refine AFn.pure hch ?_
   simp (disch:=omega) [-getElem?_pos,if_pos,if_neg,decide_eq_true,decide_eq_false,]
   exact .inr ⟨rfl,by simp,by simp,k',w',gr_fail hH.st (by omega) (by omega)⟩
  ·have hfail:=h1
   rw [h1] at hch
   obtain ⟨hst,hlt⟩:=gr_next hD hH.st (by omega) hbl h1 h3
   obtain ⟨b0,off,sp,cap,cs,hv,q1,q2⟩:=sets_rd hL' (by omega)
   obtain ⟨ev,q3,q4,q5,q6,q7⟩:=q2 b hbl
   have hbe:=hel L[b] (List.getElem_mem hbl)
   have hAl:=gr_len hH.st
   obtain ⟨aa,ac,rfl⟩:=hH.own.slice
   have k1 : Keep [] H' (H'.alloc (.row [.int .i64 (b : Int)] T_int true)):=.alloc
   have k1S : Keep S H' (H'.alloc (.row [.int .i64 (b : Int)] T_int true)):=.alloc
   have w1 : WF (H'.alloc (.row [.int .i64 (b : Int)] T_int true)):=w'.alloc
   obtain ⟨va,vc,H2,S',p1,hA',kd,wd,i1⟩:=hH.own.push (q:=fun _ => False) w' (cs:=[.int .i64 (b : Int)]) (a:=(b : Int)) ⟨rfl,by unfold I64; omega⟩ T_int 8 (fun _ h => h) (fun b hb => hb.elim) (by simp) (by omega) (by omega)
   have pE : elemsA (H'.alloc (.row [.int .i64 (b : Int)] T_int true)) 1 (.slice (some ⟨H'.next,0,none⟩) 1 1) = some [.int .i64 (b : Int)]:=elems_one rfl
   simp only [sz_int] at p1
   have n2:=kd.next
   have k2S:=kd
   have hqS : q ∉ S:=fun h => by have:=hH.s q h; omega
   have b2:=(k2S.blk q (by omega) hqS).trans hb
   have hS' : ∀ c ∈ S',H1.next ≤ c:=fun c hc => by
    rcases i1 c hc with h | h
    ·exact hH.s c h
    ·omega
   have hset2:=hH.set.grow (S':=S') w' kd hqS (fun c hc => (i1 c hc).imp id fun h => by omega)
   generalize hEe : L[b].elems = E at *
   generalize L[b].cost = c0 at *
   subst hv
   have hbl' : (b : Int) < (L.length : Int):=by omega
   simp (disch:=omega) [-getElem?_pos,if_pos,if_neg,decide_eq_true,decide_eq_false,ir_dual_Greedy_l1,e1,e2,hc,cut2v]
   refine AFn.pure hcnt ?_
   simp (disch:=omega) [-getElem?_pos,if_pos,if_neg,decide_eq_true,decide_eq_false,hz2,e1,e2,hc,cut2v]
   refine AFn.pure hch ?_
   have hb0 : b0 ∉ S:=fun h => by
    obtain ⟨b3,_,_,_,_,h2,_,_,_,hh,_⟩:=hL.at (by omega)
    cases h2
    have:=hH.s b0 h
    have:=hh.1; omega
   have q1':=cells_keep w' k2S hb0 q1
   have q7' : SlV (fun b => b ≠ q) H2 ev E:=(q7.sub (.keep w' k2S fun c hc h => by have:=hH.s c hc; have:=h.1; omega)).mono fun c hc => hc.2
   have hcE:=q7.cell
   obtain ⟨ea,ec,rfl⟩:=q7.slice
   have hA2n:=hA'.lt wd
   simp (disch:=omega) [-getElem?_pos,if_pos,if_neg,decide_eq_true,decide_eq_false,e1,e2,e6,pE,p1,hbl,hbl',q1',q5]
   refine wpC_use (greedy_l0 (H1:=H2) (q:=q) (S:=S') (ev:=.slice ea E.length ec) (B:=B) (E:=E) (by omega) hA2n wd q7' (by omega) ?_) ?_
   ·exact ⟨by simp [e2],by simp,by simp,by simp,wd,.refl,hset2⟩
   rintro x env2 H3 ⟨rfl,w3,k3,hset3⟩ hu
   have u1:=hu 1 (by decide)
   have u2:=hu 2 (by decide)
   have u6:=hu 6 (by decide)
   simp [e1,e2] at u1 u2 u6
   have hqS' : ∀ c ∈ S',c ≠ q:=fun c hc h => by have:=hS' c hc; omega
   simp (disch:=omega) [-getElem?_pos,if_pos,if_neg,decide_eq_true,decide_eq_false,]
   refine ⟨_,by omega,u1,u2,wipe B E,A ++ [(b : Int)],_,S',rfl,u6,hst,hset3,?_,hS',w3,?_⟩
   ·exact hA'.keep wd k3 (fun _ _ h => h) fun c hc hcq => by simp at hcq; exact hqS' c hc hcq
   ·refine (k'.trans k2S fun c hc hlt2 => by have:=hH.s c hc; omega).trans' k3
theorem Greedy_spec {H : AH} {sv lv : Value} {L : List SetD} {T : List Bool} (hs : SetB (fun b => b < H.next) H sv T) (hL : SlV (fun b => b < H.next) H lv L) (hn : T.length ≤ 12) (hl : L.length ≤ 30) (hel : ∀ s ∈ L,s.elems.length ≤ 30) : AFn Tryd.prog F_dual_Greedy [sv,lv] H (PrV H (gdA L T)):=by
 obtain ⟨sl,rfl⟩:=setV hs
 obtain ⟨la,lc,rfl⟩:=hL.slice
 refine AFn.enter mixed ir_dual_Greedy_eq (by simp [ir_dual_Greedy]) fun hw => ?_
 obtain ⟨H1,hH1⟩ : ∃ H1,H1 = H.alloc (.row [.int .i64 T.length,sl] T_bitset_Set true):=⟨_,rfl⟩
 have k1 : Keep [] H H1:=by rw [hH1]; exact .alloc
 have w1 : WF H1:=by rw [hH1]; exact hw.alloc
 have n1 : H1.next = H.next + 1:=by rw [hH1]; rfl
 have b1 : H1.blk H.next = some (.row [.int .i64 T.length,sl] T_bitset_Set true):=by rw [hH1]; exact AH.alloc_blk_new
 have hs1:=hs.kept' hw k1
 have hL1:=hL.kept hw k1
 have hga : gdA L T = if mayD T.length L then (grD L T.length T []).map fun A => selK (inL A) L.length else none:=rfl
 rw [hga]
 simp (disch:=omega) [-getElem?_pos,if_pos,if_neg,decide_eq_true,decide_eq_false,ir_dual_Greedy,hs.one.1,hs.one.2,cut2v]
 rw [← hH1]
 refine AFn.pure (Size_spec hs1) ?_
 simp (disch:=omega) [-getElem?_pos,if_pos,if_neg,decide_eq_true,decide_eq_false,]
 refine AFn.pure (may_spec (n:=(T.length : Int)) (by unfold I64; omega) hL1) ?_
 cases hm : mayD T.length L with
 | false =>
  simp (disch:=omega) [-getElem?_pos,if_pos,if_neg,decide_eq_true,decide_eq_false,]
  exact ⟨_,rfl,.nil,k1⟩
 | true =>
  have hD:=mayD_ok hm
  rw [if_pos rfl]
  simp (disch:=omega) [-getElem?_pos,if_pos,if_neg,decide_eq_true,decide_eq_false,]
  refine wpC_use (greedy_l1 (H1:=H1) (q:=H.next) (n:=T.length) (m:=T.count true) (lv:=.slice la L.length lc) (L:=L) (T:=T) (by omega) w1 (hL1.mono fun c hc => by omega) hD hl hel ⟨by simp,by simp,T,[],.slice none 0 0,[],rfl,by simp,⟨gr_start,⟨sl,b1,hs1.up2 (fun c hc => ⟨by omega,by simp⟩) .refl⟩,.nil,by simp,w1,.refl⟩⟩) ?_
  rintro x env2 H2 (⟨rfl,B,A,a,S,f6,hH,hgr⟩ | ⟨rfl,f4,f5,k2,w2,hgr⟩) _
  ·have n2:=hH.keep.next
   have hAl:=gr_len hH.st
   simp (disch:=omega) [-getElem?_pos,if_pos,if_neg,decide_eq_true,decide_eq_false,f6]
   refine (Ps.SortI_spec hH.own (by omega)).mono' fun u H3 w3 ⟨M,hM,hsr,hO3,k3⟩ => ?_
   have hMs:=gr_sel hH.st hM hsr
   have hOn:=hO3.lt w3
   have n3:=k3.next
   have hsl:=selK_len (inL A) L.length
   simp (disch:=omega) [-getElem?_pos,if_pos,if_neg,decide_eq_true,decide_eq_false,f6]
   rw [hgr]
   refine ⟨_,rfl,?_,⟨by omega,fun c hc _ => ?_⟩⟩
   ·rw [hMs] at hO3
    exact hO3.slv (fun _ h => h.elim) (fun c hc => ⟨by have:=hH.s c hc; omega,hOn c hc⟩) (by show (selK (inL A) L.length).length ≤ _; omega)
   ·rw [k3.blk c (by omega) (fun h => by have:=hH.s c h; omega),hH.keep.blk c (by omega) (by simp; omega),k1.blk c hc (by simp)]
  ·have n2:=k2.next
   simp (disch:=omega) [-getElem?_pos,if_pos,if_neg,decide_eq_true,decide_eq_false,f4,f5]
   rw [hgr]
   exact ⟨_,rfl,.nil,⟨by omega,fun c hc _ => by rw [k2.blk c (by omega) (by simp; omega),k1.blk c hc (by simp)]⟩⟩
end Go.Proofs.YtejifalflkbekaaDoor
