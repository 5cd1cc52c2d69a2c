/-
  The document's Greedy (layer 18), the end; DualGreedy.
-/
import Derived.Test.YtejifalflkbekaaDoorDs13
set_option maxRecDepth 100000
set_option linter.unusedSimpArgs false
set_option linter.unusedVariables false
namespace Go.Proofs.YtejifalflkbekaaDoor
open Go Go.Abs Go.Proofs.YtejifalflkbekaaDoor.Bs
def G1I (H1 : AH) (lv wv : Value) (kk : Nat) (B : List Bool) (E : List Int) (S : List Nat) (k : Nat) (env : Env) (H' : AH) : Prop :=
 env 1 = some lv ∧ env 7 = some wv ∧ env 11 = some (.int .i64 kk) ∧ env 16 = some (.int .i64 k) ∧ WF H' ∧ Keep S H1 H' ∧ OwnL (fun _ => False) H' T_bool wv (wipe B (E.take k)) S
def G1Q (H1 : AH) (wv : Value) (B : List Bool) (E : List Int) (S : List Nat) (x : AExit) (env : Env) (H' : AH) : Prop:=x = .exit 8 ∧ WF H' ∧ Keep S H1 H' ∧ OwnL (fun _ => False) H' T_bool wv (wipe B E) S
theorem greedyR_l1 {p : Nat → Prop} {H1 : AH} {lv wv : Value} {L : List SetD} {B : List Bool} {S : List Nat} {kk : Nat} (hw : WF H1) (hL : SlV p H1 lv L) (hpS : ∀ c ∈ S,¬ p c) (hkk : kk < L.length) (hin : ∀ e ∈ L[kk].elems,-1 < e ∧ e < B.length) (hl : L[kk].elems.length ≤ 1000) {env : Env} (h : G1I H1 lv wv kk B L[kk].elems S 0 env H1) : wpC Tryd.prog 140 (.loop ir_ref18_Greedy_l1) (G1Q H1 wv B L[kk].elems S) env H1:=by
 refine loop_upto L[kk].elems.length (G1I H1 lv wv kk B L[kk].elems S) (Q:=G1Q H1 wv B L[kk].elems S) h ?_
 rintro k env H' hk ⟨e1,e7,e11,e16,w',k',hO⟩
 have hL' : SlV p H' lv L:=hL.sub (.keep hw k' hpS)
 obtain ⟨b0,off,sp,cap,cs,hv,q1,q2⟩:=sets_rd hL' (by omega)
 obtain ⟨ev,q3,q4,q5,q6,q7⟩:=q2 kk hkk
 have hkk' : (kk : Int) < (L.length : Int):=by omega
 generalize hE : L[kk].elems = E at *
 obtain ⟨ea,ec,hev⟩:=q7.slice
 subst hv
 by_cases hkn : k < E.length
 ·obtain ⟨b1,off1,sp1,cap1,cs1,hv1,p1,p2⟩:=ints_rd q7 (by omega)
  obtain ⟨p3,_⟩:=p2 k hkn
  have hk1:=hin E[k] (List.getElem_mem hkn)
  obtain ⟨m,hm⟩ : ∃ m : Nat,E[k] = (m : Int):=⟨E[k].toNat,by omega⟩
  rw [hm] at p3 hk1
  have hmB : m < B.length:=by omega
  have hwl:=wipe_len B (E.take k)
  have hst : wipe B (E.take (k + 1)) = (wipe B (E.take k)).set m false:=by
   rw [List.take_succ_eq_append_getElem hkn,wipe_snoc,hm]
   unfold setB
   rw [if_pos (by omega),Int.toNat_natCast]
  obtain ⟨b2,o2,s2,c2,cs2,ev2,z1,z2,z3,z4,_,z6,z7⟩:=hO.at (by omega)
  have hkE : (k : Int) < (E.length : Int):=by omega
  subst hv1 ev2
  obtain ⟨w1,w2,w3⟩:=hO.write (a:=false) (c:=[.bool false]) z2 (k:=m) (by omega) rfl
  simp only [sz_bool,Nat.mul_one] at w1 w2
  rw [← hst] at w2
  have hlt:=hO.lt w' b2 (by rw [w3]; simp)
  have hmW : m < (wipe B (E.take k)).length:=by omega
  have hmW' : (m : Int) < ((wipe B (E.take k)).length : Int):=by omega
  clear hin hm hst
  generalize wipe B (E.take k) = W at *
  simp (disch:=omega) [-getElem?_pos,if_pos,if_neg,decide_eq_true,decide_eq_false,ir_ref18_Greedy_l1,e1,e7,e11,e16,hkk,hkk',hkn,hkE,q1,q5,p1,p3,hmW,hmW',w1,IntWalk.i64_in]
  exact ⟨by simp [e1],by simp [e7],by simp [e11],by simp,w'.set hlt,k'.trans' (.set (by rw [w3]; simp)),w2⟩
 ·obtain rfl : k = E.length:=by omega
  rw [List.take_length] at hO
  subst hev
  simp (disch:=omega) [-getElem?_pos,if_pos,if_neg,decide_eq_true,decide_eq_false,ir_ref18_Greedy_l1,e1,e11,e16,hkk,hkk',q1,q5]
  exact ⟨rfl,w',k',hO⟩
structure GlH (H1 H' : AH) (bt n : Nat) (L : List SetD) (T B : List Bool) (A : List Int) (wv : Value) (S : List Nat) : Prop where
 st : GrSt L n T B A
 own : OwnL (fun _ => False) H' T_bool wv B S
 tk : H'.blk bt = some (.row (bB (mapB (inL A) L.length)) T_bool true)
 wf : WF H'
 keep : Keep (bt :: S) H1 H'
def GlI (H1 : AH) (bt n : Nat) (lv wv : Value) (S : List Nat) (L : List SetD) (T : List Bool) (m : Nat) (env : Env) (H' : AH) : Prop :=
 env 1 = some lv ∧ env 7 = some wv ∧ env 8 = some (.slice (some ⟨bt,0,none⟩) L.length L.length) ∧ ∃ B A,m = B.count true ∧ GlH H1 H' bt n L T B A wv S
def GlQ (H1 : AH) (bt n : Nat) (lv wv : Value) (S : List Nat) (L : List SetD) (T : List Bool) (x : AExit) (env : Env) (H' : AH) : Prop :=
 (x = .exit 0 ∧ env 1 = some lv ∧ env 8 = some (.slice (some ⟨bt,0,none⟩) L.length L.length) ∧ ∃ B A,GlH H1 H' bt n L T B A wv S ∧ grD L T.length T [] = some A) ∨
 (x = .ret ∧ env 4 = some (.slice none 0 0) ∧ env 5 = some (.bool false) ∧ WF H' ∧ Keep (bt :: S) H1 H' ∧ grD L T.length T [] = none)
theorem greedyR_l5 {p : Nat → Prop} {H1 : AH} {bt n m : Nat} {lv wv : Value} {S : List Nat} {L : List SetD} {T : List Bool} (hw : WF H1) (hL : SlV p H1 lv L) (hpS : ∀ c ∈ S,¬ p c) (hpt : ¬ p bt) (htS : bt ∉ S) (hbt : bt < H1.next) (hD : DOk n L) (hn : n ≤ 12) (hl : L.length ≤ 30) (hel : ∀ s ∈ L,s.elems.length ≤ 30) {env : Env} (h : GlI H1 bt n lv wv S L T m env H1) :
  wpC Tryd.prog 140 (.loop ir_ref18_Greedy_l5) (GlQ H1 bt n lv wv S L T) env H1:=by
 refine loop_rule (GlI H1 bt n lv wv S L T) (Q:=GlQ H1 bt n lv wv S L T) ?_ (j:=m) h
 clear h
 rintro m env H' ⟨e1,e7,e8,B,A,hm,hH⟩
 have k':=hH.keep
 have w':=hH.wf
 have hn':=k'.next
 have hL' : SlV p H' lv L:=hL.sub (.keep hw k' fun b hb hc => by
  rcases List.mem_cons.1 hb with rfl | hb
  ·exact hpt hc
  ·exact hpS b hb hc)
 have hBn:=hH.st.len
 have hBs:=hH.own.slv (q:=fun _ => True) (fun _ _ => trivial) (fun _ _ => trivial) (by omega)
 obtain ⟨wa,wc,hwv⟩:=hBs.slice
 have hso:=chS_some (L:=L) (B:=B) L.length (Nat.le_refl _)
 rw [hwv] at e7
 simp (disch:=omega) [-getElem?_pos,if_pos,if_neg,decide_eq_true,decide_eq_false,ir_ref18_Greedy_l5,e1,e7,e8]
 refine wpC_use (greedyR_l4 (B:=B) (wv:=wv) hBs (by omega) ?_) ?_
 ·exact ⟨rfl,by simp [e7,hwv],by simp,by simp [anyT]⟩
 rintro x env2 H2 ⟨rfl,rfl,f9⟩ hu
 have u1:=hu 1 (by decide)
 have u7:=hu 7 (by decide)
 have u8:=hu 8 (by decide)
 simp [e1,e7,e8] at u1 u7 u8
 clear hu
 cases hany : anyT B B.length with
 | false =>
  rw [hany] at f9
  simp (disch:=omega) [-getElem?_pos,if_pos,if_neg,decide_eq_true,decide_eq_false,f9,u1,u8]
  exact .inl ⟨rfl,by simp [u1],by simp [u8],B,A,hH,gr_done hH.st (anyT_cnt.1 hany)⟩
 | true =>
  rw [hany] at f9
  have hz : B.count true ≠ 0:=fun h => by rw [anyT_cnt.2 h] at hany; cases hany
  simp (disch:=omega) [-getElem?_pos,if_pos,if_neg,decide_eq_true,decide_eq_false,f9,u1,u7]
  refine wpC_use (greedyR_l3 (lv:=lv) (wv:=wv) (B:=B) hL' hBs hD hBn hl hel ?_) ?_
  ·exact ⟨rfl,by simp [u1],by simp [u7,hwv],by simp,by simp [chS],by simp [chS]⟩
  rintro x env3 H3 ⟨rfl,rfl,f11⟩ hu
  have v1:=hu 1 (by decide)
  have v7:=hu 7 (by decide)
  have v8:=hu 8 (by decide)
  simp [u1,u7,u8] at v1 v7 v8
  clear hu
  rcases hso with ⟨h1,h2⟩ | ⟨b,hbl,h1,hbk,h2,h3⟩
  ·rw [h1] at f11
   simp (disch:=omega) [-getElem?_pos,if_pos,if_neg,decide_eq_true,decide_eq_false,f11]
   exact .inr ⟨rfl,by simp,by simp,w',k',gr_fail hH.st hz (by omega)⟩
  ·have hg:=gr_next hD hH.st hz hbl h1 h3
   rw [h1] at f11
   obtain ⟨hst,hlt⟩:=hg
   have hbl' : (b : Int) < (L.length : Int):=by omega
   have hb3 : ¬ (b : Int) < 0:=by omega
   have hself : H3 = dB H3 bt (mapB (inL A) L.length):=(AH.set_selfK hH.tk).symm
   have hwr : writeA H3 bt b [.bool true] = some (dB H3 bt (mapB (inL (A ++ [(b : Int)])) L.length)):=by
    have:=dB_write (H0:=H3) (b:=bt) (i:=b) (X:=mapB (inL A) L.length) (a:=true) (by rw [mapB_len]; exact hbl)
    rw [← hself,inL_snocF] at this; exact this
   obtain ⟨H4,hH4⟩ : ∃ H4,H4 = dB H3 bt (mapB (inL (A ++ [(b : Int)])) L.length):=⟨_,rfl⟩
   have w4 : WF H4:=by rw [hH4]; exact w'.set (by omega)
   have n4 : H4.next = H3.next:=by rw [hH4]; rfl
   have b4 : H4.blk bt = some (.row (bB (mapB (inL (A ++ [(b : Int)])) L.length)) T_bool true):=by rw [hH4]; exact AH.set_blk_same
   have k34 : Keep [bt] H3 H4:=by rw [hH4]; exact .set (by simp)
   have hO4 : OwnL (fun _ => False) H4 T_bool wv B S:=hH.own.keep w' k34 (fun _ _ h => h) fun c hc hct => by simp at hct; exact htS (hct ▸ hc)
   have hL4 : SlV p H4 lv L:=hL'.sub (.keep w' k34 fun c hc h => by simp at hc; exact hpt (hc ▸ h))
   simp (disch:=omega) [-getElem?_pos,if_pos,if_neg,decide_eq_true,decide_eq_false,v1,v7,v8,f11,hb3,hbl,hbl',hwr]
   rw [← hH4]
   refine wpC_use (greedyR_l1 (kk:=b) (B:=B) (S:=S) (lv:=lv) (wv:=wv) w4 hL4 hpS hbl (fun e he => by rw [hBn]; exact rises_mem (hD.rise _ (List.getElem_mem hbl)) e he) (by have:=hel L[b] (List.getElem_mem hbl); omega) ?_) ?_
   ·exact ⟨by simp [v1],by simp [v7,hwv],by simp [f11],by simp,w4,.refl,hO4⟩
   rintro x env4 H5 ⟨rfl,w5,k5,hO5⟩ hu
   have x1:=hu 1 (by decide)
   have x7:=hu 7 (by decide)
   have x8:=hu 8 (by decide)
   simp [v1,v7,v8] at x1 x7 x8
   clear hu
   simp (disch:=omega) [-getElem?_pos,if_pos,if_neg,decide_eq_true,decide_eq_false,]
   exact ⟨_,by omega,x1,by rw [x7,hwv],x8,_,_,rfl,hst,hO5,(k5.blk bt (by omega) htS).trans b4,w5,(k'.trans' (k34.mono (by simp))).trans' (k5.mono fun c hc _ => by simp [hc])⟩
def G0I (H1 : AH) (lv : Value) (bt : Nat) (N : Nat) (A : List Int) (k : Nat) (env : Env) (H' : AH) : Prop :=
 env 1 = some lv ∧ env 8 = some (.slice (some ⟨bt,0,none⟩) N N) ∧ env 18 = some (.int .i64 k) ∧ WF H' ∧ Keep [] H1 H' ∧ ∃ a S,env 17 = some a ∧ OwnL (fun _ => False) H' T_int a (selK (inL A) k) S ∧ ∀ c ∈ S,H1.next ≤ c
def G0Q (H1 : AH) (N : Nat) (A : List Int) (x : AExit) (env : Env) (H' : AH) : Prop:=x = .exit 10 ∧ WF H' ∧ Keep [] H1 H' ∧ ∃ a S,env 17 = some a ∧ OwnL (fun _ => False) H' T_int a (selK (inL A) N) S ∧ ∀ c ∈ S,H1.next ≤ c
theorem greedyR_l0 {p : Nat → Prop} {H1 : AH} {lv : Value} {L : List SetD} {bt : Nat} {A : List Int} (hw : WF H1) (hL : SlV p H1 lv L) (hc : H1.cells bt = some (bB (mapB (inL A) L.length))) (hn : L.length ≤ 1000) {env : Env} (h : G0I H1 lv bt L.length A 0 env H1) :
  wpC Tryd.prog 140 (.loop ir_ref18_Greedy_l0) (G0Q H1 L.length A) env H1:=by
 obtain ⟨la,lc,hlv⟩:=hL.slice
 refine loop_upto L.length (G0I H1 lv bt L.length A) (Q:=G0Q H1 L.length A) h ?_
 rintro k env H' hk ⟨e1,e8,e18,w',k',a,S,e17,hA,hS⟩
 rw [hlv] at e1
 by_cases hkn : k < L.length
 ·have hc':=cells_kept hw k' hc
  have hg:=bB_get (B:=mapB (inL A) L.length) (i:=k) (by rw [mapB_len]; exact hkn)
  rw [mapB_get hkn] at hg
  have hs1:=selK_succ (inL A) k
  have hl1:=selK_len (inL A) k
  obtain ⟨aa,ac,rfl⟩:=hA.slice
  have hk1 : (k : Int) ≤ 1000:=by omega
  have hkn' : (k : Int) < (L.length : Int):=by omega
  cases hb : inL A k with
  | true =>
   rw [hb,if_pos rfl] at hs1
   rw [hb] at hg
   obtain ⟨va,vc,H2,S',p1,w2,hA2,k2,hS2,_,_⟩:=push_int w' hA k' hS (a:=(k : Int)) (by unfold I64; omega) (by omega)
   have pE : elemsA (H'.alloc (.row [.int .i64 (k : Int)] T_int true)) 1 (.slice (some ⟨H'.next,0,none⟩) 1 1) = some [.int .i64 (k : Int)]:=elems_one rfl
   simp (disch:=omega) [-getElem?_pos,if_pos,if_neg,decide_eq_true,decide_eq_false,ir_ref18_Greedy_l0,e1,e8,e17,e18,hkn,hkn',hc',hg,pE,p1,IntWalk.i64_in]
   refine ⟨by simp [e1,hlv],by simp [e8],by simp,w2,k2,_,S',by simp; rfl,?_,hS2⟩
   rw [hs1]
   simpa using hA2
  | false =>
   rw [hb,if_neg (by simp)] at hs1
   rw [hb] at hg
   simp (disch:=omega) [-getElem?_pos,if_pos,if_neg,decide_eq_true,decide_eq_false,ir_ref18_Greedy_l0,e1,e8,e17,e18,hkn,hkn',hc',hg,IntWalk.i64_in]
   refine ⟨by simp [e1,hlv],by simp [e8],by simp,w',k',_,S,by simp [e17]; rfl,?_,hS⟩
   rw [hs1]
   exact hA
 ·obtain rfl : k = L.length:=by omega
  simp (disch:=omega) [-getElem?_pos,if_pos,if_neg,decide_eq_true,decide_eq_false,ir_ref18_Greedy_l0,e1,e18]
  exact ⟨rfl,w',k',a,S,e17,hA,hS⟩
theorem GreedyR_spec {H : AH} {tv lv : Value} {L : List SetD} {T : List Bool} (hT : SlV (fun b => b < H.next) H tv T) (hL : SlV (fun b => b < H.next) H lv L) (hn : T.length ≤ 12) (hl : L.length ≤ 30) (hel : ∀ s ∈ L,s.elems.length ≤ 30) : AFn Tryd.prog F_ref18_Greedy [tv,lv] H (PrV H (gdA L T)):=by
 obtain ⟨ta,tc,rfl⟩:=hT.slice
 obtain ⟨la,lc,rfl⟩:=hL.slice
 refine AFn.enter mixed ir_ref18_Greedy_eq (by simp [ir_ref18_Greedy]) fun hw => ?_
 have hga : gdA L T = if mayD T.length L then (grD L T.length T []).map fun A => selK (inL A) L.length else none:=rfl
 rw [hga]
 simp (disch:=omega) [-getElem?_pos,if_pos,if_neg,decide_eq_true,decide_eq_false,ir_ref18_Greedy]
 refine AFn.pure (mayR_spec (n:=(T.length : Int)) (by unfold I64; omega) hL) ?_
 cases hm : mayD T.length L with
 | false =>
  simp (disch:=omega) [-getElem?_pos,if_pos,if_neg,decide_eq_true,decide_eq_false,]
  exact ⟨_,rfl,.nil,.refl⟩
 | true =>
  have hD:=mayD_ok hm
  rw [if_pos rfl]
  obtain ⟨cells,a',c',H1,S,pe,pa,hO,k1,w1,i1⟩:=OwnL.pushAll (p:=fun _ => False) (q:=fun b => b < H.next) (ty:=T_bool) (S:=[]) (l:=([] : List Bool)) .nil hw hT 1 (fun _ h => h.elim) (fun b hb => hb) (by simp) (by simp; omega) (by simp; omega)
  simp only [sz_bool,List.length_nil,Nat.zero_add,List.nil_append] at pe pa hO
  have n1:=k1.next
  have hSn : ∀ c ∈ S,H.next ≤ c:=fun c hc => by rcases i1 c hc with h | h; simp at h; exact h
  have hSl:=hO.lt w1
  have hO1 : OwnL (fun _ => False) H1 T_bool (.slice a' T.length c') T S:=by
   obtain ⟨cells,o1,o2,_⟩:=hO
   exact ⟨cells,o1,fun i hi => o2 i hi,by simp⟩
  have hz:=mapB_none L.length
  simp (disch:=omega) [-getElem?_pos,if_pos,if_neg,decide_eq_true,decide_eq_false,pe,pa,← hz]
  obtain ⟨H2,hH2⟩ : ∃ H2,H2 = H1.alloc (.row (bB (mapB (fun _ => false) L.length)) T_bool true):=⟨_,rfl⟩
  have k2 : Keep [] H1 H2:=by rw [hH2]; exact .alloc
  have w2 : WF H2:=by rw [hH2]; exact w1.alloc
  have n2 : H2.next = H1.next + 1:=by rw [hH2]; rfl
  have b2 : H2.blk H1.next = some (.row (bB (mapB (fun _ => false) L.length)) T_bool true):=by rw [hH2]; exact AH.alloc_blk_new
  have hil : inL [] = fun _ => false:=by funext i; simp [inL]
  rw [← hH2]
  have k02:=k1.trans' k2
  refine wpC_use (greedyR_l5 (p:=fun b => b < H.next) (H1:=H2) (bt:=H1.next) (n:=T.length) (m:=T.count true) (S:=S) (lv:=.slice la L.length lc) (wv:=.slice a' T.length c') (L:=L) (T:=T) w2 (hL.kept hw k02) (fun c hc h => by have:=hSn c hc; omega) (by omega) (fun h => by have:=hSl _ h; omega) (by omega) hD hn hl hel ⟨by simp,by simp,by simp,T,[],rfl,⟨gr_start,hO1.kept w1 k2,by rw [hil]; exact b2,w2,.refl⟩⟩) ?_
  have hold : ∀ H3,Keep (H1.next :: S) H2 H3 → Keep [] H H3:=fun H3 k3 => ⟨by have:=k3.next; omega,fun b hb _ => by
   rw [k3.blk b (by omega) (fun h => by
    rcases List.mem_cons.1 h with rfl | h
    ·omega
    ·have:=hSn b h; omega),k02.blk b hb (by simp)]⟩
  rintro x env2 H3 (⟨rfl,f1,f8,B,A,hH,hgr⟩ | ⟨rfl,f4,f5,w3,k3,hgr⟩) _
  ·have hk3:=hold _ hH.keep
   have n3:=hH.keep.next
   simp (disch:=omega) [-getElem?_pos,if_pos,if_neg,decide_eq_true,decide_eq_false,f1,f8]
   refine wpC_use (greedyR_l0 (H1:=H3) (bt:=H1.next) (A:=A) (lv:=.slice la L.length lc) hH.wf (hL.kept hw hk3) (AH.cells_of hH.tk) (by omega) ⟨by simp [f1],by simp [f8],by simp,hH.wf,.refl,.slice none 0 0,[],by simp,.nil,by simp⟩) ?_
   rintro x env3 H4 ⟨rfl,w4,k4,a,S4,g17,hA4,hS4⟩ _
   have hA4n:=hA4.lt w4
   have n4:=k4.next
   have hsl:=selK_len (inL A) L.length
   obtain ⟨aa,ac,rfl⟩:=hA4.slice
   simp (disch:=omega) [-getElem?_pos,if_pos,if_neg,decide_eq_true,decide_eq_false,g17]
   rw [hgr]
   exact ⟨_,rfl,hA4.slv (fun _ h => h.elim) (fun c hc => ⟨by have:=hS4 c hc; have:=hk3.next; omega,hA4n c hc⟩) (by show (selK (inL A) L.length).length ≤ _; omega),hk3.trans' k4⟩
  ·simp (disch:=omega) [-getElem?_pos,if_pos,if_neg,decide_eq_true,decide_eq_false,f4,f5]
   rw [hgr]
   exact ⟨_,rfl,.nil,hold _ k3⟩
/-! ### DualGreedy -/
def DgI (H1 : AH) (v w : Value) (n : Nat) (k : Nat) (env : Env) (H' : AH) : Prop :=
 env 11 = some v ∧ env 13 = some w ∧ env 58 = some (.int .i64 n) ∧ env 59 = some (.int .i64 k) ∧ H' = H1
def DgQ (H1 : AH) (e : AExit) (env : Env) (H' : AH) : Prop:=e = .exit 2 ∧ H' = H1
theorem dualGreedy_l0 {p q : Nat → Prop} {H1 : AH} {v w : Value} {A : List Int} (hA : SlV p H1 v A) (hB : SlV q H1 w A) {env : Env} (h : DgI H1 v w A.length 0 env H1) : wpC Tryd.prog 74 (.loop ir_law18_DualGreedy_l0) (DgQ H1) env H1:=by
 refine loop_upto A.length (DgI H1 v w A.length) (Q:=DgQ H1) h ?_
 rintro k env H' hk ⟨e0,e1,e12,e13,rfl⟩
 by_cases hkn : k < A.length
 ·obtain ⟨b0,off,sp,cap,cs,hcv,q1,q2⟩:=ints_rd hA (by omega)
  obtain ⟨q3,_⟩:=q2 k hkn
  obtain ⟨b1,off1,sp1,cap1,cs1,hcv1,p1,p2⟩:=ints_rd hB (by omega)
  obtain ⟨p3,_⟩:=p2 k hkn
  subst hcv hcv1
  generalize A[k] = x at *
  have hmx:=hA.max
  have hws : IntKind.i64.wrap ((k : Int) + 1) = (k : Int) + 1:=IntWalk.i64_in _ (by omega)
  simp (disch:=omega) [-getElem?_pos,if_pos,if_neg,decide_eq_true,decide_eq_false,ir_law18_DualGreedy_l0,e0,e1,e12,e13,hkn,q1,q3,p1,p3,hws]
  exact ⟨by simp [e0],by simp [e1],by simp [e12],by simp,rfl⟩
 ·obtain rfl : k = A.length:=by omega
  simp (disch:=omega) [-getElem?_pos,if_pos,if_neg,decide_eq_true,decide_eq_false,ir_law18_DualGreedy_l0,e12,e13]
  exact ⟨rfl,rfl⟩
def DhI (H1 : AH) (r q : Nat) (lv tv : Value) (n : Nat) (k : Nat) (env : Env) (H' : AH) : Prop :=
 env 1 = some lv ∧ env 5 = some (.pointer (some ⟨r,0,none⟩)) ∧ env 6 = some tv ∧ env 23 = some (.slice (some ⟨q,0,none⟩) 2 2) ∧ env 24 = some (.int .i64 2) ∧ env 25 = some (.int .i64 k) ∧ WF H' ∧ Keep [] H1 H'
def DhQ (H1 : AH) (e : AExit) (env : Env) (H' : AH) : Prop:=e = .exit 0 ∧ WF H' ∧ Keep [] H1 H'
theorem dualGreedy_l1 {H1 : AH} {r q : Nat} {lv sl tv : Value} {L : List SetD} {T : List Bool} (hw : WF H1) (hr : H1.cells r = some [.int .i64 T.length,sl]) (hq : H1.cells q = some [.int .i64 (-1),.int .i64 T.length]) (hs : SetB (fun b => b < H1.next) H1 (.agg #[.int .i64 T.length,sl]) T) (hT : SlV (fun b => b < H1.next) H1 tv T) (hL : SlV (fun b => b < H1.next) H1 lv L) (hn : T.length ≤ 12) {env : Env} (h : DhI H1 r q lv tv T.length 0 env H1) :
  wpC Tryd.prog 74 (.loop ir_law18_DualGreedy_l1) (DhQ H1) env H1:=by
 refine loop_upto 2 (DhI H1 r q lv tv T.length) (Q:=DhQ H1) h ?_
 rintro k env H' hk ⟨e1,e5,e6,e22,e23,e24,w',k'⟩
 have n':=k'.next
 by_cases hkn : k < 2
 ·have up : ∀ {v : Value} {α : Type} [Ren α] {l : List α} {Ha Hb : AH},SlV (fun b => b < Ha.next) Ha v l → WF Ha → Keep [] Ha Hb → SlV (fun b => b < Hb.next) Hb v l:=fun h hw k => (h.kept hw k).mono fun b hb => by have:=k.next; omega
  have ups : ∀ {Ha Hb : AH} {v : Value},SetB (fun b => b < Ha.next) Ha v T → WF Ha → Keep [] Ha Hb → SetB (fun b => b < Hb.next) Hb v T:=fun h hw k => h.up2 (fun b hb => by have:=k.next; omega) (.kept hw k)
  have hq':=cells_kept hw k' hq
  obtain ⟨sz,hsz,hsz2,hrd⟩ : ∃ sz : Int,(sz = -1 ∨ ∃ m : Nat,sz = m ∧ m ≤ 12) ∧ I64 sz ∧ [Value.int .i64 (-1),.int .i64 (T.length : Int)][k]? = some (.int .i64 sz):=by
   have : k = 0 ∨ k = 1:=by omega
   rcases this with rfl | rfl
   ·exact ⟨-1,.inl rfl,by unfold I64; omega,rfl⟩
   ·exact ⟨T.length,.inr ⟨_,rfl,hn⟩,by unfold I64; omega,rfl⟩
  have hk2 : (k : Int) < 2:=by omega
  have hcL:=hL.cell
  simp (disch:=omega) [-getElem?_pos,if_pos,if_neg,decide_eq_true,decide_eq_false,ir_law18_DualGreedy_l1,e1,e5,e6,e22,e23,e24,hkn,hk2,hq',hrd,hcL.1,hcL.2]
  refine (sets_spec (up hL hw k') hsz).mono' fun u H2 w2 ⟨a,b,M,hu,hA,hB,hMl,hMo,k2⟩ => ?_
  subst hu
  have hcA:=hA.cell
  have hcB:=hB.cell
  have hcT:=hT.cell
  have k12:=k'.trans' k2
  have n2:=k2.next
  have r2:=cells_kept hw k12 hr
  have hM30 : M.length ≤ 30:=by omega
  have hMe : ∀ s ∈ M,s.elems.length ≤ 30:=fun s hs => (hMo s hs).1
  have hs2:=ups hs hw k12
  simp (disch:=omega) [-getElem?_pos,if_pos,if_neg,decide_eq_true,decide_eq_false,e5,e6,r2,cut2v,hcA.1,hcA.2,hcB.1,hcB.2]
  refine (Greedy_spec hs2 (hA.mono fun b hb => hb.2) hn hM30 hMe).mono' fun u H3 w3 ⟨pv,hu,hP,k3⟩ => ?_
  subst hu
  have hcP:=hP.cell
  have n3:=k3.next
  simp (disch:=omega) [-getElem?_pos,if_pos,if_neg,decide_eq_true,decide_eq_false,e6,hcP.1,hcP.2,hcB.1,hcB.2,hcT.1,hcT.2]
  refine (GreedyR_spec (up (up hT hw k12) w2 k3) (up (hB.mono (q:=fun b => b < H2.next) fun b hb => hb.2) w2 k3) hn hM30 hMe).mono' fun u H4 w4 ⟨qv,hu,hQ,k4⟩ => ?_
  subst hu
  have hcQ:=hQ.cell
  have hP4:=hP.kept w3 k4
  generalize (gdA M T).isSome = ob
  generalize (gdA M T).getD [] = A at *
  obtain ⟨pa,pc,rfl⟩:=hP.slice
  obtain ⟨qa,qc,rfl⟩:=hQ.slice
  have k14:=k12.trans' (k3.trans' k4)
  simp (disch:=omega) [-getElem?_pos,if_pos,if_neg,decide_eq_true,decide_eq_false,hcP.1,hcP.2,hcQ.1,hcQ.2]
  refine wpC_use (dualGreedy_l0 hP4 hQ ?_) ?_
  ·exact ⟨by simp,by simp,by simp,by simp,rfl⟩
  rintro x env2 H5 ⟨rfl,rfl⟩ hu
  have u1:=hu 1 (by decide)
  have u5:=hu 5 (by decide)
  have u6:=hu 6 (by decide)
  have u23:=hu 23 (by decide)
  have u24:=hu 24 (by decide)
  have u25:=hu 25 (by decide)
  simp [e1,e5,e6,e22,e23,e24] at u1 u5 u6 u23 u24 u25
  simp (disch:=omega) [-getElem?_pos,if_pos,if_neg,decide_eq_true,decide_eq_false,u25,hkn,IntWalk.i64_in]
  exact ⟨by simp [u1],by simp [u5],by simp [u6],by simp [u23],by simp [u24],by simp,w4,k14⟩
 ·obtain rfl : k = 2:=by omega
  simp (disch:=omega) [-getElem?_pos,if_pos,if_neg,decide_eq_true,decide_eq_false,ir_law18_DualGreedy_l1,e23,e24]
  exact ⟨rfl,w',k'⟩
theorem DualGreedy_abs {H : AH} {tv lv : Value} {L : List SetD} {T : List Bool} (hg : GroundA G H) (hT : SlV (fun b => b < H.next) H tv T) (hL : SlV (fun b => b < H.next) H lv L) : AFn Tryd.prog F_law18_DualGreedy [tv,lv] H fun u H' => u = .bool true ∧ H' = H:=by
 refine AFn.calm (fun H0 hs => ?_) rfl
 have hn0 : H0.next = H.next:=hs.1
 have hL0:=(hL.same hs).mono (q:=fun b => b < H0.next) fun b hb => by omega
 have hT0:=(hT.same hs).mono (q:=fun b => b < H0.next) fun b hb => by omega
 have hg0:=hg.same hs
 clear hL hT
 refine AFn.enter mixed ir_law18_DualGreedy_eq (by simp [ir_law18_DualGreedy]) fun hw => ?_
 have hcT:=hT0.cell
 have hcL:=hL0.cell
 simp (disch:=omega) [-getElem?_pos,if_pos,if_neg,decide_eq_true,decide_eq_false,ir_law18_DualGreedy,hcT.1,hcT.2,hcL.1,hcL.2]
 refine (lacks_spec hT0).mono' fun u H1 w1 ⟨sv,w,hu,hS,hW,k1⟩ => ?_
 subst hu
 have n1:=k1.next
 have hlen : (T.take 12).length ≤ 12:=by rw [List.length_take]; omega
 generalize T.take 12 = B at *
 obtain ⟨sl,rfl⟩:=setV hS
 obtain ⟨wa,wc,rfl⟩:=hW.slice
 simp (disch:=omega) [-getElem?_pos,if_pos,if_neg,decide_eq_true,decide_eq_false,writeA,over,hS.one.1,hS.one.2]
 generalize hH2 : AH.alloc (AH.alloc H1 _) _ = H2
 have k2 : Keep [] H1 H2:=by rw [← hH2]; exact .trans' .alloc .alloc
 have w2 : WF H2:=by rw [← hH2]; exact (w1.alloc).alloc
 have n2 : H2.next = H1.next + 2:=by rw [← hH2]; rfl
 have r2 : H2.cells H1.next = some [.int .i64 B.length,sl]:=by rw [← hH2,AH.cells_alloc_ne (by simp)]; exact AH.cells_alloc_new
 have q2 : H2.cells (H1.next + 1) = some [.int .i64 (-1),.int .i64 B.length]:=by rw [← hH2]; exact AH.cells_alloc_new
 have k12:=k1.trans' k2
 refine wpC_use (dualGreedy_l1 (H1:=H2) (r:=H1.next) (q:=H1.next + 1) (sl:=sl) (T:=B) (L:=L) w2 r2 q2 (hS.up2 (fun b hb => by have:=hb.2; omega) (.kept w1 k2)) ((hW.kept w1 k2).mono fun b hb => by omega) ((hL0.kept hw k12).mono fun b hb => by omega) hlen ⟨by simp,by simp,by simp,by simp,by simp,by simp,w2,.refl⟩) ?_
 rintro e env2 H3 ⟨rfl,w3,k3⟩ _
 simp (disch:=omega) [-getElem?_pos,if_pos,if_neg,decide_eq_true,decide_eq_false,]
 refine AFn.pure (wakes18_spec (hg0.kept hw (k12.trans' k3))) ?_
 simp (disch:=omega) [-getElem?_pos,if_pos,if_neg,decide_eq_true,decide_eq_false,]
end Go.Proofs.YtejifalflkbekaaDoor
