/-
  package dual: Prices.
-/
import Derived.Test.YtejifalflkbekaaDoorDs5
set_option maxRecDepth 100000
set_option linter.unusedSimpArgs false
set_option linter.unusedVariables false
namespace Go.Proofs.YtejifalflkbekaaDoor
open Go Go.Abs Go.Proofs.YtejifalflkbekaaDoor.Bs
/-! ### the sets that have an element -/
def PwI (H2 : AH) (lv : Value) (L : List SetD) (e : Nat) (k : Nat) (env : Env) (H' : AH) : Prop :=
 env 11 = some (.int .i64 e) ∧ env 48 = some lv ∧ env 49 = some (.int .i64 L.length) ∧ env 50 = some (.int .i64 k) ∧ WF H' ∧ Keep [] H2 H' ∧ ∃ a S,env 12 = some a ∧ OwnL (fun _ => False) H' T_int a (selK (hB L e) k) S ∧ ∀ c ∈ S,H2.next ≤ c
def PwQ (H2 : AH) (L : List SetD) (e : Nat) (x : AExit) (env : Env) (H' : AH) : Prop :=
 x = .exit 4 ∧ WF H' ∧ Keep [] H2 H' ∧ ∃ a S,env 12 = some a ∧ OwnL (fun _ => False) H' T_int a (selK (hB L e) L.length) S ∧ ∀ c ∈ S,H2.next ≤ c
theorem prices_l1 {p : Nat → Prop} {H2 : AH} {lv : Value} {L : List SetD} {n e : Nat} (hw : WF H2) (hL : SlV p H2 lv L) (hD : DOk n L) (hl : L.length ≤ 30) (hel : ∀ s ∈ L,s.elems.length ≤ 30) {env : Env} (h : PwI H2 lv L e 0 env H2) :
  wpC Tryd.prog 94 (.loop ir_dual_Prices_l1) (PwQ H2 L e) env H2:=by
 refine loop_upto L.length (PwI H2 lv L e) (Q:=PwQ H2 L e) h ?_
 rintro k env H' hk ⟨e11,e48,e49,e50,w',k',a,S,e12,hA,hS⟩
 by_cases hkn : k < L.length
 ·have hL':=hL.kept hw k'
  obtain ⟨b0,off,sp,cap,cs,rfl,q1,q2⟩:=sets_rd hL' (by omega)
  obtain ⟨xv,q3,q4,q5,q6,q7⟩:=q2 k hkn
  have hsl:=hel L[k] (List.getElem_mem hkn)
  have hr:=rises_pair (hD.rise L[k] (List.getElem_mem hkn))
  obtain ⟨H3,hH3⟩ : ∃ H3,H3 = H'.alloc (.row [.int .i64 L[k].cost,xv] T_inst_Set true):=⟨_,rfl⟩
  have k3 : Keep [] H' H3:=by rw [hH3]; exact .alloc
  have w3 : WF H3:=by rw [hH3]; exact w'.alloc
  have c3 : H3.cells H'.next = some [.int .i64 L[k].cost,xv]:=by rw [hH3]; exact AH.cells_alloc_new
  have hh:=has_spec (c:=L[k].cost) (e:=(e : Int)) (q7.kept w' k3) (by omega) hr
  have hhe:=hB_eq (e:=e) hkn
  have hhe2 : hasE L[k] e = decide ((e : Int) ∈ L[k].elems):=rfl
  have hs1:=selK_succ (hB L e) k
  have hl1:=selK_len (hB L e) k
  rw [← hhe2,← hhe] at hh
  have hA3:=hA.kept w' k3
  have k23:=k'.trans' k3
  obtain ⟨aa,ac,rfl⟩:=hA.slice
  generalize L[k].cost = c0 at *
  cases hb : hB L e k with
  | true =>
   rw [hb] at hh
   rw [hb,if_pos rfl] at hs1
   obtain ⟨va,vc,H4,S',p1,w4,hA4,k4,hS4,_,_⟩:=push_int w3 hA3 k23 hS (a:=(k : Int)) (by unfold I64; omega) (by omega)
   have pE : elemsA (H3.alloc (.row [.int .i64 (k : Int)] T_int true)) 1 (.slice (some ⟨H3.next,0,none⟩) 1 1) = some [.int .i64 (k : Int)]:=elems_one rfl
   simp (disch:=omega) [-getElem?_pos,if_pos,if_neg,decide_eq_true,decide_eq_false,ir_dual_Prices_l1,e11,e12,e48,e49,e50,hkn,q1,q3,writeA,over,cut2v]
   rw [← hH3]
   refine AFn.pure hh ?_
   simp (disch:=omega) [-getElem?_pos,if_pos,if_neg,decide_eq_true,decide_eq_false,e12,pE,p1,e50,IntWalk.i64_in]
   refine ⟨hkn,by simp [e11],by simp [e48],by simp [e49],by simp,w4,k4,_,S',by simp; rfl,?_,hS4⟩
   rw [hs1]; simpa using hA4
  | false =>
   rw [hb] at hh
   rw [hb,if_neg (by simp)] at hs1
   simp (disch:=omega) [-getElem?_pos,if_pos,if_neg,decide_eq_true,decide_eq_false,ir_dual_Prices_l1,e11,e12,e48,e49,e50,hkn,q1,q3,writeA,over,cut2v]
   rw [← hH3]
   refine AFn.pure hh ?_
   simp (disch:=omega) [-getElem?_pos,if_pos,if_neg,decide_eq_true,decide_eq_false,e12,e50,IntWalk.i64_in]
   refine ⟨hkn,by simp [e11],by simp [e48],by simp [e49],by simp,w3,k23,_,S,by simp [e12]; rfl,?_,hS⟩
   rw [hs1]; exact hA3
 ·obtain rfl : k = L.length:=by omega
  simp (disch:=omega) [-getElem?_pos,if_pos,if_neg,decide_eq_true,decide_eq_false,ir_dual_Prices_l1,e49,e50]
  exact ⟨rfl,w',k',a,S,e12,hA,hS⟩
/-! ### what is left -/
def lessF (f : Nat → Int) (m : Int) (W : List Int) (i : Nat) : Int:=f i - if (i : Int) ∈ W then m else 0
def PlI (Hx : AH) (pv wv : Value) (q b : Nat) (e N : Nat) (f : Nat → Int) (m : Int) (W : List Int) (k : Nat) (env : Env) (H' : AH) : Prop :=
 env 6 = some pv ∧ env 7 = some (.pointer (some ⟨q,0,none⟩)) ∧ env 11 = some (.int .i64 e) ∧ env 75 = some wv ∧ env 76 = some (.int .i64 W.length) ∧ env 77 = some (.int .i64 k) ∧ H' = dI Hx b (mapI (lessF f m (W.take k)) N)
def PlQ (Hx : AH) (b : Nat) (N : Nat) (f : Nat → Int) (m : Int) (W : List Int) (x : AExit) (env : Env) (H' : AH) : Prop:=x = .exit 6 ∧ H' = dI Hx b (mapI (lessF f m W) N)
theorem prices_l0 {Hx : AH} {pv wv : Value} {q b bp : Nat} {e N n : Nat} {f : Nat → Int} {m : Int} {W : List Int} {P : List Int} (hq : Hx.cells q = some [.slice (some ⟨b,0,none⟩) N N]) (hqb : q ≠ b) (hbp : bp ≠ b) (hpv : pv = .slice (some ⟨bp,0,none⟩) n n) (hP : Hx.cells bp = some (rI P)) (hPl : P.length = n) (he : e < n) (hm : P.getD e 0 = m) (hW : SlV (fun c => c ≠ b) Hx wv W) (hWn : W.Pairwise (· < ·)) (hin : ∀ a ∈ W,0 ≤ a ∧ a < N) (hNl : N ≤ 1000) (hl : W.length ≤ 1000)
  (hf : ∀ i,i < N → -4611686018427387904 ≤ f i ∧ f i ≤ 4611686018427387903) (hmb : 0 ≤ m ∧ m ≤ 2147483648) {H : AH} {env : Env} (h : PlI Hx pv wv q b e N f m W 0 env H) :
  wpC Tryd.prog 94 (.loop ir_dual_Prices_l0) (PlQ Hx b N f m W) env H:=by
 refine loop_upto W.length (PlI Hx pv wv q b e N f m W) (Q:=PlQ Hx b N f m W) h ?_
 rintro k env H' hk ⟨e6,e7,e11,e75,e76,e77,rfl⟩
 by_cases hkn : k < W.length
 ·have hsub : ∀ (X : List Int) c,c ≠ b → ∀ cs,Hx.cells c = some cs → (dI Hx b X).cells c = some cs:=fun X c hc cs hcs => by rw [AH.cells_set_ne hc]; exact hcs
  obtain ⟨b0,off,sp,cap,cs,hv,q1,q2⟩:=ints_rd hW (by omega)
  obtain ⟨q3,_⟩:=q2 k hkn
  have hb0 : b0 ≠ b:=fun hh => by
   subst hh
   obtain ⟨b2,_,_,_,_,h2,_,_,_,hh,_⟩:=hW.at (by omega)
   rw [hv] at h2; cases h2; exact hh rfl
  have hc:=hin W[k] (List.getElem_mem hkn)
  obtain ⟨c,hc'⟩ : ∃ c : Nat,W[k] = (c : Int):=⟨W[k].toNat,by omega⟩
  rw [hc'] at q3 hc
  have hcN : c < N:=by omega
  have hcN' : (c : Int) < (N : Int):=by omega
  have hen' : (e : Int) < (n : Int):=by omega
  have hno : (c : Int) ∉ W.take k:=fun hm2 => by
   obtain ⟨i,hi,hie⟩:=List.getElem_of_mem hm2
   rw [List.length_take] at hi
   rw [List.getElem_take] at hie
   have:=(List.pairwise_iff_getElem.1 hWn) i k (by omega) hkn (by omega)
   omega
  have hrd:=rI_get (X:=mapI (lessF f m (W.take k)) N) (i:=c) (by rw [mapI_len]; exact hcN)
  rw [mapI_get hcN] at hrd
  have hfc : lessF f m (W.take k) c = f c:=by unfold lessF; rw [if_neg hno]; omega
  rw [hfc] at hrd
  have hset : (mapI (lessF f m (W.take k)) N).set c (f c - m) = mapI (lessF f m (W.take (k + 1))) N:=by
   refine mapI_set fun j hj => ?_
   unfold lessF
   rw [List.take_succ_eq_append_getElem hkn,hc']
   by_cases hjc : j = c
   ·subst hjc; rw [if_pos rfl,if_pos (by simp)]
   ·rw [if_neg hjc]
    congr 1
    have : ¬ (j : Int) = (c : Int):=by omega
    simp [this]
  have hwr:=dI_write (H0:=Hx) (b:=b) (i:=c) (X:=mapI (lessF f m (W.take k)) N) (a:=f c - m) (by rw [mapI_len]; exact hcN)
  rw [hset] at hwr
  have hpr:=rI_get (X:=P) (i:=e) (by omega)
  rw [hm] at hpr
  have hfb:=hf c hcN
  have hwm : IntKind.i64.wrap (f c - m) = f c - m:=IntWalk.i64_in _ (by omega)
  have hcel:=dI_cells (H0:=Hx) (b:=b) (X:=mapI (lessF f m (W.take k)) N)
  have hq':=fun X => hsub X q hqb _ hq
  have hP':=fun X => hsub X bp hbp _ hP
  have q1':=fun X => hsub X b0 hb0 _ q1
  clear hset hfc hf
  generalize f c = fc at *
  subst hv hpv
  simp (disch:=omega) [-getElem?_pos,if_pos,if_neg,decide_eq_true,decide_eq_false,ir_dual_Prices_l0,e6,e7,e11,e75,e76,e77,hkn,q1',q3,hq',hP',hcel,hrd,hpr,hcN,hcN',he,hen',hwm,hwr,IntWalk.i64_in]
  exact ⟨by simp [e6],by simp [e7],by simp [e11],by simp [e75],by simp [e76],by simp,rfl⟩
 ·obtain rfl : k = W.length:=by omega
  simp (disch:=omega) [-getElem?_pos,if_pos,if_neg,decide_eq_true,decide_eq_false,ir_dual_Prices_l0,e76,e77]
  exact ⟨rfl,by simp⟩
/-! ### one missing element after another -/
theorem pr_next {L : List SetD} {P : List Int} {n e : Nat} {m : Int} (hD : DOk n L) (hok : PrOk L n P) (he : e < n) (hz : P.getD e 0 = 0) : mapI (lessF (lfN L P) m (selK (hB L e) L.length)) L.length = mapI (lfN L (P.set e m)) L.length:=by
 refine mapI_congr fun j hj => ?_
 unfold lessF
 rw [lfN_eq hj,lfN_eq hj,pr_left hD hok he hz (List.getElem_mem hj)]
 have : ((j : Int) ∈ selK (hB L e) L.length) ↔ hasE L[j] e = true:=by
  rw [selK_mem]
  constructor
  ·rintro ⟨i,hi,_,h⟩
   obtain rfl : j = i:=by omega
   rw [hB_eq hj] at h; exact h
  ·intro h; exact ⟨j,rfl,hj,by rw [hB_eq hj]; exact h⟩
 by_cases hc : hasE L[j] e = true
 ·rw [if_pos (this.2 hc),if_pos hc]
 ·rw [if_neg (fun h => hc (this.1 h)),if_neg hc]
structure PmH (H1 H' : AH) (bp bl : Nat) (L : List SetD) (P : List Int) : Prop where
 wf : WF H'
 keep : Keep [bp,bl] H1 H'
 p : H'.blk bp = some (.row (rI P) T_int64 true)
 l : H'.blk bl = some (.row (rI (mapI (lfN L P) L.length)) T_int64 true)
def PmI (H1 : AH) (bp bl q n : Nat) (lv iv : Value) (L : List SetD) (I : List Nat) (k : Nat) (env : Env) (H' : AH) : Prop :=
 env 1 = some lv ∧ env 6 = some (.slice (some ⟨bp,0,none⟩) n n) ∧ env 7 = some (.pointer (some ⟨q,0,none⟩)) ∧ env 42 = some iv ∧ env 43 = some (.int .i64 I.length) ∧ env 44 = some (.int .i64 k) ∧ ∃ P,PmH H1 H' bp bl L P ∧ prL L n (I.take k) = some P
def PmQ (H1 : AH) (bp bl n : Nat) (L : List SetD) (I : List Nat) (x : AExit) (env : Env) (H' : AH) : Prop :=
 (x = .exit 2 ∧ env 6 = some (.slice (some ⟨bp,0,none⟩) n n) ∧ ∃ P,PmH H1 H' bp bl L P ∧ prL L n I = some P) ∨
 (x = .ret ∧ env 4 = some (.slice none 0 0) ∧ env 5 = some (.bool false) ∧ (∃ P,PmH H1 H' bp bl L P) ∧ prL L n I = none)
theorem prices_l2 {H1 : AH} {bp bl q n : Nat} {lv iv : Value} {L : List SetD} {I : List Nat} (hw : WF H1) (hbp : bp < H1.next) (hbl : bl < H1.next) (hne : bp ≠ bl) (hqp : q ≠ bp) (hql : q ≠ bl) (hq : H1.cells q = some [.slice (some ⟨bl,0,none⟩) L.length L.length]) (hL : SlV (fun c => c ≠ bp ∧ c ≠ bl) H1 lv L) (hI : SlV (fun c => c ≠ bp ∧ c ≠ bl) H1 iv (I.map fun (i : Nat) => (i : Int))) (hIn : I.Nodup) (hIk : I.length ≤ 1000) (hIl : ∀ e ∈ I,e < n) (hn : n ≤ 12) (hD : DOk n L) (hl : L.length ≤ 30) (hel : ∀ s ∈ L,s.elems.length ≤ 30) {env : Env} (h : PmI H1 bp bl q n lv iv L I 0 env H1) :
  wpC Tryd.prog 94 (.loop ir_dual_Prices_l2) (PmQ H1 bp bl n L I) env H1:=by
 refine loop_upto I.length (PmI H1 bp bl q n lv iv L I) (Q:=PmQ H1 bp bl n L I) h ?_
 rintro k env H' hk ⟨e1,e6,e7,e42,e43,e44,P,hH,hpr⟩
 obtain ⟨w',k',hp,hlb⟩:=id hH
 have hn':=k'.next
 have hsub : ∀ {v : Value} {α : Type} [Ren α] {l : List α},SlV (fun c => c ≠ bp ∧ c ≠ bl) H1 v l → SlV (fun c => c ≠ bp ∧ c ≠ bl) H' v l:=fun h => h.sub (.keep hw k' fun b hb hc => by simp at hb; omega)
 by_cases hkn : k < I.length
 ·have hL':=hsub hL
  have hI':=hsub hI
  obtain ⟨b0,off,sp,cap,cs,hv,q1,q2⟩:=ints_rd hI' (by simp; omega)
  obtain ⟨q3,_⟩:=q2 k (by simpa using hkn)
  simp only [List.getElem_map] at q3
  have hmem : I[k] ∈ I:=List.getElem_mem hkn
  have he:=hIl _ hmem
  have htk : I.take (k + 1) = I.take k ++ [I[k]]:=List.take_succ_eq_append_getElem hkn
  have hno : I[k] ∉ I.take k:=fun hm2 => by
   obtain ⟨i,hi,hie⟩:=List.getElem_of_mem hm2
   rw [List.length_take] at hi
   rw [List.getElem_take] at hie
   exact (List.pairwise_iff_getElem.1 hIn) i k (by omega) hkn (by omega) hie
  obtain ⟨hok,hz⟩:=prL_ok hD (I.take k) (hIn.sublist (List.take_sublist _ _)) (fun x hx => hIl x (List.mem_of_mem_take hx)) P hpr
  have hz0:=hz _ hno
  have hps:=prL_snoc (L:=L) (n:=n) (e:=I[k]) (l:=I.take k)
  rw [← htk,hpr] at hps
  have hlast : prL L n (I.take (k + 1)) = none → prL L n I = none:=fun hh => by
   have:=prL_none (m:=I.drop (k + 1)) hh
   rwa [List.take_append_drop] at this
  generalize I[k] = e at *
  simp only [List.length_map] at hv
  obtain ⟨la,lc,hlv⟩:=hL'.slice
  rw [hlv] at e1
  rw [hv] at e42
  simp (disch:=omega) [-getElem?_pos,if_pos,if_neg,decide_eq_true,decide_eq_false,ir_dual_Prices_l2,e1,e6,e7,e42,e43,e44,hkn,q1,q3]
  refine wpC_use (prices_l1 (H2:=H') (lv:=lv) (e:=e) w' hL' hD hl hel ⟨by simp,by simp [hlv],by simp,by simp,w',.refl,.slice none 0 0,[],by simp,.nil,by simp⟩) ?_
  rintro x env2 H2 ⟨rfl,w2,k2,a,S,f12,hA,hS⟩ hu
  have u1:=hu 1 (by decide)
  have u6:=hu 6 (by decide)
  have u7:=hu 7 (by decide)
  have u11:=hu 11 (by decide)
  have u42:=hu 42 (by decide)
  have u43:=hu 43 (by decide)
  have u44:=hu 44 (by decide)
  simp [e1,e6,e7,e42,e43,e44] at u1 u6 u7 u11 u42 u43 u44
  clear hu
  have n2:=k2.next
  obtain ⟨aa,ac,rfl⟩:=hA.slice
  have hAn:=hA.lt w2
  have hp2:=(k2.blk bp (by omega) (by simp)).trans hp
  have hl2:=(k2.blk bl (by omega) (by simp)).trans hlb
  have k12 : Keep [bp,bl] H1 H2:=k'.trans' (k2.mono (by simp))
  have hc2 : H2.cells q = some [.slice (some ⟨bl,0,none⟩) L.length L.length]:=cells_keep hw k12 (by simp; omega) hq
  by_cases hW0 : (selK (hB L e) L.length).length = 0
  ·have hW:=List.eq_nil_of_length_eq_zero hW0
   have hmn:=minL_nilK (P:=P) hW
   simp (disch:=omega) [-getElem?_pos,if_pos,if_neg,decide_eq_true,decide_eq_false,u1,u6,u7,u11,f12,hW0]
   refine .inr ⟨rfl,by simp,by simp,⟨P,w2,k12,hp2,hl2⟩,hlast ?_⟩
   rw [hps]; simp [prStep,hmn]
  ·have hWin : ∀ a ∈ selK (hB L e) L.length,0 ≤ a ∧ a < L.length:=fun a ha => by obtain ⟨i,rfl,h1,_⟩:=selK_mem.1 ha; omega
   have hWl:=selK_len (hB L e) L.length
   have hWs : SlV (fun c => H'.next ≤ c) H2 (.slice aa (selK (hB L e) L.length).length ac) (selK (hB L e) L.length):=hA.slv (fun _ h => h.elim) (fun c hc => hS c hc) (by omega)
   have hXm : ∀ x ∈ mapI (lfN L P) L.length,I64 x:=fun x hx => by
    obtain ⟨i,hi,rfl⟩:=List.mem_map.1 hx
    have hi:=List.mem_range.1 hi
    rw [lfN_eq hi]
    have h1:=hok.left L[i] (List.getElem_mem hi)
    have h2:=hD.cost L[i] (List.getElem_mem hi)
    have h3:=spent_pos (fun i => (hok.pos i).1) L[i].elems
    unfold I64; omega
   have hX:=slv_rI (H:=H2) (q:=bl) (X:=mapI (lfN L P) L.length) (AH.cells_of hl2) hXm (by rw [mapI_len]; omega)
   rw [mapI_len] at hX
   have hmp:=MinP_spec hWs (by omega) (by omega) hc2 hX (fun a ha => by rw [mapI_len]; exact hWin a ha)
   have hWp:=selK_rise (hB L e) L.length
   simp (disch:=omega) [-getElem?_pos,if_pos,if_neg,decide_eq_true,decide_eq_false,u1,u6,u7,u11,f12,hW0,hc2]
   refine AFnD.from hmp fun u H3 w3 ⟨⟨a,hu,ha,hmin⟩,hH3⟩ => ?_
   subst hH3 hu
   refine ⟨fun _ _ h => h,?_⟩
   obtain ⟨haL0,haL⟩:=hWin a ha
   have haL : a < L.length:=by omega
   have hmn : minL (leftP L P e) = some (lfN L P a):=minL_selK ha fun b hb => by
    have hbL:=(hWin b hb).2
    have:=hmin b hb
    rw [mapI_get haL,Int.toNat_natCast,mapI_get (by omega)] at this
    exact this
   have hmb:=pr_min hD hok hmn
   have hrd:=rI_get (X:=mapI (lfN L P) L.length) (i:=a) (by rw [mapI_len]; exact haL)
   rw [mapI_get haL] at hrd
   have hnx:=pr_next (m:=lfN L P a) hD hok he hz0
   have hpn:=pr_step hD hok he hz0 hmn
   have hfb : ∀ i,i < L.length → -4611686018427387904 ≤ lfN L P i ∧ lfN L P i ≤ 4611686018427387903:=fun i hi => by
    rw [lfN_eq hi]
    have h1:=hok.left L[i] (List.getElem_mem hi)
    have h2:=hD.cost L[i] (List.getElem_mem hi)
    have h3:=spent_pos (fun i => (hok.pos i).1) L[i].elems
    omega
   generalize hm : lfN L P a = m at *
   have hself : H3 = dI H3 bp P:=(AH.set_selfK hp2).symm
   have hwr : writeA H3 bp e [.int .i64 m] = some (dI H3 bp (P.set e m)):=by
    have:=dI_write (H0:=H3) (b:=bp) (i:=e) (X:=P) (a:=m) (by rw [hok.len]; exact he)
    rw [← hself] at this; exact this
   have haL' : (a : Int) < (L.length : Int):=by omega
   have he' : (e : Int) < (n : Int):=by omega
   have cl2:=AH.cells_of hl2
   simp (disch:=omega) [-getElem?_pos,if_pos,if_neg,decide_eq_true,decide_eq_false,u1,u6,u7,u11,f12,hc2,cl2,hrd,haL,haL',he,he',hwr]
   obtain ⟨H4,hH4⟩ : ∃ H4,H4 = dI H3 bp (P.set e m):=⟨_,rfl⟩
   have w4 : WF H4:=by rw [hH4]; exact w2.set (by omega)
   have n4 : H4.next = H3.next:=by rw [hH4]; rfl
   have b4p : H4.blk bp = some (.row (rI (P.set e m)) T_int64 true):=by rw [hH4]; exact AH.set_blk_same
   have b4l : H4.blk bl = some (.row (rI (mapI (lfN L P) L.length)) T_int64 true):=by rw [hH4,AH.set_blk_ne (Ne.symm hne)]; exact hl2
   have k14 : Keep [bp,bl] H1 H4:=k12.trans' (by rw [hH4]; exact .set (by simp))
   have hc4 : H4.cells q = some [.slice (some ⟨bl,0,none⟩) L.length L.length]:=by rw [hH4,AH.cells_set_ne hqp]; exact hc2
   have hself4 : H4 = dI H4 bl (mapI (lessF (lfN L P) m ((selK (hB L e) L.length).take 0)) L.length):=by
    have : mapI (lessF (lfN L P) m ((selK (hB L e) L.length).take 0)) L.length = mapI (lfN L P) L.length:=mapI_congr fun j hj => by simp [lessF]
    rw [this]
    exact (AH.set_selfK b4l).symm
   have hW4 : SlV (fun c => c ≠ bl) H4 (.slice aa (selK (hB L e) L.length).length ac) (selK (hB L e) L.length):=(hWs.sub fun c hc cs hcs => by rw [hH4,AH.cells_set_ne (by omega)]; exact hcs).mono fun c hc => by omega
   have hge : (P.set e m).getD e 0 = m:=by rw [getI_set (by rw [hok.len]; exact he),if_pos rfl]
   rw [← hH4]
   refine wpC_use (prices_l0 (Hx:=H4) (q:=q) (b:=bl) (bp:=bp) (n:=n) (e:=e) (N:=L.length) (f:=lfN L P) (m:=m) (W:=selK (hB L e) L.length) (P:=P.set e m) hc4 hql hne rfl (AH.cells_of b4p) (by rw [List.length_set]; exact hok.len) he hge hW4 hWp hWin (by omega) (by omega) hfb ⟨hmb.1,hmb.2.1⟩ ⟨by simp [u6],by simp [u7],by simp [u11],by simp,by simp,by simp,hself4⟩) ?_
   rintro x env4 H5 ⟨rfl,rfl⟩ hu
   have v1:=hu 1 (by decide)
   have v6:=hu 6 (by decide)
   have v7:=hu 7 (by decide)
   have v42:=hu 42 (by decide)
   have v43:=hu 43 (by decide)
   have v44:=hu 44 (by decide)
   simp [u1,u6,u7,u42,u43,u44] at v1 v6 v7 v42 v43 v44
   clear hu
   rw [hnx]
   have hfin : PmH H1 (dI H4 bl (mapI (lfN L (P.set e m)) L.length)) bp bl L (P.set e m) :=
    ⟨w4.set (by omega),k14.trans' (.set (by simp)),by rw [AH.set_blk_ne hne]; exact b4p,AH.set_blk_same⟩
   generalize dI H4 bl (mapI (lfN L (P.set e m)) L.length) = H6 at *
   simp (disch:=omega) [-getElem?_pos,if_pos,if_neg,decide_eq_true,decide_eq_false,v44,hkn,IntWalk.i64_in]
   exact ⟨by simp [v1,hlv],by simp [v6],by simp [v7],by simp [v42,hv],by simp [v43],by simp,P.set e m,hfin,by rw [hps]; simp [prStep,hmn]⟩
 ·obtain rfl : k = I.length:=by omega
  rw [List.take_length] at hpr
  simp (disch:=omega) [-getElem?_pos,if_pos,if_neg,decide_eq_true,decide_eq_false,ir_dual_Prices_l2,e43,e44]
  exact .inl ⟨rfl,e6,P,hH,hpr⟩
/-! ### the costs -/
def PcI (H1 : AH) (q bl : Nat) (lv : Value) (L : List SetD) (k : Nat) (env : Env) (H' : AH) : Prop :=
 env 7 = some (.pointer (some ⟨q,0,none⟩)) ∧ env 28 = some lv ∧ env 29 = some (.int .i64 L.length) ∧ env 30 = some (.int .i64 k) ∧ WF H' ∧ Keep [bl] H1 H' ∧ H'.blk bl = some (.row (rI (mapI (fun i => if i < k then lfN L [] i else 0) L.length)) T_int64 true)
def PcQ (H1 : AH) (bl : Nat) (L : List SetD) (x : AExit) (env : Env) (H' : AH) : Prop:=x = .exit 0 ∧ WF H' ∧ Keep [bl] H1 H' ∧ H'.blk bl = some (.row (rI (mapI (lfN L []) L.length)) T_int64 true)
theorem spent_none : ∀ E : List Int,spentP [] E = 0
 | [] => rfl
 | a :: E => by rw [spentP_cons,spent_none E]; simp
theorem prices_l3 {H1 : AH} {q bl : Nat} {lv : Value} {L : List SetD} (hw : WF H1) (hbl : bl < H1.next) (hql : q ≠ bl) (hq : H1.cells q = some [.slice (some ⟨bl,0,none⟩) L.length L.length]) (hL : SlV (fun c => c ≠ bl) H1 lv L) (hl : L.length ≤ 30) {env : Env} (h : PcI H1 q bl lv L 0 env H1) :
  wpC Tryd.prog 94 (.loop ir_dual_Prices_l3) (PcQ H1 bl L) env H1:=by
 refine loop_upto L.length (PcI H1 q bl lv L) (Q:=PcQ H1 bl L) h ?_
 rintro k env H' hk ⟨e7,e28,e29,e30,w',k',hb⟩
 have hn':=k'.next
 by_cases hkn : k < L.length
 ·have hL' : SlV (fun c => c ≠ bl) H' lv L:=hL.sub (.keep hw k' fun b hb hc => by simp at hb; exact hc hb)
  obtain ⟨b0,off,sp,cap,cs,rfl,q1,q2⟩:=sets_rd hL' (by omega)
  obtain ⟨xv,q3,q4,q5,q6,q7⟩:=q2 k hkn
  have hx:=q7.cell
  have hlf : lfN L [] k = L[k].cost:=by rw [lfN_eq hkn,spent_none]; omega
  generalize L[k].cost = c0 at *
  obtain ⟨H3,hH3⟩ : ∃ H3,H3 = H'.alloc (.row [.int .i64 c0,xv] T_inst_Set true):=⟨_,rfl⟩
  have k3 : Keep [] H' H3:=by rw [hH3]; exact .alloc
  have w3 : WF H3:=by rw [hH3]; exact w'.alloc
  have n3 : H3.next = H'.next + 1:=by rw [hH3]; rfl
  have c3 : H3.cells H'.next = some [.int .i64 c0,xv]:=by rw [hH3]; exact AH.cells_alloc_new
  have hb3:=(k3.blk bl (by omega) (by simp)).trans hb
  have hc3 : H3.cells q = some [.slice (some ⟨bl,0,none⟩) L.length L.length]:=cells_keep hw (k'.trans' (k3.mono (by simp))) (by simp; omega) hq
  have hself : H3 = dI H3 bl (mapI (fun i => if i < k then lfN L [] i else 0) L.length):=(AH.set_selfK hb3).symm
  have hset : (mapI (fun i => if i < k then lfN L [] i else 0) L.length).set k c0 = mapI (fun i => if i < k + 1 then lfN L [] i else 0) L.length:=by
   refine mapI_set fun j hj => ?_
   by_cases hjk : j = k
   ·subst hjk; rw [if_pos (by omega),if_pos rfl,hlf]
   ·rw [if_neg hjk]
    by_cases hlt : j < k
    ·rw [if_pos (by omega),if_pos hlt]
    ·rw [if_neg (by omega),if_neg hlt]
  have hwr : writeA H3 bl k [.int .i64 c0] = some (dI H3 bl (mapI (fun i => if i < k + 1 then lfN L [] i else 0) L.length)):=by
   have:=dI_write (H0:=H3) (b:=bl) (i:=k) (X:=mapI (fun i => if i < k then lfN L [] i else 0) L.length) (a:=c0) (by rw [mapI_len]; exact hkn)
   rw [← hself,hset] at this; exact this
  have hkn2 : (k : Int) < (L.length : Int):=by omega
  have hcq : H'.cells q = some [.slice (some ⟨bl,0,none⟩) L.length L.length]:=cells_keep hw k' (by simp; omega) hq
  have hqn:=eq_false (Nat.ne_of_lt (cells_lt w' hcq))
  simp (disch:=omega) [-getElem?_pos,if_pos,if_neg,decide_eq_true,decide_eq_false,ir_dual_Prices_l3,e7,e28,e29,e30,hkn,hkn2,hqn,hcq,q1,q3,writeA_row (AH.alloc_blk_new (H:=H')),over,cut2v,hx.1,hx.2]
  rw [← hH3]
  simp (disch:=omega) [-getElem?_pos,if_pos,if_neg,decide_eq_true,decide_eq_false,c3,hc3,hkn,hkn2,hwr,e30,IntWalk.i64_in]
  exact ⟨by simp [e7],by simp [e28],by simp [e29],by simp,w3.set (by omega),k'.trans' ((k3.mono (by simp)).trans' (.set (by simp))),AH.set_blk_same⟩
 ·obtain rfl : k = L.length:=by omega
  simp (disch:=omega) [-getElem?_pos,if_pos,if_neg,decide_eq_true,decide_eq_false,ir_dual_Prices_l3,e29,e30]
  refine ⟨rfl,w',k',?_⟩
  rw [hb]
  congr 3
  exact mapI_congr fun j hj => by rw [if_pos hj]
end Go.Proofs.YtejifalflkbekaaDoor
