/-
  KnapFits.
-/
import Derived.Test.YtllfcbacpoaphaaKgA
import Derived.Test.YtllfcbacpoaphaaBoolB
import Derived.Test.YtllfcbacpoaphaaKn12
import Derived.Test.YtllfcbacpoaphaaWak16
set_option maxRecDepth 100000
set_option linter.unusedSimpArgs false
set_option linter.unusedVariables false
namespace Go.Abs
theorem selG_selK (f : Int × Int → Int) (L : List (Int × Int)) (b : Nat → Bool) : ∀ k,k ≤ L.length → selG f (L.take k) b = ((selK b k).map fun a => f (itm L a)).sum
 | 0,_ => by simp [selG,selK]
 | k + 1,h => by
  rw [selG_take f L b k h,selG_selK f L b k (by omega),selK_succ,← itm_get h]
  split <;> simp
theorem gr_perm {L : List (Int × Int)} {room : Int} (h : ItOk L room) : (selK (grB L room) L.length).Perm (grK L (ordW L) room):=by
 have hsub:=grK_sub L (ordW L) room
 refine perm_of_nodup ((selK_rise _ _).imp fun h => by omega) (hsub.nodup (ordW_nodup h.wt)) fun a => ?_
 rw [selK_mem]
 constructor
 ·rintro ⟨i,rfl,_,h⟩
  exact of_decide_eq_true h
 ·intro ha
  have:=(ordW_mem h.wt).1 (hsub.subset ha)
  exact ⟨a.toNat,by omega,by omega,decide_eq_true (by rw [show ((a.toNat : Nat) : Int) = a by omega]; exact ha)⟩
structure GrFits (L : List (Int × Int)) (room : Int) (M : List Int) : Prop where
 w : sW L M ≤ room
 v : sV L M ≤ (relL L room).1
 no : ∀ k,k < L.length → inL M k = false → room < sW L M + (itm L k).2
 mem : ∀ j (h : j < M.length),∃ m : Nat,M[j] = (m : Int) ∧ m < L.length ∧ inL (M.take j) m = false
theorem gr_fits {L : List (Int × Int)} {room : Int} (h : ItOk L room) : GrFits L room (selK (grB L room) L.length):=by
 have hp:=gr_perm h
 obtain ⟨h1,h2⟩:=grK_fits (L:=L) (fun a => (h.itm a).2.1) (ordW L) room h.room.1 (ordW_nodup h.wt)
 have hw : sW L (selK (grB L room) L.length) = sW L (grK L (ordW L) room):=perm_sum (hp.map _)
 have hs:=selK_rise (grB L room) L.length
 refine ⟨by rw [hw]; exact h1,?_,fun k hk hn => ?_,fun j hj => ?_⟩
 ·have e1:=selG_selK (·.1) L (grB L room) L.length (Nat.le_refl _)
  have e2:=selG_selK (·.2) L (grB L room) L.length (Nat.le_refl _)
  rw [List.take_length] at e1 e2
  have:=sel_relax (b:=grB L room) h (by rw [e2]; show sW L _ ≤ room; rw [hw]; exact h1)
  rw [e1] at this
  exact this
 ·rw [hw]
  refine h2 _ ((ordW_mem h.wt).2 (by omega)) fun hm => ?_
  exact of_decide_eq_false hn (hp.mem_iff.2 hm)
 ·obtain ⟨m,hm,hml,_⟩:=selK_mem.1 (List.getElem_mem hj)
  refine ⟨m,hm,hml,decide_eq_false fun hc => ?_⟩
  rw [← hm] at hc
  obtain ⟨i,hi,he⟩:=List.getElem_of_mem hc
  rw [List.length_take] at hi
  rw [List.getElem_take] at he
  have:=(List.pairwise_iff_getElem.1 hs) i j (by omega) hj (by omega)
  omega
theorem sV_bound {L : List (Int × Int)} {room : Int} (h : ItOk L room) : ∀ A : List Int,0 ≤ sV L A ∧ sV L A ≤ (A.length : Int) * 2147483648 ∧ 0 ≤ sW L A ∧ sW L A ≤ (A.length : Int) * 2147483648
 | [] => by simp [sV,sW]
 | a :: A => by
  have:=sV_bound h A
  have:=h.itm a
  rw [sV_cons,sW_cons,List.length_cons]
  omega
theorem sV_take {L : List (Int × Int)} {M : List Int} {j : Nat} (h : j < M.length) : sV L (M.take (j + 1)) = sV L (M.take j) + (itm L M[j]).1 ∧ sW L (M.take (j + 1)) = sW L (M.take j) + (itm L M[j]).2:=by
 rw [List.take_succ_eq_append_getElem h,sV_app,sW_app]
 simp [sV,sW]
end Go.Abs
namespace Go.Proofs.Ytllfcbacpoaphaa
open Go Go.Abs
theorem inL_take {M : List Int} {j m n : Nat} (h : j < M.length) (hm : M[j] = (m : Int)) : (mapB (inL (M.take j)) n).set m true = mapB (inL (M.take (j + 1))) n:=by
 rw [List.take_succ_eq_append_getElem h,hm]
 refine mapB_set fun i hi => ?_
 unfold inL
 by_cases h : i = m
 ·rw [if_pos h,h]; simp
 ·rw [if_neg h]
  have : ¬ (i : Int) = (m : Int):=by omega
  simp [this]
def FiI (H1 : AH) (b n : Nat) (L : List (Int × Int)) (M : List Int) (v mv : Value) (k : Nat) (env : Env) (H' : AH) : Prop :=
 env 7 = some v ∧ env 12 = some (.slice (some ⟨b,0,none⟩) n n) ∧ env 42 = some mv ∧ env 43 = some (.int .i64 (M.length : Nat)) ∧ env 44 = some (.int .i64 k) ∧ env 13 = some (.int .i64 (sV L (M.take k))) ∧ env 14 = some (.int .i64 (sW L (M.take k))) ∧ H' = dB H1 b (mapB (inL (M.take k)) n)
def FiQ (H1 : AH) (b n : Nat) (L : List (Int × Int)) (M : List Int) (v mv : Value) (e : AExit) (env : Env) (H' : AH) : Prop:=e = .exit 0 ∧ FiI H1 b n L M v mv M.length env H'
theorem fits_l1 {H1 : AH} {b n : Nat} {L : List (Int × Int)} {M : List Int} {room : Int} {v mv : Value} (hL : SlV (fun c => c ≠ b) H1 v L) (hO : SlV (fun c => c ≠ b) H1 mv M) (hok : ItOk L room) (hg : GrFits L room M) (hn : n = L.length) (hl : M.length ≤ 1000) {H : AH} {env : Env} (h : FiI H1 b n L M v mv 0 env H) :
  wpC Try.prog 117 (.loop ir_law16_KnapFits_l1) (FiQ H1 b n L M v mv) env H:=by
 have hlen:=hok.len
 refine loop_upto M.length (FiI H1 b n L M v mv) (Q:=FiQ H1 b n L M v mv) h ?_
 rintro k env H' hk ⟨e7,e12,e42,e43,e44,e13,e14,rfl⟩
 by_cases hkn : k < M.length
 ·obtain ⟨m,hm,hml,hnew⟩:=hg.mem k hkn
  have hb : ∀ (X : List Bool) c,c ≠ b → ∀ cs,H1.cells c = some cs → (dB H1 b X).cells c = some cs:=fun X c hc cs hcs => by rw [AH.cells_set_ne hc]; exact hcs
  have hce:=fun X => dB_cells (H0:=H1) (b:=b) (X:=X)
  have hwr:=dB_write (H0:=H1) (b:=b) (i:=m) (X:=mapB (inL (M.take k)) n) (a:=true) (by rw [mapB_len]; omega)
  rw [inL_take hkn hm] at hwr
  have hrd:=bB_get (B:=mapB (inL (M.take k)) n) (i:=m) (by rw [mapB_len]; omega)
  rw [mapB_get (by omega),hnew] at hrd
  obtain ⟨hv1,hw1⟩:=sV_take (L:=L) hkn
  obtain ⟨q0,q1',q2',q3'⟩:=sV_bound hok (M.take k)
  have htl : (M.take k).length ≤ 1000:=by rw [List.length_take]; omega
  obtain ⟨b0,off,sp,cap,cs,hcv,q1,q2⟩:=ints_rd hO (by omega)
  obtain ⟨q3,_⟩:=q2 k hkn
  obtain ⟨b1,off1,sp1,cap1,cs1,hcv1,p1,p2⟩:=pairs_rd hL (by omega)
  obtain ⟨_,p3a,p3,p4,p5⟩:=p2 m hml
  have hit : itm L (m : Int) = L[m]:=itm_get hml
  have hval:=hok.val L[m] (List.getElem_mem hml)
  rw [hm] at q3 hv1 hw1
  rw [hit] at hv1 hw1
  have hme : b1 ≠ b:=fun hh => by
   subst hh
   obtain ⟨b2,_,_,_,_,h2,_,_,_,hh,_⟩:=hL.at (by omega)
   rw [hcv1] at h2
   cases h2
   exact hh rfl
  have hmo : b0 ≠ b:=fun hh => by
   subst hh
   obtain ⟨b2,_,_,_,_,h2,_,_,_,hh,_⟩:=hO.at (by omega)
   rw [hcv] at h2
   cases h2
   exact hh rfl
  have p1':=fun B => hb B b1 hme _ p1
  have q1'':=fun B => hb B b0 hmo _ q1
  clear p1 q1 hb
  subst hcv hcv1
  have hml' : (m : Int) < (L.length : Int):=by omega
  have hmn : m < n:=by omega
  have hmn' : (m : Int) < (n : Int):=by omega
  have hx1:=hval.1
  have hx2:=hval.2
  generalize L[m] = x at *
  obtain ⟨x0,x1⟩:=x
  simp only at *
  generalize sV L (M.take k) = s0 at *
  generalize sW L (M.take k) = s1 at *
  have e1 : IntKind.i64.wrap (s0 + x0) = s0 + x0:=IntWalk.i64_in _ (by omega)
  have e2 : IntKind.i64.wrap (s1 + x1) = s1 + x1:=IntWalk.i64_in _ (by omega)
  simp (disch:=omega) [-getElem?_pos,if_pos,if_neg,decide_eq_true,decide_eq_false,ir_law16_KnapFits_l1,e7,e12,e13,e14,e42,e43,e44,hkn,q1'',q3,p1',p3,p3a,hce,hrd,hml,hml',hwr,hmn,hmn',e1,e2,IntWalk.i64_in]
  refine ⟨by simp [e7],by simp [e12],by simp [e42],by simp [e43],by simp,by simp [hv1],by simp [hw1],rfl⟩
 ·obtain rfl : k = M.length:=by omega
  simp (disch:=omega) [-getElem?_pos,if_pos,if_neg,decide_eq_true,decide_eq_false,ir_law16_KnapFits_l1,e43,e44]
  exact ⟨rfl,e7,e12,e42,e43,e44,by simpa using e13,by simpa using e14,by simp⟩
def FjI (H1 : AH) (b n : Nat) (L : List (Int × Int)) (w room : Int) (v : Value) (k : Nat) (env : Env) (H' : AH) : Prop :=
 env 12 = some (.slice (some ⟨b,0,none⟩) n n) ∧ env 14 = some (.int .i64 w) ∧ env 6 = some (.int .i64 room) ∧ env 96 = some v ∧ env 97 = some (.int .i64 (L.length : Nat)) ∧ env 98 = some (.int .i64 k) ∧ WF H' ∧ Keep [] H1 H'
def FjQ (e : AExit) (env : Env) (H' : AH) : Prop:=e = .exit 2
theorem fits_l0 {H1 : AH} {b n : Nat} {L : List (Int × Int)} {M : List Int} {room : Int} {v : Value} (hw : WF H1) (hL : SlV (fun c => c < H1.next) H1 v L) (hok : ItOk L room) (hg : GrFits L room M) (hn : n = L.length) (hl : M.length ≤ 1000) (hc : H1.cells b = some (bB (mapB (inL M) n))) {env : Env} (h : FjI H1 b n L (sW L M) room v 0 env H1) :
  wpC Try.prog 117 (.loop ir_law16_KnapFits_l0) FjQ env H1:=by
 have hlen:=hok.len
 refine loop_upto L.length (FjI H1 b n L (sW L M) room v) (Q:=FjQ) h ?_
 rintro k env H' hk ⟨e12,e14,e6,e96,e97,e98,w',k'⟩
 by_cases hkn : k < L.length
 ·have hL':=hL.kept hw k'
  obtain ⟨b1,off1,sp1,cap1,cs1,hcv1,p1,p2⟩:=pairs_rd hL' (by omega)
  obtain ⟨p3,_,_,p4,p5⟩:=p2 k hkn
  have hc':=cells_kept hw k' hc
  have hne : b ≠ H'.next:=Nat.ne_of_lt (cells_lt w' hc')
  have hc2 : ∀ B,(H'.alloc B).cells b = some (bB (mapB (inL M) n)):=fun B => by rw [AH.cells_alloc_ne hne]; exact hc'
  have hrd:=bB_get (B:=mapB (inL M) n) (i:=k) (by rw [mapB_len]; omega)
  rw [mapB_get (by omega)] at hrd
  have hno:=hg.no k hkn
  have hit : itm L (k : Int) = L[k]:=itm_get hkn
  have hval:=hok.val L[k] (List.getElem_mem hkn)
  obtain ⟨_,_,q2',q3'⟩:=sV_bound hok M
  rw [hit] at hno
  subst hcv1
  have hkn1 : k < n:=by omega
  have hkn2 : (k : Int) < (n : Int):=by omega
  have hx2:=hval.2
  generalize L[k] = x at *
  obtain ⟨x0,x1⟩:=x
  simp only at *
  generalize sW L M = s1 at *
  have e2 : IntKind.i64.wrap (s1 + x1) = s1 + x1:=IntWalk.i64_in _ (by omega)
  cases hb : inL M k with
  | true =>
   rw [hb] at hrd
   simp (disch:=omega) [-getElem?_pos,if_pos,if_neg,decide_eq_true,decide_eq_false,ir_law16_KnapFits_l0,e6,e12,e14,e96,e97,e98,hkn,p1,p3,hc2,hrd,hkn1,hkn2,writeA,over,cut2i,IntWalk.i64_in]
   refine ⟨by simp [e12],by simp [e14],by simp [e6],by simp [e96],by simp [e97],by simp,w'.alloc,k'.trans' .alloc⟩
  | false =>
   have hno':=hno hb
   rw [hb] at hrd
   have hle : (s1 + x1 ≤ room) = False:=eq_false (by omega)
   simp (disch:=omega) [-getElem?_pos,if_pos,if_neg,decide_eq_true,decide_eq_false,ir_law16_KnapFits_l0,e6,e12,e14,e96,e97,e98,hkn,p1,p3,hc2,hrd,hkn1,hkn2,e2,hle,writeA,over,cut2i,IntWalk.i64_in]
   refine ⟨by simp [e12],by simp [e14],by simp [e6],by simp [e96],by simp [e97],by simp,w'.alloc,k'.trans' .alloc⟩
 ·obtain rfl : k = L.length:=by omega
  simp (disch:=omega) [-getElem?_pos,if_pos,if_neg,decide_eq_true,decide_eq_false,ir_law16_KnapFits_l0,e97,e98]
  exact rfl
theorem KnapFits_abs {H : AH} {v : Value} {L : List (Int × Int)} {room : Int} (hL : SlV (fun b => b < H.next) H v L) (hl : L.length * 16 ≤ 140737488351232) : AFn Try.prog F_law16_KnapFits [v,.int .i64 room] H fun u H' => u = .bool true ∧ H' = H:=by
 refine AFn.calm (fun H0 hs => ?_) rfl
 have hn0 : H0.next = H.next:=hs.1
 have hL0:=(hL.same hs).mono (q:=fun b => b < H0.next) fun b hb => by omega
 clear hL
 refine AFn.enter mixed ir_law16_KnapFits_eq (by simp [ir_law16_KnapFits]) fun hw => ?_
 have hcL:=hL0.cell
 simp (disch:=omega) [-getElem?_pos,if_pos,if_neg,decide_eq_true,decide_eq_false,ir_law16_KnapFits,hcL]
 refine (tame_spec hL0 hl).mono' fun u H1 w1 ⟨w,hu,hT,k1⟩ => ?_
 subst hu
 have hcT:=hT.cell
 have n1:=k1.next
 simp (disch:=omega) [-getElem?_pos,if_pos,if_neg,decide_eq_true,decide_eq_false,hcT]
 refine (show AFn _ _ [_,.int .i64 ((30 : Nat) : Int)] _ _ from items_spec (m:=30) (hT.mono fun b hb => hb.2) (by omega)).mono' fun u H2 w2 ⟨a,b,hu,hA,hB,k2⟩ => ?_
 subst hu
 have hcA:=hA.cell
 have hcB:=hB.cell
 have n2:=k2.next
 have hok : ItOk ((tameI L).take 30) (magI room):=tame_ok (by omega)
 have hlN : ((tameI L).take 30).length ≤ 30:=by rw [List.length_take]; omega
 have hm:=mayB_iff.2 hok
 have hbd:=rl_bound hok (by omega)
 have hg:=gr_fits hok
 have hgl:=selK_len (grB ((tameI L).take 30) (magI room)) ((tameI L).take 30).length
 have hgr : grL ((tameI L).take 30) (magI room) = selK (grB ((tameI L).take 30) (magI room)) ((tameI L).take 30).length:=by unfold grL; rw [hm]; rfl
 have hrv : rlV ((tameI L).take 30) (magI room) = .tuple #[.int .i64 (relL ((tameI L).take 30) (magI room)).1,.agg #[.int .i64 (rlP ((tameI L).take 30) (magI room)).1,.int .i64 (rlP ((tameI L).take 30) (magI room)).2],.bool true]:=by
  unfold rlV rlN; rw [hm]; rfl
 have hA2:=hA.mono (q:=fun b => b < H2.next) fun b hb => hb.2
 have hrx:=Relax_spec (room:=magI room) hA2 (by omega)
 rw [hrv] at hrx
 have hgx:=fun (H3 : AH) (h : SlV (fun b => b < H3.next) H3 a ((tameI L).take 30)) => Greedy_spec (room:=magI room) h (by omega)
 rw [hgr] at hgx
 generalize hM : selK (grB ((tameI L).take 30) (magI room)) ((tameI L).take 30).length = M at *
 clear hM hgr hm
 have hfv:=hg.v
 have hfw:=hg.w
 generalize (rlP ((tameI L).take 30) (magI room)).1 = rp at *
 generalize (rlP ((tameI L).take 30) (magI room)).2 = rq at *
 generalize (tameI L).take 30 = N at *
 generalize magI room = r at *
 simp (disch:=omega) [-getElem?_pos,if_pos,if_neg,decide_eq_true,decide_eq_false,hcA,hcB]
 refine hrx.mono' fun u H3 w3 ⟨hu,k3⟩ => ?_
 subst hu
 have n3:=k3.next
 obtain ⟨va,vc,rfl⟩:=hA.slice
 have hz:=mapB_none N.length
 simp (disch:=omega) [-getElem?_pos,if_pos,if_neg,decide_eq_true,decide_eq_false,hcA,← hz,writeA,over,cut2i]
 obtain ⟨H4,hH4⟩ : ∃ H4,H4 = (H3.alloc (.row [.int .i64 rp,.int .i64 rq] T_ratio_Ratio true)):=⟨_,rfl⟩
 obtain ⟨b5,hb5⟩ : ∃ b5,b5 = H3.next + 1:=⟨_,rfl⟩
 obtain ⟨H5,hH5⟩ : ∃ H5,H5 = H4.alloc (.row (bB (mapB (fun _ => false) N.length)) T_bool true):=⟨_,rfl⟩
 have w4 : WF H4:=by rw [hH4]; exact w3.alloc
 have n4 : H4.next = H3.next + 1:=by rw [hH4]; rfl
 have n5 : H5.next = H3.next + 2:=by rw [hH5]; show H4.next + 1 = _; omega
 have k35 : Keep [] H3 H5:=by rw [hH5,hH4]; exact .trans' .alloc .alloc
 have w5 : WF H5:=by rw [hH5]; exact w4.alloc
 have bk5 : H5.blk b5 = some (.row (bB (mapB (fun _ => false) N.length)) T_bool true):=by rw [hH5,hb5,← n4]; exact AH.alloc_blk_new
 rw [← hH4,← hH5,← hb5]
 have k25:=k3.trans' k35
 have hA5:=(hA2.kept w2 k25).mono (q:=fun b => b < H5.next) fun b hb => by omega
 refine (hgx H5 hA5).mono' fun u H6 w6 ⟨hU,k6⟩ => ?_
 have n6:=k6.next
 have hA6:=hA2.kept w2 (k25.trans' k6)
 obtain ⟨ma,mc,rfl⟩:=hU.slice
 have hcU:=hU.cell
 have bk6:=(k6.blk b5 (by omega) (by simp)).trans bk5
 simp (disch:=omega) [-getElem?_pos,if_pos,if_neg,decide_eq_true,decide_eq_false,]
 refine wpC_use (fits_l1 (H1:=H6) (b:=b5) (n:=N.length) (M:=M) (room:=r) (v:=.slice va N.length vc) (mv:=.slice ma M.length mc) (hA6.mono fun c hc => by omega) (hU.mono fun c hc => by omega) hok hg rfl (by omega) ⟨by simp,by simp,by simp,by simp,by simp,by simp [sV],by simp [sW],?_⟩) ?_
 ·have : inL (M.take 0) = fun _ => false:=by funext i; simp [inL]
  rw [this]
  exact (AH.set_selfK bk6).symm
 rintro e env3 H7 ⟨rfl,f7,f12,f42,f43,f44,f13,f14,rfl⟩ hout
 have f6:=hout 6 (by decide)
 have f9:=hout 9 (by decide)
 have f11:=hout 11 (by decide)
 simp at f6 f9 f11
 clear hout
 rw [List.take_length] at f13 f14 ⊢
 obtain ⟨H7,hH7⟩ : ∃ H7,H7 = dB H6 b5 (mapB (inL M) N.length):=⟨_,rfl⟩
 have w7 : WF H7:=by rw [hH7]; exact w6.set (by omega)
 have c7 : H7.cells b5 = some (bB (mapB (inL M) N.length)):=by rw [hH7]; exact dB_cells
 have n7 : H7.next = H6.next:=by rw [hH7]; rfl
 have hA7 : SlV (fun c => c < H7.next) H7 (.slice va N.length vc) N:=(hA6.sub fun c hc cs hcs => by rw [hH7,AH.cells_set_ne (by omega)]; exact hcs).mono fun c hc => by omega
 rw [← hH7]
 obtain ⟨s0,s0',s1,s1'⟩:=sV_bound hok M
 have l1 : (sW N M ≤ r) = True:=eq_true hfw
 have l2 : (sV N M ≤ (relL N r).1) = True:=eq_true hfv
 have l3 : (r < sW N M) = False:=eq_false (by omega)
 have l4 : ((relL N r).1 < sV N M) = False:=eq_false (by omega)
 simp (disch:=omega) [-getElem?_pos,if_pos,if_neg,decide_eq_true,decide_eq_false,f6,f7,f9,f11,f13,f14]
 refine AFn.pure wakes16_spec ?_
 simp (disch:=omega) [-getElem?_pos,if_pos,if_neg,decide_eq_true,decide_eq_false,f6,f7,f9,f11,f13,f14,l1,l2,l3,l4]
 refine wpC_use (fits_l0 (H1:=H7) (b:=b5) (n:=N.length) (M:=M) (room:=r) (v:=.slice va N.length vc) w7 hA7 hok hg rfl (by omega) c7 ⟨by simp [f12],by simp [f14],by simp [f6],by simp,by simp,by simp,w7,.refl⟩) ?_
 rintro e env4 H8 rfl _
 simp (disch:=omega) [-getElem?_pos,if_pos,if_neg,decide_eq_true,decide_eq_false,]
end Go.Proofs.Ytllfcbacpoaphaa
