/-
  Layer 16, the document's: what may be; which one comes ahead; the order.
-/
import Derived.Test.YtllfcbacpoaphaaKn13
set_option maxRecDepth 100000
set_option linter.unusedSimpArgs false
set_option linter.unusedVariables false
namespace Go.Abs
theorem allG_take {L : List (Int × Int)} {k : Nat} (h : k < L.length) : allG (L.take (k + 1)) = (allG (L.take k) && goodI L[k]):=by
 unfold allG
 rw [List.take_succ_eq_append_getElem h,List.all_append]
 simp
def ordU (S : List Int) (i : Nat) : List Int:=S.map fun (s : Int) => if s < (i : Int) then s else 0
theorem ordU_len {S : List Int} {i : Nat} : (ordU S i).length = S.length:=by simp [ordU]
theorem ordU_set {S : List Int} {i at' : Nat} (hn : S.Nodup) (ha : at' < S.length) (he : S[at'] = (i : Int)) : (ordU S i).set at' (i : Int) = ordU S (i + 1):=by
 apply List.ext_getElem
 ·simp [ordU]
 ·intro j h1 h2
  have hj : j < S.length:=by simpa [ordU] using h2
  rw [List.getElem_set]
  simp only [ordU,List.getElem_map]
  by_cases hjj : at' = j
  ·subst hjj
   rw [if_pos rfl,he,if_pos (by omega)]
  ·rw [if_neg hjj]
   have hne : S[j] ≠ (i : Int):=fun h => hjj ((List.getElem_inj hn).1 (he.trans h.symm))
   by_cases g : S[j] < (i : Int)
   ·rw [if_pos g,if_pos (by omega)]
   ·rw [if_neg g,if_neg (by omega)]
theorem ordU_all {S : List Int} {n : Nat} (h : ∀ s ∈ S,0 ≤ s ∧ s < n) : ordU S n = S:=by
 unfold ordU
 conv => rhs; rw [← List.map_id S]
 apply List.map_congr_left
 intro s hs
 rw [if_pos (h s hs).2]; rfl
def cntA (L : List (Int × Int)) (i k : Nat) : Nat:=((iota k).filter fun a => ahB L a i).length
theorem iota_succ (k : Nat) : iota (k + 1) = iota k ++ [(k : Int)]:=by unfold iota; rw [List.range_succ,List.map_append]; rfl
theorem cntA_succ (L : List (Int × Int)) (i k : Nat) : cntA L i (k + 1) = cntA L i k + (if ahB L k i then 1 else 0):=by
 unfold cntA
 rw [iota_succ,List.filter_append,List.length_append]
 congr 1
 simp only [List.filter_cons,List.filter_nil]
 split <;> rfl
theorem cntA_le (L : List (Int × Int)) (i k : Nat) : cntA L i k ≤ k:=by
 unfold cntA
 exact Nat.le_trans (List.length_filter_le _ _) (by rw [iota_len]; exact Nat.le_refl _)
theorem cntA_place {L : List (Int × Int)} (hL : ∀ x ∈ L,0 ≤ x.2) {i : Nat} (hi : i < L.length) : ∃ h : cntA L i L.length < (ordW L).length,(ordW L)[cntA L i L.length] = (i : Int):=by
 have hm : (i : Int) ∈ ordW L:=(ordW_mem hL).2 ⟨by omega,by omega⟩
 obtain ⟨j,hj,he⟩:=List.mem_iff_getElem.1 hm
 have hp:=srt_place (ahB_ord hL) (ordW_srt hL) (ordW_nodup hL) j hj
 have hc : cntA L i L.length = j:=by
  unfold cntA
  rw [he] at hp
  rw [← hp]
  exact ((ordW_perm hL).symm.filter _).length_eq
 refine ⟨by omega,?_⟩
 simp only [hc]
 exact he
end Go.Abs
namespace Go.Proofs.Ytllfcbacpoaphaa
open Go Go.Abs
def MyI (H : AH) (v : Value) (i : Nat) (b0 : Bool) (x : Int × Int) (k : Nat) (env : Env) (H' : AH) : Prop :=
 H' = H ∧ env 0 = some v ∧ env 6 = some (.int .i64 i) ∧ env 7 = some (.int .i64 k) ∧ env 5 = some (.bool (b0 && (decide (k < 1) || inM x.1) && (decide (k < 2) || inM x.2)))
theorem may_l0 {p : Nat → Prop} {H H1 : AH} {v : Value} {L : List (Int × Int)} {i : Nat} {b0 : Bool} (hL : SlV p H v L) (hi : i < L.length) {env : Env} (h : MyI H v i b0 L[i] 0 env H1) :
  wpC Try.prog 49 (.loop ir_ref16_may_l0) (fun e env' H' => e = .exit 2 ∧ MyI H v i b0 L[i] 2 env' H') env H1:=by
 refine loop_upto 2 (MyI H v i b0 L[i]) (Q:=fun e env' H' => e = .exit 2 ∧ MyI H v i b0 L[i] 2 env' H') h ?_
 rintro k env H' hk ⟨rfl,e0,e6,e7,e5⟩
 obtain ⟨b0',off,sp,cap,cs,hcv,q1,q2⟩:=pairs_rd hL (by omega)
 obtain ⟨g1,g2,g3,g4,g5⟩:=q2 i hi
 have hii : (i : Int) < (L.length : Int):=by omega
 have hk3 : k = 0 ∨ k = 1 ∨ k = 2:=by omega
 have hin0 : ∀ z : Int,inM z = (decide (0 ≤ z) && decide (z ≤ 2147483648)):=fun z => by unfold inM; rw [Bool.decide_and]
 subst hcv
 generalize L[i] = x at *
 obtain ⟨x0,x1⟩:=x
 simp only at g1 g2 g3 e5
 rcases hk3 with rfl | rfl | rfl
 ·have e5' : env 5 = some (.bool b0):=by rw [e5]; simp
  cases b0 with
  | false =>
   simp (disch:=omega) [-getElem?_pos,if_pos,if_neg,decide_eq_true,decide_eq_false,ir_ref16_may_l0,e0,e5',e6,e7,IntWalk.i64_in]
   exact ⟨rfl,by simp [e0],by simp [e6],by simp,by simp⟩
  | true =>
   by_cases h1 : 0 ≤ x0
   ·by_cases h2 : x0 ≤ 2147483648
    ·simp (disch:=omega) [-getElem?_pos,if_pos,if_neg,decide_eq_true,decide_eq_false,ir_ref16_may_l0,e0,e5',e6,e7,hi,hii,q1,g2,h1,h2,IntWalk.i64_in]
     exact ⟨rfl,by simp [e0],by simp [e6],by simp,by simp [hin0,h1,h2]⟩
    ·simp (disch:=omega) [-getElem?_pos,if_pos,if_neg,decide_eq_true,decide_eq_false,ir_ref16_may_l0,e0,e5',e6,e7,hi,hii,q1,g2,h1,h2,IntWalk.i64_in]
     exact ⟨rfl,by simp [e0],by simp [e6],by simp,by simp [hin0,h1,h2]⟩
   ·simp (disch:=omega) [-getElem?_pos,if_pos,if_neg,decide_eq_true,decide_eq_false,ir_ref16_may_l0,e0,e5',e6,e7,hi,hii,q1,g2,h1,IntWalk.i64_in]
    exact ⟨rfl,by simp [e0],by simp [e6],by simp,by simp [hin0,h1]⟩
 ·have e5' : env 5 = some (.bool (b0 && inM x0)):=by rw [e5]; simp
  generalize hbb : (b0 && inM x0) = bb at *
  cases bb with
  | false =>
   simp (disch:=omega) [-getElem?_pos,if_pos,if_neg,decide_eq_true,decide_eq_false,ir_ref16_may_l0,e0,e5',e6,e7,IntWalk.i64_in]
   exact ⟨rfl,by simp [e0],by simp [e6],by simp,by rw [Bool.and_eq_false_iff] at hbb; rcases hbb with h | h <;> simp [h]⟩
  | true =>
   by_cases h1 : 0 ≤ x1
   ·by_cases h2 : x1 ≤ 2147483648
    ·simp (disch:=omega) [-getElem?_pos,if_pos,if_neg,decide_eq_true,decide_eq_false,ir_ref16_may_l0,e0,e5',e6,e7,hi,hii,q1,g3,h1,h2,IntWalk.i64_in]
     exact ⟨rfl,by simp [e0],by simp [e6],by simp,by rw [Bool.and_eq_true] at hbb; rw [hbb.1,hbb.2]; simp [hin0,h1,h2]⟩
    ·simp (disch:=omega) [-getElem?_pos,if_pos,if_neg,decide_eq_true,decide_eq_false,ir_ref16_may_l0,e0,e5',e6,e7,hi,hii,q1,g3,h1,h2,IntWalk.i64_in]
     exact ⟨rfl,by simp [e0],by simp [e6],by simp,by rw [Bool.and_eq_true] at hbb; rw [hbb.1,hbb.2]; simp [hin0,h1,h2]⟩
   ·simp (disch:=omega) [-getElem?_pos,if_pos,if_neg,decide_eq_true,decide_eq_false,ir_ref16_may_l0,e0,e5',e6,e7,hi,hii,q1,g3,h1,IntWalk.i64_in]
    exact ⟨rfl,by simp [e0],by simp [e6],by simp,by rw [Bool.and_eq_true] at hbb; rw [hbb.1,hbb.2]; simp [hin0,h1]⟩
 ·simp (disch:=omega) [-getElem?_pos,if_pos,if_neg,decide_eq_true,decide_eq_false,ir_ref16_may_l0,e7]
  exact ⟨rfl,e0,e6,e7,e5⟩
def MyO (H : AH) (v : Value) (L : List (Int × Int)) (c0 : Bool) (k : Nat) (env : Env) (H' : AH) : Prop :=
 H' = H ∧ env 0 = some v ∧ env 6 = some (.int .i64 k) ∧ env 5 = some (.bool (c0 && allG (L.take k)))
theorem mayR_spec {p : Nat → Prop} {H : AH} {v : Value} {L : List (Int × Int)} (hL : SlV p H v L) (room : Int) : AFn Try.prog F_ref16_may [v,.int .i64 room] H fun u H' => u = .bool (mayB L room) ∧ H' = H:=by
 refine AFn.enter mixed ir_ref16_may_eq (by simp [ir_ref16_may]) fun hw => ?_
 have hmb : mayB L room = (decide (L.length ≤ 4096) && inM room && allG L):=rfl
 rw [hmb]
 obtain ⟨c0,hc0⟩ : ∃ c0,c0 = (decide (L.length ≤ 4096) && inM room):=⟨_,rfl⟩
 rw [← hc0]
 have hloop : ∀ env : Env,MyO H v L c0 0 env H → wpC Try.prog 49 (.loop ir_ref16_may_l1) (fun e env' H' => e = .exit 0 ∧ MyO H v L c0 L.length env' H') env H:=by
  intro env h
  refine loop_upto L.length (MyO H v L c0) (Q:=fun e env' H' => e = .exit 0 ∧ MyO H v L c0 L.length env' H') h ?_
  rintro k env H' hk ⟨rfl,e0,e6,e5⟩
  have hmx:=hL.max
  obtain ⟨va,vc,hve⟩:=hL.slice
  by_cases hkn : k < L.length
  ·have ht:=allG_take hkn
   rw [hve] at e0
   simp (disch:=omega) [-getElem?_pos,if_pos,if_neg,decide_eq_true,decide_eq_false,ir_ref16_may_l1,e0,e6,hkn]
   refine wpC_use (may_l0 (H:=H') (v:=v) (b0:=c0 && allG (L.take k)) hL hkn ⟨rfl,by simp [e0,hve],by simp [e6],by simp,by simp [e5]⟩) ?_
   rintro e env2 H2 ⟨rfl,rfl,f0,f6,f7,f5⟩ _
   have hg : (c0 && allG (L.take k) && (decide (2 < 1) || inM L[k].1) && (decide (2 < 2) || inM L[k].2)) = (c0 && allG (L.take (k + 1))):=by
    rw [ht]
    unfold goodI
    simp [Bool.and_assoc]
   rw [hg] at f5
   simp (disch:=omega) [-getElem?_pos,if_pos,if_neg,decide_eq_true,decide_eq_false,f0,f5,f6,IntWalk.i64_in]
   exact ⟨hkn,rfl,by simp [f0],by simp,by simp [f5]⟩
  ·obtain rfl : k = L.length:=by omega
   rw [hve] at e0
   simp (disch:=omega) [-getElem?_pos,if_pos,if_neg,decide_eq_true,decide_eq_false,ir_ref16_may_l1,e0,e6]
   exact ⟨rfl,by simp [e0,hve],by simp [e6],by simp [e5]⟩
 have hin0 : inM room = (decide (0 ≤ room) && decide (room ≤ 2147483648)):=by unfold inM; rw [Bool.decide_and]
 obtain ⟨va,vc,hve⟩:=hL.slice
 have hfin : ∀ (env : Env) (H1 : AH),MyO H v L c0 L.length env H1 → env 5 = some (.bool (c0 && allG L)) ∧ H1 = H:=fun env H1 h => by
  have:=h.2.2.2
  rw [List.take_length] at this
  exact ⟨this,h.1⟩
 generalize hag : allG L = ag at *
 by_cases h0 : L.length ≤ 4096
 ·have h0' : (L.length : Int) ≤ 4096:=by omega
  by_cases h1 : 0 ≤ room
  ·by_cases h2 : room ≤ 2147483648
   ·have hcc : c0 = true:=by rw [hc0,hin0]; simp [h0,h1,h2]
    rw [hve]
    simp (disch:=omega) [-getElem?_pos,if_pos,if_neg,decide_eq_true,decide_eq_false,ir_ref16_may,h0',h1,h2]
    refine wpC_use (hloop _ ⟨rfl,by simp [hve],by simp,by simp [hcc,allG]⟩) ?_
    rintro e env2 H2 ⟨rfl,hm⟩ _
    obtain ⟨g5,rfl⟩:=hfin _ _ hm
    simp (disch:=omega) [-getElem?_pos,if_pos,if_neg,decide_eq_true,decide_eq_false,g5]
   ·have hcc : c0 = false:=by rw [hc0,hin0]; simp [h1,h2]
    rw [hve]
    simp (disch:=omega) [-getElem?_pos,if_pos,if_neg,decide_eq_true,decide_eq_false,ir_ref16_may,h0',h1,h2]
    refine wpC_use (hloop _ ⟨rfl,by simp [hve],by simp,by simp [hcc]⟩) ?_
    rintro e env2 H2 ⟨rfl,hm⟩ _
    obtain ⟨g5,rfl⟩:=hfin _ _ hm
    simp (disch:=omega) [-getElem?_pos,if_pos,if_neg,decide_eq_true,decide_eq_false,g5]
  ·have hcc : c0 = false:=by rw [hc0,hin0]; simp [h1]
   rw [hve]
   simp (disch:=omega) [-getElem?_pos,if_pos,if_neg,decide_eq_true,decide_eq_false,ir_ref16_may,h0',h1]
   refine wpC_use (hloop _ ⟨rfl,by simp [hve],by simp,by simp [hcc]⟩) ?_
   rintro e env2 H2 ⟨rfl,hm⟩ _
   obtain ⟨g5,rfl⟩:=hfin _ _ hm
   simp (disch:=omega) [-getElem?_pos,if_pos,if_neg,decide_eq_true,decide_eq_false,g5]
 ·have h0' : ¬ (L.length : Int) ≤ 4096:=by omega
  have hcc : c0 = false:=by rw [hc0]; simp [h0]
  rw [hve]
  simp (disch:=omega) [-getElem?_pos,if_pos,if_neg,decide_eq_true,decide_eq_false,ir_ref16_may,h0']
  refine wpC_use (hloop _ ⟨rfl,by simp [hve],by simp,by simp [hcc]⟩) ?_
  rintro e env2 H2 ⟨rfl,hm⟩ _
  obtain ⟨g5,rfl⟩:=hfin _ _ hm
  simp (disch:=omega) [-getElem?_pos,if_pos,if_neg,decide_eq_true,decide_eq_false,g5]
theorem ahead_spec {p : Nat → Prop} {H : AH} {v : Value} {L : List (Int × Int)} {room : Int} (hL : SlV p H v L) (hok : ItOk L room) {a b : Nat} (ha : a < L.length) (hb : b < L.length) : AFn Try.prog F_ref16_ahead [v,.int .i64 a,.int .i64 b] H fun u H' => u = .bool (ahB L a b) ∧ H' = H:=by
 refine AFn.calm (fun H0 hs => ?_) rfl
 refine AFn.enter mixed ir_ref16_ahead_eq (by simp [ir_ref16_ahead]) fun hw => ?_
 have hL0:=hL.same hs
 obtain ⟨b0,off,sp,cap,cs,hv,q1,q2⟩:=pairs_rd hL0 (by omega)
 obtain ⟨g1,_⟩:=q2 a ha
 obtain ⟨g2,_⟩:=q2 b hb
 have i1:=itm_get ha
 have i2:=itm_get hb
 have o1:=hok.val L[a] (List.getElem_mem ha)
 have o2:=hok.val L[b] (List.getElem_mem hb)
 have hah : ahB L a b = decide (worthI (itm L a) (itm L b) < 0 ∨ worthI (itm L a) (itm L b) = 0 ∧ (a : Int) < b):=rfl
 rw [hah,i1,i2]
 have hwd : worthI L[a] L[b] = if L[a].2 = 0 then (if L[b].2 = 0 then 0 else -1) else if L[b].2 = 0 then 1 else - sg (L[a].1 * L[b].2 - L[b].1 * L[a].2):=rfl
 have hab : ((a : Int) < (b : Int)) = (a < b):=by simp
 subst hv
 have hbn : ¬ b0 = H0.next:=by have:=cells_lt hw q1; omega
 have hai : (a : Int) < (L.length : Int):=by omega
 have hbi : (b : Int) < (L.length : Int):=by omega
 generalize worthI L[a] L[b] = wz at *
 generalize L[a] = x at *
 generalize L[b] = y at *
 obtain ⟨x0,x1⟩:=x
 obtain ⟨y0,y1⟩:=y
 simp only at g1 g2 o1 o2 hwd
 by_cases hx : x1 = 0
 ·by_cases hy : y1 = 0
  ·rw [if_pos hx,if_pos hy] at hwd
   subst hx hy hwd
   simp (disch:=omega) [-getElem?_pos,if_pos,if_neg,decide_eq_true,decide_eq_false,ir_ref16_ahead,hbn,q1,g1,g2,ha,hb,hai,hbi,writeA,over,cut2i]
  ·rw [if_pos hx,if_neg hy] at hwd
   have hyp : 0 < y1:=by omega
   subst hx hwd
   simp (disch:=omega) [-getElem?_pos,if_pos,if_neg,decide_eq_true,decide_eq_false,ir_ref16_ahead,hbn,q1,g1,g2,ha,hb,hai,hbi,writeA,over,cut2i,hyp]
 ·have hxp : 0 < x1:=by omega
  have hx':=eq_false hx
  by_cases hy : y1 = 0
  ·rw [if_neg hx,if_pos hy] at hwd
   subst hy hwd
   simp (disch:=omega) [-getElem?_pos,if_pos,if_neg,decide_eq_true,decide_eq_false,ir_ref16_ahead,hbn,q1,g1,g2,ha,hb,hai,hbi,writeA,over,cut2i,hx',hxp]
  ·rw [if_neg hx,if_neg hy] at hwd
   have hy':=eq_false hy
   have hyp : 0 < y1:=by omega
   have mb1 : 0 ≤ x0 * y1 ∧ x0 * y1 ≤ 2147483648 * 2147483648:=⟨Int.mul_nonneg o1.1.1 o2.2.1,Int.mul_le_mul o1.1.2 o2.2.2 o2.2.1 (by omega)⟩
   have mb2 : 0 ≤ y0 * x1 ∧ y0 * x1 ≤ 2147483648 * 2147483648:=⟨Int.mul_nonneg o2.1.1 o1.2.1,Int.mul_le_mul o2.1.2 o1.2.2 o1.2.1 (by omega)⟩
   have hs1:=@sg_lt (x0 * y1 - y0 * x1)
   have hs2:=@sg_gt (x0 * y1 - y0 * x1)
   have wr1 : IntKind.i64.wrap (x0 * y1) = x0 * y1:=IntWalk.i64_in _ (by omega)
   have wr2 : IntKind.i64.wrap (y0 * x1) = y0 * x1:=IntWalk.i64_in _ (by omega)
   generalize hpd : x0 * y1 = pp at *
   generalize hqd : y0 * x1 = qq at *
   have hsr : -1 ≤ sg (pp - qq) ∧ sg (pp - qq) ≤ 1:=by unfold sg; (repeat' split) <;> omega
   generalize sg (pp - qq) = sz at *
   by_cases h1 : qq < pp
   ·obtain rfl : wz = -1:=by omega
    have h2 : ¬ pp < qq:=by omega
    simp (disch:=omega) [-getElem?_pos,if_pos,if_neg,decide_eq_true,decide_eq_false,ir_ref16_ahead,hbn,q1,g1,g2,ha,hb,hai,hbi,writeA,over,cut2i,hx',hy',hxp,hyp,hpd,hqd,wr1,wr2,h1,h2]
   ·by_cases h2 : pp < qq
    ·obtain rfl : wz = 1:=by omega
     simp (disch:=omega) [-getElem?_pos,if_pos,if_neg,decide_eq_true,decide_eq_false,ir_ref16_ahead,hbn,q1,g1,g2,ha,hb,hai,hbi,writeA,over,cut2i,hx',hy',hxp,hyp,hpd,hqd,wr1,wr2,h1,h2]
    ·obtain rfl : wz = 0:=by omega
     simp (disch:=omega) [-getElem?_pos,if_pos,if_neg,decide_eq_true,decide_eq_false,ir_ref16_ahead,hbn,q1,g1,g2,ha,hb,hai,hbi,writeA,over,cut2i,hx',hy',hxp,hyp,hpd,hqd,wr1,wr2,h1,h2]
end Go.Proofs.Ytllfcbacpoaphaa
