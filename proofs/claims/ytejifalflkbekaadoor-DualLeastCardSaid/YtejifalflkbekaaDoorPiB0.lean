/-
  Contracts of the library's sort (5): choosePivot, breakPatterns.
-/
import Derived.Test.YtejifalflkbekaaDoorPiA0
import Derived.Test.YtejifalflkbekaaDoorSeq0
set_option maxRecDepth 100000
set_option linter.unusedSimpArgs false
set_option linter.unusedVariables false
namespace Go.Proofs.YtejifalflkbekaaDoor.Ps
open Go Go.Abs
def CntAt (H : AH) (r n : Nat) : Prop:=H.blk r = some (.row [.int .i64 (n : Nat)] T_int true)
theorem DatAt.other {H H' : AH} {v : Value} {L : List Ent} {S : List Nat} {r : Nat} (h : DatAt H v L S) (hw : WF H) (hk : Keep [r] H H') (hr : r ∉ S) : DatAt H' v L S:=⟨h.1.kept hw hk (fun b hb hc => hr (by simp at hc; rw [← hc]; exact hb)),h.2⟩
def Ord2Q (H : AH) (r n p q : Nat) (u : Value) (H' : AH) : Prop:=∃ (p' q' n' : Nat),u = .tuple #[.int .i64 (p' : Nat),.int .i64 (q' : Nat)] ∧ ((p' = p ∧ q' = q) ∨ (p' = q ∧ q' = p)) ∧ n' ≤ n + 1 ∧ CntAt H' r n' ∧ Keep [r] H H'
theorem order2_spec {H : AH} {v0 : Value} {L : List Ent} {S : List Nat} (h : DatAt H v0 L S) {r n p q : Nat} (hc : CntAt H r n) (hn : n < 1000) (hp : p < L.length) (hq : q < L.length) : AFn Tryd.prog F_slices_order2Ordered_int [v0,.int .i64 p,.int .i64 q,.pointer (some ⟨r,0,none⟩)] H (Ord2Q H r n p q):=by
 have hl:=h.2
 refine AFn.enter mixed ir_slices_order2Ordered_int_eq (by simp [ir_slices_order2Ordered_int]) fun hw => ?_
 obtain ⟨bb,off,sp,cap,cs,H1,H2,hv,q1,q2,q3,q4,q5,hD',hk',hw'⟩:=h.two (i:=q) (k:=p) (by omega) (by omega)
 cases hv
 unfold CntAt at hc
 cases hz : (getE L q).lt (getE L p) with
 | true =>
  have ho:=hz
  clear hz
  generalize getE L q = x at *
  generalize getE L p = y at *
  simp (disch:=omega) [-getElem?_pos,if_pos,if_neg,decide_eq_true,decide_eq_false,ir_slices_order2Ordered_int,q1,q2,q3,IntWalk.i64_in,show (q:Int) < (L.length:Int) by omega,show (p:Int) < (L.length:Int) by omega]
  refine AFnD.of (LessI_spec x y) ?_
  simp (disch:=omega) [-getElem?_pos,if_pos,if_neg,decide_eq_true,decide_eq_false,ho,AH.cells_of hc,writeA_row hc,over,IntWalk.i64_in]
  exact ⟨q,p,n + 1,by simp,.inr ⟨rfl,rfl⟩,Nat.le_refl _,by unfold CntAt; rw [AH.set_blk_same]; simp,.set (by simp)⟩
 | false =>
  have ho:=hz
  clear hz
  generalize getE L q = x at *
  generalize getE L p = y at *
  simp (disch:=omega) [-getElem?_pos,if_pos,if_neg,decide_eq_true,decide_eq_false,ir_slices_order2Ordered_int,q1,q2,q3,IntWalk.i64_in,show (q:Int) < (L.length:Int) by omega,show (p:Int) < (L.length:Int) by omega]
  refine AFnD.of (LessI_spec x y) ?_
  simp (disch:=omega) [-getElem?_pos,if_pos,if_neg,decide_eq_true,decide_eq_false,ho]
  exact ⟨p,q,n,by simp,.inl ⟨rfl,rfl⟩,by omega,hc,.refl⟩
def MedQ (H : AH) (r n : Nat) (l : List Nat) (u : Value) (H' : AH) : Prop:=∃ (m n' : Nat),u = .int .i64 (m : Nat) ∧ m ∈ l ∧ n' ≤ n + 3 ∧ CntAt H' r n' ∧ Keep [r] H H'
theorem median_spec {H : AH} {v0 : Value} {L : List Ent} {S : List Nat} (h : DatAt H v0 L S) {r n p q s : Nat} (hr : r ∉ S) (hc : CntAt H r n) (hn : n < 900) (hp : p < L.length) (hq : q < L.length) (hs : s < L.length) : AFn Tryd.prog F_slices_medianOrdered_int [v0,.int .i64 p,.int .i64 q,.int .i64 s,.pointer (some ⟨r,0,none⟩)] H (MedQ H r n [p,q,s]):=by
 refine AFn.enter mixed ir_slices_medianOrdered_int_eq (by simp [ir_slices_medianOrdered_int]) fun hw => ?_
 simp (disch:=omega) [-getElem?_pos,if_pos,if_neg,decide_eq_true,decide_eq_false,ir_slices_medianOrdered_int]
 refine (order2_spec h hc (by omega) hp hq).mono' fun u H2 w2 ⟨p1,q1,n1,hu,hpq,hn1,hc1,hk1⟩ => ?_
 subst hu
 have h2:=h.other hw hk1 hr
 simp (disch:=omega) [-getElem?_pos,if_pos,if_neg,decide_eq_true,decide_eq_false,]
 refine (order2_spec (p:=q1) (q:=s) h2 hc1 (by omega) (by omega) hs).mono' fun u H3 w3 ⟨p2,q2,n2,hu,hpq2,hn2,hc2,hk2⟩ => ?_
 subst hu
 have h3:=h2.other w2 hk2 hr
 simp (disch:=omega) [-getElem?_pos,if_pos,if_neg,decide_eq_true,decide_eq_false,]
 refine (order2_spec (p:=p1) (q:=p2) h3 hc2 (by omega) (by omega) (by omega)).mono' fun u H4 w4 ⟨p3,q3,n3,hu,hpq3,hn3,hc3,hk3⟩ => ?_
 subst hu
 simp (disch:=omega) [-getElem?_pos,if_pos,if_neg,decide_eq_true,decide_eq_false,]
 exact ⟨q3,n3,by simp,by simp; omega,by omega,hc3,(hk1.trans' hk2).trans' hk3⟩
theorem medianAdj_spec {H : AH} {v0 : Value} {L : List Ent} {S : List Nat} (h : DatAt H v0 L S) {r n p : Nat} (hr : r ∉ S) (hc : CntAt H r n) (hn : n < 900) (hp0 : 0 < p) (hp : p + 1 < L.length) : AFn Tryd.prog F_slices_medianAdjacentOrdered_int [v0,.int .i64 p,.pointer (some ⟨r,0,none⟩)] H (MedQ H r n [p - 1,p,p + 1]):=by
 have hl:=h.2
 refine AFn.enter mixed ir_slices_medianAdjacentOrdered_int_eq (by simp [ir_slices_medianAdjacentOrdered_int]) fun hw => ?_
 obtain ⟨p1,hp1⟩ : ∃ p1,p1 = p - 1:=⟨_,rfl⟩
 obtain ⟨p2,hp2⟩ : ∃ p2,p2 = p + 1:=⟨_,rfl⟩
 have e1 : (p : Int) - 1 = (p1 : Int):=by omega
 have e2 : (p : Int) + 1 = (p2 : Int):=by omega
 rw [← hp1,← hp2]
 simp (disch:=omega) [-getElem?_pos,if_pos,if_neg,decide_eq_true,decide_eq_false,ir_slices_medianAdjacentOrdered_int,e1,e2,IntWalk.i64_in]
 refine (median_spec (p:=p1) (q:=p) (s:=p2) h hr hc hn (by omega) (by omega) (by omega)).mono' fun u H2 w2 ⟨m,n1,hu,hm,hn1,hc1,hk1⟩ => ?_
 subst hu
 simp (disch:=omega) [-getElem?_pos,if_pos,if_neg,decide_eq_true,decide_eq_false,]
 exact ⟨m,n1,rfl,hm,hn1,hc1,hk1⟩
def PivQ (H : AH) (a b : Nat) (u : Value) (H' : AH) : Prop:=∃ (m : Nat) (hint : Int),u = .tuple #[.int .i64 (m : Nat),.int .i64 hint] ∧ a ≤ m ∧ m < b ∧ Keep [] H H'
theorem choosePivot_spec {H : AH} {v0 : Value} {L : List Ent} {S : List Nat} (h : DatAt H v0 L S) {a b : Nat} (hab : a + 12 < b) (hb : b ≤ L.length) : AFn Tryd.prog F_slices_choosePivotOrdered_int [v0,.int .i64 a,.int .i64 b] H (PivQ H a b):=by
 have hl:=h.2
 refine AFn.enter mixed ir_slices_choosePivotOrdered_int_eq (by simp [ir_slices_choosePivotOrdered_int]) fun hw => ?_
 have hSn:=h.1.lt hw
 have hk1 : Keep [] H (H.alloc (.row [.int .i64 0] T_int true)):=.alloc
 have h1 : DatAt (H.alloc (.row [.int .i64 0] T_int true)) v0 L S:=⟨h.1.kept hw hk1 (by simp),h.2⟩
 have hc1 : CntAt (H.alloc (.row [.int .i64 0] T_int true)) H.next 0:=by unfold CntAt; simp
 have w1 : WF (H.alloc (.row [.int .i64 0] T_int true)):=hw.alloc
 have hr : H.next ∉ S:=fun hc => by have:=hSn _ hc; omega
 obtain ⟨l,hl2⟩ : ∃ l,l = b - a:=⟨_,rfl⟩
 have e0 : (b : Int) - (a : Int) = (l : Int):=by omega
 obtain ⟨l4,hl4⟩ : ∃ l4,l4 = l / 4:=⟨_,rfl⟩
 have t1 : (l : Int).tdiv 4 = (l4 : Int):=by rw [Int.tdiv_eq_ediv_of_nonneg (by omega),hl4]; norm_cast
 obtain ⟨i,hi⟩ : ∃ i,i = a + l4:=⟨_,rfl⟩
 obtain ⟨j,hj⟩ : ∃ j,j = a + l4 * 2:=⟨_,rfl⟩
 obtain ⟨k,hk⟩ : ∃ k,k = a + l4 * 3:=⟨_,rfl⟩
 have ei : (a : Int) + (l4 : Int) = (i : Int):=by omega
 have ej : (a : Int) + (l4 : Int) * 2 = (j : Int):=by omega
 have ek : (a : Int) + (l4 : Int) * 3 = (k : Int):=by omega
 have hb1 : a < i ∧ i + 1 < b ∧ a < j ∧ j + 1 < b ∧ a < k ∧ k + 1 < b ∧ l4 < 1000000:=by omega
 clear hi hj hk hl4
 by_cases h50 : 50 ≤ l
 ·simp (disch:=omega) [-getElem?_pos,if_pos,if_neg,decide_eq_true,decide_eq_false,ir_slices_choosePivotOrdered_int,e0,t1,ei,ej,ek,IntWalk.i64_in,show (8:Int) ≤ (l:Int) by omega,show (50:Int) ≤ (l:Int) by omega]
  generalize H.alloc (.row [.int .i64 0] T_int true) = H1 at *
  refine (medianAdj_spec h1 hr hc1 (by omega) (show 0 < i by omega) (by omega)).mono' fun u H2 w2 ⟨i2,n2,hu,hm2,hn2,hc2,hk2⟩ => ?_
  subst hu
  have h2:=h1.other w1 hk2 hr
  simp (disch:=omega) [-getElem?_pos,if_pos,if_neg,decide_eq_true,decide_eq_false,]
  refine (medianAdj_spec h2 hr hc2 (by omega) (show 0 < j by omega) (by omega)).mono' fun u H3 w3 ⟨j2,n3,hu,hm3,hn3,hc3,hk3⟩ => ?_
  subst hu
  have h3:=h2.other w2 hk3 hr
  simp (disch:=omega) [-getElem?_pos,if_pos,if_neg,decide_eq_true,decide_eq_false,]
  refine (medianAdj_spec h3 hr hc3 (by omega) (show 0 < k by omega) (by omega)).mono' fun u H4 w4 ⟨k2,n4,hu,hm4,hn4,hc4,hk4⟩ => ?_
  subst hu
  have h4:=h3.other w3 hk4 hr
  simp at hm2 hm3 hm4
  simp (disch:=omega) [-getElem?_pos,if_pos,if_neg,decide_eq_true,decide_eq_false,]
  refine (median_spec (p:=i2) (q:=j2) (s:=k2) h4 hr hc4 (by omega) (by omega) (by omega) (by omega)).mono' fun u H5 w5 ⟨m,n5,hu,hm5,hn5,hc5,hk5⟩ => ?_
  subst hu
  simp at hm5
  have hkk : Keep [] H H5:=((((hk1.trans hk2 (fun b hb hlt => by simp at hb; omega)).trans hk3 (fun b hb hlt => by simp at hb; omega)).trans hk4 (fun b hb hlt => by simp at hb; omega)).trans hk5 (fun b hb hlt => by simp at hb; omega))
  unfold CntAt at hc5
  by_cases hz : n5 = 0
  ·simp (disch:=omega) [-getElem?_pos,if_pos,if_neg,decide_eq_true,decide_eq_false,AH.cells_of hc5,hz]
   exact ⟨m,1,by simp,by omega,by omega,hkk⟩
  ·by_cases h12 : n5 = 12
   ·simp (disch:=omega) [-getElem?_pos,if_pos,if_neg,decide_eq_true,decide_eq_false,AH.cells_of hc5,h12]
    exact ⟨m,2,by simp,by omega,by omega,hkk⟩
   ·simp (disch:=omega) [-getElem?_pos,if_pos,if_neg,decide_eq_true,decide_eq_false,AH.cells_of hc5,hz,h12,show ¬ ((n5:Int) = 0) by omega,show ¬ ((n5:Int) = 12) by omega]
    exact ⟨m,0,by simp,by omega,by omega,hkk⟩
 ·simp (disch:=omega) [-getElem?_pos,if_pos,if_neg,decide_eq_true,decide_eq_false,ir_slices_choosePivotOrdered_int,e0,t1,ei,ej,ek,IntWalk.i64_in,show (8:Int) ≤ (l:Int) by omega,show ¬ (50:Int) ≤ (l:Int) by omega]
  generalize H.alloc (.row [.int .i64 0] T_int true) = H1 at *
  refine (median_spec (p:=i) (q:=j) (s:=k) h1 hr hc1 (by omega) (by omega) (by omega) (by omega)).mono' fun u H5 w5 ⟨m,n5,hu,hm5,hn5,hc5,hk5⟩ => ?_
  subst hu
  simp at hm5
  have hkk : Keep [] H H5:=hk1.trans hk5 (fun b hb hlt => by simp at hb; omega)
  unfold CntAt at hc5
  by_cases hz : n5 = 0
  ·simp (disch:=omega) [-getElem?_pos,if_pos,if_neg,decide_eq_true,decide_eq_false,AH.cells_of hc5,hz]
   exact ⟨m,1,by simp,by omega,by omega,hkk⟩
  ·simp (disch:=omega) [-getElem?_pos,if_pos,if_neg,decide_eq_true,decide_eq_false,AH.cells_of hc5,hz,show ¬ ((n5:Int) = 0) by omega,show ¬ ((n5:Int) = 12) by omega]
   exact ⟨m,0,by simp,by omega,by omega,hkk⟩
theorem shl_any {x n : Nat} : ∃ y,y < 18446744073709551616 ∧ abin .shl (uv x) (uv n) = some (uv y):=by
 refine ⟨(IntKind.u64.wrap ((x : Int) * 2 ^ min n 64)).toNat,?_,?_⟩
 ·simp [IntKind.wrap,IntKind.bits,IntKind.signed]; omega
 ·simp only [abin,uv]
  rw [if_neg (by omega),min64]
  congr 2
def RndAt (H : AH) (r x : Nat) : Prop:=H.blk r = some (.row [uv x] T_slices_xorshift true)
theorem Next_spec {H : AH} {r x : Nat} (h : RndAt H r x) (hx : x < 18446744073709551616) : AFn Tryd.prog F_slices_xorshift_Next [.pointer (some ⟨r,0,none⟩)] H fun u H' => ∃ y,y < 18446744073709551616 ∧ u = uv y ∧ RndAt H' r y ∧ Keep [r] H H':=by
 refine AFn.enter mixed ir_slices_xorshift_Next_eq (by simp [ir_slices_xorshift_Next]) fun hw => ?_
 unfold RndAt at *
 obtain ⟨y1,hy1,s1⟩:=shl_any (x:=x) (n:=13)
 have x1:=uv_xor hx hy1
 have hz1 : x ^^^ y1 < 18446744073709551616:=Nat.xor_lt_two_pow (n:=64) hx hy1
 generalize x ^^^ y1 = z1 at *
 have s2 : abin .shr (uv z1) (uv 7) = some (uv (z1 / 2 ^ 7)):=uv_shr (n:=7) hz1
 have hy2 : z1 / 2 ^ 7 < 18446744073709551616:=by omega
 generalize z1 / 2 ^ 7 = y2 at *
 have x2:=uv_xor hz1 hy2
 have hz2 : z1 ^^^ y2 < 18446744073709551616:=Nat.xor_lt_two_pow (n:=64) hz1 hy2
 generalize z1 ^^^ y2 = z2 at *
 obtain ⟨y3,hy3,s3⟩:=shl_any (x:=z2) (n:=17)
 have x3:=uv_xor hz2 hy3
 have hz3 : z2 ^^^ y3 < 18446744073709551616:=Nat.xor_lt_two_pow (n:=64) hz2 hy3
 generalize z2 ^^^ y3 = z3 at *
 clear hy1 hy2 hy3 hz1 hz2 hx
 simp (disch:=omega) [-getElem?_pos,if_pos,if_neg,decide_eq_true,decide_eq_false,ir_slices_xorshift_Next,AH.cells_of h,writeA,h,over,↓s1,↓x1,↓s2,↓x2,↓s3,↓x3]
 exact ⟨z3,hz3,rfl,.set (by simp)⟩
theorem nextPow_spec {H : AH} {n : Nat} (h : n < 1048576) : AFn Tryd.prog F_slices_nextPowerOfTwo [.int .i64 n] H fun u H' => u = uv (2 ^ bl n) ∧ H' = H:=by
 refine AFn.enter mixed ir_slices_nextPowerOfTwo_eq (by simp [ir_slices_nextPowerOfTwo]) fun hw => ?_
 have e2 : IntKind.u64.wrap (n : Int) = (n : Int):=by simp [IntKind.wrap,IntKind.bits,IntKind.signed]; omega
 have e3 : ∀ n : Nat,(Value.int .u64 (n : Int)) = uv n:=fun n => (uv_def n).symm
 have hb : bl n ≤ 20:=by
  unfold bl
  split
  ·omega
  ·have:=(Nat.log2_lt (n:=n) (k:=20) (by omega)).2 (by omega)
   omega
 have s1 : abin .shl (uv 1) (.int .i64 (bl n : Nat)) = some (uv (2 ^ bl n)):=uv_shl1 (by omega)
 have hs:=bits_Len_spec (H:=H) (x:=n) (by omega)
 generalize bl n = r at *
 simp (disch:=omega) [-getElem?_pos,if_pos,if_neg,decide_eq_true,decide_eq_false,ir_slices_nextPowerOfTwo,e2,e3]
 refine AFn.pure hs ?_
 generalize 2 ^ r = z at *
 simp (disch:=omega) [-getElem?_pos,if_pos,if_neg,decide_eq_true,decide_eq_false,↓s1]
def BrkI (H : AH) (v : Value) (S : List Nat) (L : List Ent) (a b r : Nat) (m : Nat) (env : Env) (H' : AH) : Prop :=
 ∃ i x M,m = b - i ∧ env 0 = some v ∧ env 1 = some (.int .i64 (a : Nat)) ∧ env 6 = some (.int .i64 (b - a : Nat)) ∧ env 7 = some (.pointer (some ⟨r,0,none⟩)) ∧ env 8 = some (uv (2 ^ bl (b - a))) ∧ env 9 = some (.int .i64 (i : Nat)) ∧ x < 18446744073709551616 ∧ RndAt H' r x ∧ WF H' ∧ Keep S H H' ∧ H.next ≤ r ∧ Sw a b L M ∧ a ≤ i ∧ i ≤ a + (b - a) / 4 * 2 + 2 ∧ DatAt H' v M S
theorem two_bl {n : Nat} (h : 0 < n) : 2 ^ bl n ≤ 2 * n:=by
 unfold bl
 rw [if_neg (by omega),Nat.pow_succ]
 have:=Nat.log2_self_le (n:=n) (by omega)
 omega
theorem breakPatterns_spec {H : AH} {v : Value} {L : List Ent} {S : List Nat} (h : DatAt H v L S) {a b : Nat} (hab : a + 12 < b) (hb : b ≤ L.length) : AFn Tryd.prog F_slices_breakPatternsOrdered_int [v,.int .i64 a,.int .i64 b] H (SwQ H v S L a b):=by
 have hl:=h.2
 refine AFn.enter mixed ir_slices_breakPatternsOrdered_int_eq (by simp [ir_slices_breakPatternsOrdered_int]) fun hw => ?_
 have hSn:=h.1.lt hw
 obtain ⟨l,hl2⟩ : ∃ l,l = b - a:=⟨_,rfl⟩
 have e0 : (b : Int) - (a : Int) = (l : Int):=by omega
 have e2 : IntKind.u64.wrap (l : Int) = (l : Int):=by simp [IntKind.wrap,IntKind.bits,IntKind.signed]; omega
 have e3 : ∀ n : Nat,(Value.int .u64 (n : Int)) = uv n:=fun n => (uv_def n).symm
 have hbn : (H.alloc (.row [uv 0] T_slices_xorshift true)).blk H.next = some (.row [uv 0] T_slices_xorshift true):=by simp
 have hnp:=nextPow_spec (H:=H.alloc (.row [uv l] T_slices_xorshift true)) (n:=l) (by omega)
 have hk1 : Keep [] H (H.alloc (.row [uv l] T_slices_xorshift true)):=.alloc
 have h1 : DatAt (H.alloc (.row [uv l] T_slices_xorshift true)) v L S:=⟨h.1.kept hw hk1 (by simp),h.2⟩
 have hr1 : RndAt (H.alloc (.row [uv l] T_slices_xorshift true)) H.next l:=by unfold RndAt; simp
 have w1 : WF (H.alloc (.row [uv l] T_slices_xorshift true)):=hw.alloc
 have hpow:=two_bl (n:=l) (by omega)
 obtain ⟨l4,hl4⟩ : ∃ l4,l4 = l / 4:=⟨_,rfl⟩
 have t1 : (l : Int).tdiv 4 = (l4 : Int):=by rw [Int.tdiv_eq_ediv_of_nonneg (by omega),hl4]; norm_cast
 obtain ⟨j,hj⟩ : ∃ j,j = a + l4 * 2:=⟨_,rfl⟩
 have ej : (a : Int) + (l4 : Int) * 2 = (j : Int):=by omega
 obtain ⟨j1,hj1⟩ : ∃ j1,j1 = j - 1:=⟨_,rfl⟩
 have ej1 : (j : Int) - 1 = (j1 : Int):=by omega
 have hbd : a ≤ j1 ∧ j + 1 < b ∧ j ≤ 1000000 ∧ l4 ≤ 1000000:=by omega
 obtain ⟨pw,hpw⟩ : ∃ pw,pw = 2 ^ bl l:=⟨_,rfl⟩
 rw [← hpw] at hnp hpow
 have hpw0 : 0 < pw:=by rw [hpw]; exact Nat.pow_pos (by omega)
 simp (disch:=omega) [-getElem?_pos,if_pos,if_neg,decide_eq_true,decide_eq_false,ir_slices_breakPatternsOrdered_int,e0,e2,e3,writeA_row hbn,over,IntWalk.i64_in,show (8:Int) ≤ (l:Int) by omega]
 refine AFn.pure hnp ?_
 simp (disch:=omega) [-getElem?_pos,if_pos,if_neg,decide_eq_true,decide_eq_false,t1,ej,ej1,IntWalk.i64_in]
 generalize H.alloc (.row [uv l] T_slices_xorshift true) = H1 at *
 refine wpC_use (loop_rule (BrkI H v S L a b H.next) (Q:=fun ex env H' => ex = .exit 0 ∧ SwQ H v S L a b .nilIface H') ?_ (j:=b - j1) ⟨j1,l,L,rfl,by simp,by simp,by simp [hl2],by simp,by simp [hpw,hl2],by simp,by omega,hr1,w1,hk1.mono fun b hb _ => by simp at hb,Nat.le_refl _,.refl,hbd.1,by omega,h1⟩) fun ex env2 H2 ⟨hex,hq⟩ _ => ?_
 ·rintro m env H' ⟨i,x,M,hm,f0,f1,f8,f9,f10,f11,hx,hr,w',k',hrn,hS,hai,hij,hD⟩
  have hMl:=hS.length
  rw [← hl2] at f8 f10 hij
  rw [← hl4] at hij
  rw [← hpw] at f10
  by_cases hle : i ≤ j + 1
  ·simp (disch:=omega) [-getElem?_pos,if_pos,if_neg,decide_eq_true,decide_eq_false,ir_slices_breakPatternsOrdered_int_l0,f0,f1,f8,f9,f10,f11,t1,ej,IntWalk.i64_in,show (i:Int) ≤ (j:Int) + 1 by omega]
   refine (Next_spec hr hx).mono' fun u H3 w3 ⟨y,hy,hu,hr3,hk3⟩ => ?_
   subst hu
   have hD3:=hD.other w' hk3 (fun hc => by have:=hSn _ hc; omega)
   have s1 : abin .sub (uv pw) (uv 1) = some (uv (pw - 1)):=uv_sub (by omega) (by omega)
   have s2 : abin .and (uv y) (uv (pw - 1)) = some (uv (y &&& (pw - 1))):=uv_and hy (by omega)
   have hand : y &&& (pw - 1) ≤ pw - 1:=Nat.and_le_right
   generalize y &&& (pw - 1) = o at *
   have eo : IntKind.i64.wrap (o : Int) = (o : Int):=IntWalk.i64_in _ (by omega)
   obtain ⟨o2,ho2⟩ : ∃ o2,o2 = if l ≤ o then o - l else o:=⟨_,rfl⟩
   have ho2l : o2 < l:=by rw [ho2]; split <;> omega
   generalize pw - 1 = pw1 at *
   obtain ⟨ao,hao⟩ : ∃ ao,ao = a + o2:=⟨_,rfl⟩
   have eao : (a : Int) + (o2 : Int) = (ao : Int):=by omega
   obtain ⟨bb,off,sp,cap,cs,H4,H5,hv,q1,q2,q3,q4,q5,hD',hk',hw'⟩:=hD3.two (i:=i) (k:=ao) (by omega) (by omega)
   cases hv
   have hS' : Sw a b L (swapL M i ao):=.step i ao ⟨by omega,by omega,by omega⟩ ⟨by omega,by omega,by omega⟩ hS
   have hr5 : RndAt H5 H.next y:=by
    unfold RndAt at *
    rw [hk'.blk _ (w3.lt hr3) (fun hc => by have:=hSn _ hc; omega)]; exact hr3
   have hb2 : i < M.length ∧ ao < M.length:=by omega
   generalize getE M i = x1 at *
   generalize getE M ao = x2 at *
   generalize swapL M i ao = N at *
   simp (disch:=omega) [-getElem?_pos,if_pos,if_neg,decide_eq_true,decide_eq_false,f0,f1,f8,f9,f10,f11,↓s1,↓s2]
   simp only [uv_def]
   have z2:=hw' w3
   have z3:=(k'.trans hk3 (fun b hb hlt => by simp at hb; omega)).trans' hk'
   by_cases hlo : l ≤ o
   ·have eo2 : (o : Int) - (l : Int) = (o2 : Int):=by rw [ho2,if_pos hlo]; omega
    simp (disch:=omega) [-getElem?_pos,if_pos,if_neg,decide_eq_true,decide_eq_false,f0,f1,f8,f9,f10,f11,eo,eo2,eao,q1,q2,q3,q4,q5,IntWalk.i64_in,show (l:Int) ≤ (o:Int) by omega,show (i:Int) < (M.length:Int) by omega,show (ao:Int) < (M.length:Int) by omega]
    have z1 : b - (i + 1) < m:=by omega
    refine ⟨_,z1,i + 1,y,N,rfl,?_,?_,?_,?_,?_,?_,hy,hr5,z2,z3,hrn,hS',by omega,by omega,hD'⟩
    ·simp [f0]
    ·simp [f1]
    ·simp [f8,hl2]
    ·simp [f9]
    ·simp [f10,hpw,hl2]
    ·simp
   ·have eo2 : o2 = o:=by rw [ho2,if_neg hlo]
    rw [eo2] at eao
    simp (disch:=omega) [-getElem?_pos,if_pos,if_neg,decide_eq_true,decide_eq_false,f0,f1,f8,f9,f10,f11,eo,eao,q1,q2,q3,q4,q5,IntWalk.i64_in,show ¬ (l:Int) ≤ (o:Int) by omega,show (i:Int) < (M.length:Int) by omega,show (ao:Int) < (M.length:Int) by omega]
    have z1 : b - (i + 1) < m:=by omega
    refine ⟨_,z1,i + 1,y,N,rfl,?_,?_,?_,?_,?_,?_,hy,hr5,z2,z3,hrn,hS',by omega,by omega,hD'⟩
    ·simp [f0]
    ·simp [f1]
    ·simp [f8,hl2]
    ·simp [f9]
    ·simp [f10,hpw,hl2]
    ·simp
  ·simp (disch:=omega) [-getElem?_pos,if_pos,if_neg,decide_eq_true,decide_eq_false,ir_slices_breakPatternsOrdered_int_l0,f0,f1,f8,f9,f10,f11,t1,ej,IntWalk.i64_in,show ¬ (i:Int) ≤ (j:Int) + 1 by omega]
   exact ⟨M,hS,hD,k'⟩
 ·subst hex
  simp (disch:=omega) [-getElem?_pos,if_pos,if_neg,decide_eq_true,decide_eq_false,]
  exact hq
end Go.Proofs.YtejifalflkbekaaDoor.Ps
/-
 Contracts of the library's sort (6): partialInsertionSort.
-/
set_option maxRecDepth 100000
set_option linter.unusedSimpArgs false
set_option linter.unusedVariables false
namespace Go.Proofs.YtejifalflkbekaaDoor.Ps
open Go Go.Abs
theorem srtIn_more {M : List Ent} {a i : Nat} (h : SrtIn M a i) (hi : a < i) (hl : leE (getE M (i - 1)) (getE M i)) : SrtIn M a (i + 1):=fun p q h1 h2 h3 => by
 by_cases hq : q = i
 ·subst hq
  by_cases hp : p = q - 1
  ·rw [hp]; exact hl
  ·exact (h p (q - 1) h1 (by omega) (by omega)).trans hl
 ·exact h p q h1 h2 (by omega)
theorem srtIn_keep {M : List Ent} {a i j k : Nat} (h : SrtIn M a i) (hj : i ≤ j ∧ j < M.length) (hk : i ≤ k ∧ k < M.length) : SrtIn (swapL M j k) a i:=fun p q h1 h2 h3 => by
 rw [getE_swap hj.2 hk.2,sw_o (by omega) (by omega),sw_o (by omega) (by omega)]
 exact h p q h1 h2 h3
def PiE (v : Value) (a b k : Nat) (env : Env) : Prop:=env 0 = some v ∧ env 1 = some (.int .i64 (a : Nat)) ∧ env 2 = some (.int .i64 (b : Nat)) ∧ env 8 = some (.int .i64 (k : Nat))
def PiH (H0 : AH) (v : Value) (S : List Nat) (L : List Ent) (a b : Nat) (H' : AH) (M : List Ent) : Prop:=WF H' ∧ Keep S H0 H' ∧ Sw a b L M ∧ DatAt H' v M S
def Pi2I (H0 H : AH) (v : Value) (S : List Nat) (L M : List Ent) (a b k : Nat) (m : Nat) (env : Env) (H' : AH) : Prop:=H' = H ∧ ∃ i,m = b - i ∧ PiE v a b k env ∧ env 7 = some (.int .i64 (i : Nat)) ∧ a < i ∧ i ≤ b ∧ SrtIn M a i
def Pi2Q (H0 H : AH) (v : Value) (S : List Nat) (L M : List Ent) (a b k : Nat) (ex : AExit) (env : Env) (H' : AH) : Prop:=ex = .exit 2 ∧ H' = H ∧ ∃ i,PiE v a b k env ∧ env 7 = some (.int .i64 (i : Nat)) ∧ a < i ∧ i ≤ b ∧ SrtIn M a i
theorem pis_l2 {H0 H : AH} {v : Value} {S : List Nat} {L M : List Ent} {a b k i : Nat} (hH : PiH H0 v S L a b H M) (hb : b ≤ L.length) {env : Env} (hE : PiE v a b k env) (e9 : env 7 = some (.int .i64 (i : Nat))) (hai : a < i) (hib : i ≤ b) (hs : SrtIn M a i) :
  wpC Tryd.prog 133 (.loop ir_slices_partialInsertionSortOrdered_int_l2) (Pi2Q H0 H v S L M a b k) env H:=by
 obtain ⟨hw,hk,hS,hD⟩:=hH
 have hMl:=hS.length
 have hM6:=hD.2
 refine loop_rule (Pi2I H0 H v S L M a b k) (Q:=Pi2Q H0 H v S L M a b k) ?_ (j:=b - i) ⟨rfl,i,rfl,hE,e9,hai,hib,hs⟩
 clear hE e9 hai hib hs
 rintro m env H' ⟨rfl,i,hm,hE,e9,hai,hib,hs⟩
 obtain ⟨e0,e1,e2,e10⟩:=id hE
 by_cases hlt : i < b
 ·obtain ⟨i1,hi1⟩ : ∃ i1,i1 = i - 1:=⟨_,rfl⟩
  have hii : (i : Int) - 1 = (i1 : Int):=by omega
  obtain ⟨bb,off,sp,cap,cs,_,_,hv,q1,q2,q3,_,_,_,_,_⟩:=hD.two (i:=i) (k:=i1) (by omega) (by omega)
  cases hv
  have hmore:=srtIn_more hs hai
  rw [← hi1] at hmore
  cases hz : (getE M i).lt (getE M i1) with
  | true =>
   have ho:=hz
   generalize getE M i = x at *
   generalize getE M i1 = y at *
   simp (disch:=omega) [-getElem?_pos,if_pos,if_neg,decide_eq_true,decide_eq_false,ir_slices_partialInsertionSortOrdered_int_l2,e0,e1,e2,e9,hii,q1,q2,q3,IntWalk.i64_in,show (i:Int) < (b:Int) by omega,show (i:Int) < (M.length:Int) by omega,show (i1:Int) < (M.length:Int) by omega]
   refine AFnD.of (LessI_spec x y) ?_
   simp (disch:=omega) [-getElem?_pos,if_pos,if_neg,decide_eq_true,decide_eq_false,ho]
   exact ⟨rfl,rfl,i,⟨e0,e1,e2,e10⟩,e9,hai,hib,hs⟩
  | false =>
   have ho:=hz
   have h2:=hmore hz
   generalize getE M i = x at *
   generalize getE M i1 = y at *
   simp (disch:=omega) [-getElem?_pos,if_pos,if_neg,decide_eq_true,decide_eq_false,ir_slices_partialInsertionSortOrdered_int_l2,e0,e1,e2,e9,hii,q1,q2,q3,IntWalk.i64_in,show (i:Int) < (b:Int) by omega,show (i:Int) < (M.length:Int) by omega,show (i1:Int) < (M.length:Int) by omega]
   refine AFnD.of (LessI_spec x y) ?_
   simp (disch:=omega) [-getElem?_pos,if_pos,if_neg,decide_eq_true,decide_eq_false,ho,e0,e1,e2,e9,IntWalk.i64_in]
   have z1 : b - (i + 1) < m:=by omega
   refine ⟨_,z1,rfl,i + 1,rfl,⟨?_,?_,?_,?_⟩,?_,by omega,by omega,h2⟩
   ·simp [e0]
   ·simp [e1]
   ·simp [e2]
   ·simp [e10]
   ·simp
 ·simp (disch:=omega) [-getElem?_pos,if_pos,if_neg,decide_eq_true,decide_eq_false,ir_slices_partialInsertionSortOrdered_int_l2,e0,e1,e2,e9,show ¬ (i:Int) < (b:Int) by omega]
  exact ⟨rfl,rfl,i,⟨e0,e1,e2,e10⟩,e9,hai,hib,hs⟩
def Pi1I (H0 : AH) (v : Value) (S : List Nat) (L : List Ent) (a b k i : Nat) (m : Nat) (env : Env) (H' : AH) : Prop:=∃ j M,m = j ∧ PiE v a b k env ∧ env 7 = some (.int .i64 (i : Nat)) ∧ env 9 = some (.int .i64 (j : Nat)) ∧ PiH H0 v S L a b H' M ∧ a ≤ j ∧ j ≤ i - 1 ∧ InsI M a (i - 1) j
def PiSQ (x : Nat) (H0 : AH) (v : Value) (S : List Nat) (L : List Ent) (a b k i : Nat) (ex : AExit) (env : Env) (H' : AH) : Prop:=ex = .exit x ∧ ∃ M,PiE v a b k env ∧ env 7 = some (.int .i64 (i : Nat)) ∧ PiH H0 v S L a b H' M ∧ SrtIn M a i
theorem pis_l1 {H0 H : AH} {v : Value} {S : List Nat} {L M : List Ent} {a b k i : Nat} (hLb : LbI L a b) (hH : PiH H0 v S L a b H M) (hb : b ≤ L.length) {env : Env} (hE : PiE v a b k env) (e9 : env 7 = some (.int .i64 (i : Nat))) (e11 : env 9 = some (.int .i64 (i - 1 : Nat))) (hai : a < i) (hib : i < b) (hs : InsI M a (i - 1) (i - 1)) :
  wpC Tryd.prog 133 (.loop ir_slices_partialInsertionSortOrdered_int_l1) (PiSQ 4 H0 v S L a b k i) env H:=by
 refine loop_rule (Pi1I H0 v S L a b k i) (Q:=PiSQ 4 H0 v S L a b k i) ?_ (j:=i - 1) ⟨i - 1,M,rfl,hE,e9,e11,hH,by omega,Nat.le_refl _,hs⟩
 clear hE e9 e11 hH hs
 rintro m env H' ⟨j,M,hm,hE,e9,e11,hH,haj,hji,hs⟩
 obtain ⟨e0,e1,e2,e10⟩:=id hE
 obtain ⟨hw,hk,hS,hD⟩:=id hH
 have hMl:=hS.length
 have hM6:=hD.2
 have hdone:=hs.done haj
 rw [show i - 1 + 1 = i by omega] at hdone
 by_cases hj1 : 1 ≤ j
 ·obtain ⟨j1,hj1'⟩ : ∃ j1,j1 = j - 1:=⟨_,rfl⟩
  have hjj : (j : Int) - 1 = (j1 : Int):=by omega
  obtain ⟨bb,off,sp,cap,cs,H1,H2,hv,q1,q2,q3,q4,q5,hD',hk',hw'⟩:=hD.two (i:=j) (k:=j1) (by omega) (by omega)
  cases hv
  rw [← hj1'] at hdone
  cases hz : (getE M j).lt (getE M j1) with
  | true =>
   have ho:=hz
   have hja : a < j:=by
    rcases Nat.lt_or_ge a j with h | h
    ·exact h
    ·exfalso
     have hja : j = a:=by omega
     have:=(hLb.sw hS) (by omega) j (by omega) (by omega)
     rw [show a - 1 = j1 by omega] at this
     unfold leE at this
     rw [hz] at this; cases this
   have hst:=hs.step (by omega) hja hji (by rw [← hj1']; exact hz)
   rw [← hj1'] at hst
   have hS' : Sw a b L (swapL M j j1):=.step j j1 ⟨by omega,by omega,by omega⟩ ⟨by omega,by omega,by omega⟩ hS
   generalize getE M j = x at *
   generalize getE M j1 = y at *
   generalize swapL M j j1 = N at *
   simp (disch:=omega) [-getElem?_pos,if_pos,if_neg,decide_eq_true,decide_eq_false,ir_slices_partialInsertionSortOrdered_int_l1,e0,e1,e2,e9,e11,hjj,q1,q2,q3,IntWalk.i64_in,show (1:Int) ≤ (j:Int) by omega,show (j:Int) < (M.length:Int) by omega,show (j1:Int) < (M.length:Int) by omega]
   refine AFnD.of (LessI_spec x y) ?_
   simp (disch:=omega) [-getElem?_pos,if_pos,if_neg,decide_eq_true,decide_eq_false,ho,e0,e1,e2,e9,e11,hjj,q1,q2,q3,q4,q5,IntWalk.i64_in,show (j:Int) < (M.length:Int) by omega,show (j1:Int) < (M.length:Int) by omega]
   have z1 : j1 < m:=by omega
   have z2:=hw' hw
   have z3:=hk.trans' hk'
   refine ⟨_,z1,j1,N,rfl,⟨?_,?_,?_,?_⟩,?_,?_,⟨z2,z3,hS',hD'⟩,by omega,by omega,hst⟩
   ·simp [e0]
   ·simp [e1]
   ·simp [e2]
   ·simp [e10]
   ·simp [e9]
   ·simp
  | false =>
   have ho:=hz
   have h2:=hdone (.inr hz)
   generalize getE M j = x at *
   generalize getE M j1 = y at *
   simp (disch:=omega) [-getElem?_pos,if_pos,if_neg,decide_eq_true,decide_eq_false,ir_slices_partialInsertionSortOrdered_int_l1,e0,e1,e2,e9,e11,hjj,q1,q2,q3,IntWalk.i64_in,show (1:Int) ≤ (j:Int) by omega,show (j:Int) < (M.length:Int) by omega,show (j1:Int) < (M.length:Int) by omega]
   refine AFnD.of (LessI_spec x y) ?_
   simp (disch:=omega) [-getElem?_pos,if_pos,if_neg,decide_eq_true,decide_eq_false,ho]
   exact ⟨rfl,M,⟨e0,e1,e2,e10⟩,e9,⟨hw,hk,hS,hD⟩,h2⟩
 ·have h2:=hdone (.inl (by omega))
  simp (disch:=omega) [-getElem?_pos,if_pos,if_neg,decide_eq_true,decide_eq_false,ir_slices_partialInsertionSortOrdered_int_l1,e11,show ¬ (1:Int) ≤ (j:Int) by omega]
  exact ⟨rfl,M,⟨e0,e1,e2,e10⟩,e9,⟨hw,hk,hS,hD⟩,h2⟩
def Pi0I (H0 : AH) (v : Value) (S : List Nat) (L : List Ent) (a b k i : Nat) (m : Nat) (env : Env) (H' : AH) : Prop:=∃ j M,m = b - j ∧ PiE v a b k env ∧ env 7 = some (.int .i64 (i : Nat)) ∧ env 10 = some (.int .i64 (j : Nat)) ∧ PiH H0 v S L a b H' M ∧ i < j ∧ j ≤ b ∧ SrtIn M a i
theorem pis_l0 {H0 H : AH} {v : Value} {S : List Nat} {L M : List Ent} {a b k i : Nat} (hH : PiH H0 v S L a b H M) (hb : b ≤ L.length) {env : Env} (hE : PiE v a b k env) (e9 : env 7 = some (.int .i64 (i : Nat))) (e12 : env 10 = some (.int .i64 (i + 1 : Nat))) (hai : a < i) (hib : i < b) (hs : SrtIn M a i) :
  wpC Tryd.prog 133 (.loop ir_slices_partialInsertionSortOrdered_int_l0) (PiSQ 6 H0 v S L a b k i) env H:=by
 refine loop_rule (Pi0I H0 v S L a b k i) (Q:=PiSQ 6 H0 v S L a b k i) ?_ (j:=b - (i + 1)) ⟨i + 1,M,rfl,hE,e9,e12,hH,by omega,by omega,hs⟩
 clear hE e9 e12 hH hs
 rintro m env H' ⟨j,M,hm,hE,e9,e12,hH,hij,hjb,hs⟩
 obtain ⟨e0,e1,e2,e10⟩:=id hE
 obtain ⟨hw,hk,hS,hD⟩:=id hH
 have hMl:=hS.length
 have hM6:=hD.2
 by_cases hlt : j < b
 ·obtain ⟨j1,hj1'⟩ : ∃ j1,j1 = j - 1:=⟨_,rfl⟩
  have hjj : (j : Int) - 1 = (j1 : Int):=by omega
  obtain ⟨bb,off,sp,cap,cs,H1,H2,hv,q1,q2,q3,q4,q5,hD',hk',hw'⟩:=hD.two (i:=j) (k:=j1) (by omega) (by omega)
  cases hv
  have hst:=srtIn_keep hs (j:=j) (k:=j1) ⟨by omega,by omega⟩ ⟨by omega,by omega⟩
  have hS' : Sw a b L (swapL M j j1):=.step j j1 ⟨by omega,by omega,by omega⟩ ⟨by omega,by omega,by omega⟩ hS
  cases hz : (getE M j).lt (getE M j1) with
  | true =>
   have ho:=hz
   generalize getE M j = x at *
   generalize getE M j1 = y at *
   generalize swapL M j j1 = N at *
   simp (disch:=omega) [-getElem?_pos,if_pos,if_neg,decide_eq_true,decide_eq_false,ir_slices_partialInsertionSortOrdered_int_l0,e0,e1,e2,e9,e12,hjj,q1,q2,q3,IntWalk.i64_in,show (j:Int) < (b:Int) by omega,show (j:Int) < (M.length:Int) by omega,show (j1:Int) < (M.length:Int) by omega]
   refine AFnD.of (LessI_spec x y) ?_
   simp (disch:=omega) [-getElem?_pos,if_pos,if_neg,decide_eq_true,decide_eq_false,ho,e0,e1,e2,e9,e12,hjj,q1,q2,q3,q4,q5,IntWalk.i64_in,show (j:Int) < (M.length:Int) by omega,show (j1:Int) < (M.length:Int) by omega]
   have z1 : b - (j + 1) < m:=by omega
   have z2:=hw' hw
   have z3:=hk.trans' hk'
   refine ⟨_,z1,j + 1,N,rfl,⟨?_,?_,?_,?_⟩,?_,?_,⟨z2,z3,hS',hD'⟩,by omega,by omega,hst⟩
   ·simp [e0]
   ·simp [e1]
   ·simp [e2]
   ·simp [e10]
   ·simp [e9]
   ·simp
  | false =>
   have ho:=hz
   generalize getE M j = x at *
   generalize getE M j1 = y at *
   simp (disch:=omega) [-getElem?_pos,if_pos,if_neg,decide_eq_true,decide_eq_false,ir_slices_partialInsertionSortOrdered_int_l0,e0,e1,e2,e9,e12,hjj,q1,q2,q3,IntWalk.i64_in,show (j:Int) < (b:Int) by omega,show (j:Int) < (M.length:Int) by omega,show (j1:Int) < (M.length:Int) by omega]
   refine AFnD.of (LessI_spec x y) ?_
   simp (disch:=omega) [-getElem?_pos,if_pos,if_neg,decide_eq_true,decide_eq_false,ho]
   exact ⟨rfl,M,⟨e0,e1,e2,e10⟩,e9,⟨hw,hk,hS,hD⟩,hs⟩
 ·simp (disch:=omega) [-getElem?_pos,if_pos,if_neg,decide_eq_true,decide_eq_false,ir_slices_partialInsertionSortOrdered_int_l0,e2,e12,show ¬ (j:Int) < (b:Int) by omega]
  exact ⟨rfl,M,⟨e0,e1,e2,e10⟩,e9,⟨hw,hk,hS,hD⟩,hs⟩
def Pi3I (H0 : AH) (v : Value) (S : List Nat) (L : List Ent) (a b : Nat) (m : Nat) (env : Env) (H' : AH) : Prop:=∃ k i M,m = 5 - k ∧ PiE v a b k env ∧ k ≤ 5 ∧ env 7 = some (.int .i64 (i : Nat)) ∧ PiH H0 v S L a b H' M ∧ a < i ∧ i ≤ b ∧ SrtIn M a i
def Pi3Q (H0 : AH) (v : Value) (S : List Nat) (L : List Ent) (a b : Nat) (ex : AExit) (env : Env) (H' : AH) : Prop:=(ex = .exit 0 ∧ ∃ M,PiH H0 v S L a b H' M) ∨ (ex = .ret ∧ ∃ t M,env 6 = some (.bool t) ∧ PiH H0 v S L a b H' M ∧ (t = true → SrtIn M a b))
def PisQ (H : AH) (v : Value) (S : List Nat) (L : List Ent) (a b : Nat) (u : Value) (H' : AH) : Prop:=∃ t M,u = .bool t ∧ Sw a b L M ∧ (t = true → SrtIn M a b) ∧ DatAt H' v M S ∧ Keep S H H'
theorem partialIns_spec {H : AH} {v : Value} {L : List Ent} {S : List Nat} (h : DatAt H v L S) {a b : Nat} (hab : a + 1 < b) (hb : b ≤ L.length) (hLb : LbI L a b) : AFn Tryd.prog F_slices_partialInsertionSortOrdered_int [v,.int .i64 a,.int .i64 b] H (PisQ H v S L a b):=by
 have hl:=h.2
 refine AFn.enter mixed ir_slices_partialInsertionSortOrdered_int_eq (by simp [ir_slices_partialInsertionSortOrdered_int]) fun hw => ?_
 simp (disch:=omega) [-getElem?_pos,if_pos,if_neg,decide_eq_true,decide_eq_false,ir_slices_partialInsertionSortOrdered_int,IntWalk.i64_in]
 refine wpC_use (loop_rule (Pi3I H v S L a b) (Q:=Pi3Q H v S L a b) ?_ (j:=5) ⟨0,a + 1,L,rfl,⟨by simp,by simp,by simp,by simp⟩,by omega,by simp,⟨hw,.refl,.refl,h⟩,by omega,by omega,fun p q h1 h2 h3 => by omega⟩) fun ex env2 H2 hq _ => ?_
 ·rintro m env H' ⟨k,i,M,hm,hE,hk5,e9,hH,hai,hib,hs⟩
  obtain ⟨e0,e1,e2,e10⟩:=id hE
  by_cases hk : k < 5
  ·simp (disch:=omega) [-getElem?_pos,if_pos,if_neg,decide_eq_true,decide_eq_false,ir_slices_partialInsertionSortOrdered_int_l3,e10,show (k:Int) < 5 by omega]
   refine wpC_use (pis_l2 (i:=i) (k:=k) hH hb ⟨by simp [e0],by simp [e1],by simp [e2],by simp [e10]⟩ (by simp [e9]) hai hib hs) fun ex env2 H2 ⟨he,hHe,i,⟨f0,f1,f2,f10⟩,f9,hai,hib,hs⟩ _ => ?_
   subst he hHe
   obtain ⟨hw1,hk1,hS1,hD1⟩:=id hH
   have hMl:=hS1.length
   by_cases hi : i = b
   ·simp (disch:=omega) [-getElem?_pos,if_pos,if_neg,decide_eq_true,decide_eq_false,f0,f1,f2,f9,f10,hi]
    exact .inr ⟨rfl,true,M,by simp,hH,fun _ => hi ▸ hs⟩
   ·by_cases h50 : b - a < 50
    ·simp (disch:=omega) [-getElem?_pos,if_pos,if_neg,decide_eq_true,decide_eq_false,f0,f1,f2,f9,f10,show ¬ ((i:Int) = (b:Int)) by omega,IntWalk.i64_in,show (b:Int) - (a:Int) < 50 by omega]
     exact .inr ⟨rfl,false,M,by simp,hH,fun h => by cases h⟩
    ·obtain ⟨i1,hi1⟩ : ∃ i1,i1 = i - 1:=⟨_,rfl⟩
     have hii : (i : Int) - 1 = (i1 : Int):=by omega
     obtain ⟨bb,off,sp,cap,cs,H3,H4,hv,q1,q2,q3,q4,q5,hD4,hk4,hw4⟩:=hD1.two (i:=i) (k:=i1) (by omega) (by omega)
     cases hv
     have hS4 : Sw a b L (swapL M i i1):=.step i i1 ⟨by omega,by omega,by omega⟩ ⟨by omega,by omega,by omega⟩ hS1
     have hs1 : SrtIn (swapL M i i1) a i1:=srtIn_keep (i:=i1) (fun p q p1 p2 p3 => hs p q p1 p2 (by omega)) (j:=i) (k:=i1) ⟨by omega,by omega⟩ ⟨by omega,by omega⟩
     have hH4 : PiH H (.slice (some ⟨bb,off,sp⟩) M.length cap) S L a b H4 (swapL M i i1):=⟨hw4 hw1,hk1.trans' hk4,hS4,hD4⟩
     generalize getE M i = x at *
     generalize getE M i1 = y at *
     generalize swapL M i i1 = N at *
     have hil : i < M.length ∧ i1 < M.length:=by omega
     by_cases hla : 2 ≤ i - a
     ·simp (disch:=omega) [-getElem?_pos,if_pos,if_neg,decide_eq_true,decide_eq_false,f0,f1,f2,f9,f10,hii,q1,q2,q3,q4,q5,IntWalk.i64_in,show ¬ ((i:Int) = (b:Int)) by omega,show ¬ (b:Int) - (a:Int) < 50 by omega,show (2:Int) ≤ (i:Int) - (a:Int) by omega,show (i:Int) < (M.length:Int) by omega,show (i1:Int) < (M.length:Int) by omega]
      refine wpC_use (pis_l1 (i:=i) (k:=k) hLb hH4 hb ⟨by simp [f0],by simp [f1],by simp [f2],by simp [f10]⟩ (by simp [f9]) (by simp [hi1]) hai (by omega) (.start (by rw [← hi1]; exact hs1))) fun ex env3 H5 ⟨he,M5,⟨g0,g1,g2,g10⟩,g9,hH5,hs2⟩ _ => ?_
      subst he
      by_cases hr : 2 ≤ b - i
      ·simp (disch:=omega) [-getElem?_pos,if_pos,if_neg,decide_eq_true,decide_eq_false,g0,g1,g2,g9,g10,IntWalk.i64_in,show (2:Int) ≤ (b:Int) - (i:Int) by omega]
       refine wpC_use (pis_l0 (i:=i) (k:=k) hH5 hb ⟨by simp [g0],by simp [g1],by simp [g2],by simp [g10]⟩ (by simp [g9]) (by simp) hai (by omega) hs2) fun ex envr Hr ⟨he,Mr,⟨r0,r1,r2,r10⟩,r9,hHr,hs2⟩ _ => ?_
       subst he
       simp (disch:=omega) [-getElem?_pos,if_pos,if_neg,decide_eq_true,decide_eq_false,r0,r1,r2,r9,r10,IntWalk.i64_in]
       have z1 : 5 - (k + 1) < m:=by omega
       refine ⟨_,z1,k + 1,i,Mr,rfl,⟨?_,?_,?_,?_⟩,by omega,?_,hHr,hai,hib,hs2⟩
       ·simp [r0]
       ·simp [r1]
       ·simp [r2]
       ·simp
       ·simp [r9]
      ·simp (disch:=omega) [-getElem?_pos,if_pos,if_neg,decide_eq_true,decide_eq_false,g0,g1,g2,g9,g10,IntWalk.i64_in,show ¬ (2:Int) ≤ (b:Int) - (i:Int) by omega]
       have z1 : 5 - (k + 1) < m:=by omega
       refine ⟨_,z1,k + 1,i,M5,rfl,⟨?_,?_,?_,?_⟩,by omega,?_,hH5,hai,hib,hs2⟩
       ·simp [g0]
       ·simp [g1]
       ·simp [g2]
       ·simp
       ·simp [g9]
     ·have hs2 : SrtIn N a i:=fun p q p1 p2 p3 => by omega
      by_cases hr : 2 ≤ b - i
      ·simp (disch:=omega) [-getElem?_pos,if_pos,if_neg,decide_eq_true,decide_eq_false,f0,f1,f2,f9,f10,hii,q1,q2,q3,q4,q5,IntWalk.i64_in,show ¬ ((i:Int) = (b:Int)) by omega,show ¬ (b:Int) - (a:Int) < 50 by omega,show ¬ (2:Int) ≤ (i:Int) - (a:Int) by omega,show (2:Int) ≤ (b:Int) - (i:Int) by omega,show (i:Int) < (M.length:Int) by omega,show (i1:Int) < (M.length:Int) by omega]
       refine wpC_use (pis_l0 (i:=i) (k:=k) hH4 hb ⟨by simp [f0],by simp [f1],by simp [f2],by simp [f10]⟩ (by simp [f9]) (by simp) hai (by omega) hs2) fun ex envr Hr ⟨he,Mr,⟨r0,r1,r2,r10⟩,r9,hHr,hs2⟩ _ => ?_
       subst he
       simp (disch:=omega) [-getElem?_pos,if_pos,if_neg,decide_eq_true,decide_eq_false,r0,r1,r2,r9,r10,IntWalk.i64_in]
       have z1 : 5 - (k + 1) < m:=by omega
       refine ⟨_,z1,k + 1,i,Mr,rfl,⟨?_,?_,?_,?_⟩,by omega,?_,hHr,hai,hib,hs2⟩
       ·simp [r0]
       ·simp [r1]
       ·simp [r2]
       ·simp
       ·simp [r9]
      ·omega
  ·simp (disch:=omega) [-getElem?_pos,if_pos,if_neg,decide_eq_true,decide_eq_false,ir_slices_partialInsertionSortOrdered_int_l3,e10,show ¬ (k:Int) < 5 by omega]
   exact .inl ⟨rfl,M,hH⟩
 ·rcases hq with ⟨rfl,M,hH⟩ | ⟨rfl,t,M,e8,hH,hs⟩
  ·simp (disch:=omega) [-getElem?_pos,if_pos,if_neg,decide_eq_true,decide_eq_false,]
   exact ⟨false,M,rfl,hH.2.2.1,(fun h => by cases h),hH.2.2.2,hH.2.1⟩
  ·simp (disch:=omega) [-getElem?_pos,if_pos,if_neg,decide_eq_true,decide_eq_false,e8]
   exact ⟨t,M,rfl,hH.2.2.1,hs,hH.2.2.2,hH.2.1⟩
end Go.Proofs.YtejifalflkbekaaDoor.Ps
/-
 Contracts of the library's sort (7): pdqsort.
-/
set_option maxRecDepth 100000
set_option linter.unusedSimpArgs false
set_option linter.unusedVariables false
namespace Go.Proofs.YtejifalflkbekaaDoor.Ps
open Go Go.Abs
def PdH (H0 : AH) (v : Value) (S : List Nat) (L : List Ent) (a0 b0 a b : Nat) (H' : AH) (M : List Ent) : Prop:=WF H' ∧ Keep S H0 H' ∧ Sw a0 b0 L M ∧ a0 ≤ a ∧ a ≤ b ∧ b ≤ b0 ∧ OutI M a0 b0 a b ∧ LbI M a b ∧ DatAt H' v M S
theorem PdH.sw {H0 H' H'' : AH} {v : Value} {S : List Nat} {L M N : List Ent} {a0 b0 a b : Nat} (h : PdH H0 v S L a0 b0 a b H' M) (hw : WF H'') (hk : Keep S H' H'') (hS : Sw a b M N) (hD : DatAt H'' v N S) : PdH H0 v S L a0 b0 a b H'' N:=by
 obtain ⟨h1,h2,h3,h4,h5,h6,h7,h8,h9⟩:=h
 exact ⟨hw,h2.trans' hk,h3.trans (hS.mono h4 h6),h4,h5,h6,h7.sw h4 h6 hS,h8.sw hS,hD⟩
theorem PdH.end {H0 H' : AH} {v : Value} {S : List Nat} {L M : List Ent} {a0 b0 a b : Nat} (h : PdH H0 v S L a0 b0 a b H' M) (hs : SrtIn M a b) (u : Value) : SortQ H0 v S L a0 b0 u H':=by
 obtain ⟨h1,h2,h3,h4,h5,h6,h7,h8,h9⟩:=h
 exact ⟨M,h3,h7.done hs,h9,h2⟩
def PdI (H0 : AH) (v : Value) (S : List Nat) (L : List Ent) (a0 b0 : Nat) (m : Nat) (env : Env) (H' : AH) : Prop :=
 ∃ a b lim wb wp M,m = b - a ∧ env 0 = some v ∧ env 1 = some (.int .i64 (a : Nat)) ∧ env 2 = some (.int .i64 (b : Nat)) ∧ env 3 = some (.int .i64 (lim : Nat)) ∧ env 8 = some (.bool wb) ∧ env 9 = some (.bool wp) ∧ lim < 1000 ∧ PdH H0 v S L a0 b0 a b H' M
def PdQ (H0 : AH) (v : Value) (S : List Nat) (L : List Ent) (a0 b0 : Nat) (ex : AExit) (env : Env) (H' : AH) : Prop:=(ex = .ret ∨ ex = .exit 0) ∧ SortQ H0 v S L a0 b0 .nilIface H'
def J1 (H0 : AH) (v : Value) (S : List Nat) (L : List Ent) (a0 b0 a b : Nat) (ex : AExit) (env : Env) (H' : AH) : Prop:=ex = .normal ∧ ∃ lim M,env 3 = some (.int .i64 (lim : Nat)) ∧ lim < 1000 ∧ PdH H0 v S L a0 b0 a b H' M
def J2 (H0 : AH) (v : Value) (S : List Nat) (L : List Ent) (a0 b0 a b : Nat) (ex : AExit) (env : Env) (H' : AH) : Prop:=ex = .normal ∧ ∃ pv h M,env 11 = some (.int .i64 (pv : Nat)) ∧ env 12 = some (.int .i64 h) ∧ a ≤ pv ∧ pv < b ∧ PdH H0 v S L a0 b0 a b H' M
def J3 (H0 : AH) (v : Value) (S : List Nat) (L : List Ent) (a0 b0 a b : Nat) (ex : AExit) (env : Env) (H' : AH) : Prop:=(ex = .normal ∧ ∃ M,PdH H0 v S L a0 b0 a b H' M) ∨ (ex = .ret ∧ SortQ H0 v S L a0 b0 .nilIface H')
def J4 (H0 : AH) (v : Value) (S : List Nat) (L : List Ent) (a0 b0 a b : Nat) (H : AH) (ex : AExit) (env : Env) (H' : AH) : Prop:=(ex = .normal ∧ env 1 = some (.int .i64 (a : Nat)) ∧ H' = H) ∨ (ex = .exit 1 ∧ ∃ mid M,a < mid ∧ env 1 = some (.int .i64 (mid : Nat)) ∧ PdH H0 v S L a0 b0 mid b H' M)
theorem pdqsort_spec : ∀ (d : Nat) {H : AH} {v : Value} {L : List Ent} {S : List Nat} {a b lim : Nat},b - a = d → DatAt H v L S → a ≤ b → b ≤ L.length → LbI L a b → lim < 1000 → AFn Tryd.prog F_slices_pdqsortOrdered_int [v,.int .i64 a,.int .i64 b,.int .i64 lim] H (SortQ H v S L a b):=by
 intro d
 induction d using Nat.strongRecOn with
 | ind d ih =>
 intro H v L S a0 b0 lim0 hd h hab hb hLb hlim
 have hl:=h.2
 refine AFn.enter mixed ir_slices_pdqsortOrdered_int_eq (by simp [ir_slices_pdqsortOrdered_int]) fun hw => ?_
 simp (disch:=omega) [-getElem?_pos,if_pos,if_neg,decide_eq_true,decide_eq_false,ir_slices_pdqsortOrdered_int]
 refine wpC_use (loop_rule (PdI H v S L a0 b0) (Q:=PdQ H v S L a0 b0) ?_ (j:=b0 - a0) ⟨a0,b0,lim0,true,true,L,rfl,by simp,by simp,by simp,by simp,by simp,by simp,hlim,hw,.refl,.refl,Nat.le_refl _,hab,Nat.le_refl _,fun p q h1 h2 h3 h4 => absurd ⟨h1,h3⟩ h4,hLb,h⟩) fun ex env2 H2 ⟨hex,hq⟩ _ => ?_
 ·rintro m env H' ⟨a,b,lim,wb,wp,M,hm,e0,e1,e2,e3,e10,e11,hlim,hP⟩
  obtain ⟨w1,k1,hS,ha0,hab1,hb0,hOut,hLb1,hD⟩:=id hP
  have hMl:=hS.length
  obtain ⟨l,hl2⟩ : ∃ l,l = b - a:=⟨_,rfl⟩
  have el : (b : Int) - (a : Int) = (l : Int):=by omega
  by_cases h12 : l ≤ 12
  ·simp (disch:=omega) [-getElem?_pos,if_pos,if_neg,decide_eq_true,decide_eq_false,ir_slices_pdqsortOrdered_int_l0,e0,e1,e2,e3,e10,e11,el,IntWalk.i64_in,show (l:Int) ≤ 12 by omega]
   refine (insertion_spec hD hab1 (by omega)).mono' fun u H3 w3 ⟨N,hSN,hsN,hDN,hkN⟩ => ?_
   simp (disch:=omega) [-getElem?_pos,if_pos,if_neg,decide_eq_true,decide_eq_false,]
   exact ⟨.inl rfl,(hP.sw w3 hkN hSN hDN).end hsN _⟩
  ·by_cases hz : lim = 0
   ·simp (disch:=omega) [-getElem?_pos,if_pos,if_neg,decide_eq_true,decide_eq_false,ir_slices_pdqsortOrdered_int_l0,e0,e1,e2,e3,e10,e11,el,hz,IntWalk.i64_in,show ¬ (l:Int) ≤ 12 by omega]
    refine (heapSort_spec hD (by omega) (by omega)).mono' fun u H3 w3 ⟨N,hSN,hsN,hDN,hkN⟩ => ?_
    simp (disch:=omega) [-getElem?_pos,if_pos,if_neg,decide_eq_true,decide_eq_false,]
    exact ⟨.inl rfl,(hP.sw w3 hkN hSN hDN).end hsN _⟩
   ·simp (disch:=omega) [-getElem?_pos,if_pos,if_neg,decide_eq_true,decide_eq_false,ir_slices_pdqsortOrdered_int_l0,e0,e1,e2,e3,e10,e11,el,hz,IntWalk.i64_in,show ¬ (l:Int) ≤ 12 by omega,show ¬ ((lim:Int) = 0) by omega]
    refine condK_use (R:=J1 H v S L a0 b0 a b) (fun hwb => ?_) (fun hwb => ?_) fun e env2 H2 ⟨he,lim,M2,f3,hlim,hP2⟩ hout => ?_
    ·subst hwb
     simp (disch:=omega) [-getElem?_pos,if_pos,if_neg,decide_eq_true,decide_eq_false,]
     exact ⟨rfl,lim,M,by simp [e3],hlim,hP⟩
    ·subst hwb
     obtain ⟨lm,hlm⟩ : ∃ lm,lm = lim - 1:=⟨_,rfl⟩
     have elm : (lim : Int) - 1 = (lm : Int):=by omega
     simp (disch:=omega) [-getElem?_pos,if_pos,if_neg,decide_eq_true,decide_eq_false,e0,e1,e2,e3]
     refine (breakPatterns_spec hD (by omega) (by omega)).mono' fun u H3 w3 ⟨N,hSN,hDN,hkN⟩ => ?_
     simp (disch:=omega) [-getElem?_pos,if_pos,if_neg,decide_eq_true,decide_eq_false,e3,elm,IntWalk.i64_in]
     exact ⟨rfl,lm,N,by simp,by omega,hP.sw w3 hkN hSN hDN⟩
    subst he
    have f0:=hout 0 (by decide)
    have f1:=hout 1 (by decide)
    have f2:=hout 2 (by decide)
    have f10:=hout 8 (by decide)
    have f11:=hout 9 (by decide)
    have f12:=hout 10 (by decide)
    simp [e0,e1,e2,e10,e11] at f0 f1 f2 f10 f11 f12
    clear hout e0 e1 e2 e3 e10 e11 hP w1 k1 hS hOut hLb1 hD hMl
    obtain ⟨w1,k1,hS,_,_,_,_,_,hD⟩:=id hP2
    have hMl:=hS.length
    simp (disch:=omega) [-getElem?_pos,if_pos,if_neg,decide_eq_true,decide_eq_false,f0,f1,f2,f3]
    refine (choosePivot_spec hD (by omega) (by omega)).mono' fun u H3 w3 ⟨pv,hint,hu,hp1,hp2,hk3⟩ => ?_
    subst hu
    have hP3:=hP2.sw w3 (hk3.mono fun b hb _ => by simp at hb) .refl ⟨hD.1.kept w1 hk3 (by simp),hD.2⟩
    clear hP2 w1 k1 hS hD
    obtain ⟨w1,k1,hS,_,_,_,_,_,hD⟩:=id hP3
    simp (disch:=omega) [-getElem?_pos,if_pos,if_neg,decide_eq_true,decide_eq_false,f0,f1,f2]
    refine condK_use (R:=J2 H v S L a0 b0 a b) (fun hh => ?_) (fun hh => ?_) fun e env3 H4 ⟨he,pv2,hint2,M4,g13,g14,hp3,hp4,hP4⟩ hout => ?_
    ·obtain ⟨b1,hb1⟩ : ∃ b1,b1 = b - 1:=⟨_,rfl⟩
     have eb1 : (b : Int) - 1 = (b1 : Int):=by omega
     obtain ⟨x1,hx1⟩ : ∃ x1,x1 = pv - a:=⟨_,rfl⟩
     have ex1 : (pv : Int) - (a : Int) = (x1 : Int):=by omega
     obtain ⟨p2,hp2'⟩ : ∃ p2,p2 = b1 - x1:=⟨_,rfl⟩
     have ep2 : (b1 : Int) - (x1 : Int) = (p2 : Int):=by omega
     simp (disch:=omega) [-getElem?_pos,if_pos,if_neg,decide_eq_true,decide_eq_false,f0,f1,f2]
     refine (reverse_spec hD (by omega) (by omega)).mono' fun u H4 w4 ⟨N,hSN,hDN,hkN⟩ => ?_
     simp (disch:=omega) [-getElem?_pos,if_pos,if_neg,decide_eq_true,decide_eq_false,f1,f2,eb1,ex1,ep2,IntWalk.i64_in]
     exact ⟨rfl,p2,1,N,by simp,by simp,by omega,by omega,hP3.sw w4 hkN hSN hDN⟩
    ·simp (disch:=omega) [-getElem?_pos,if_pos,if_neg,decide_eq_true,decide_eq_false,]
     exact ⟨rfl,pv,hint,M2,by simp,by simp,hp1,hp2,hP3⟩
    subst he
    have g0:=hout 0 (by decide)
    have g1:=hout 1 (by decide)
    have g2:=hout 2 (by decide)
    have g3:=hout 3 (by decide)
    have g10:=hout 8 (by decide)
    have g11:=hout 9 (by decide)
    have g12:=hout 10 (by decide)
    simp [f0,f1,f2,f3,f10,f11,f12] at g0 g1 g2 g3 g10 g11 g12
    clear hout f0 f1 f2 f3 f10 f11 f12 hP3 w1 k1 hS hD hMl
    obtain ⟨w1,k1,hS,_,_,_,hOut,hLb1,hD⟩:=id hP4
    have hMl:=hS.length
    refine nextK_seq_use (R:=J3 H v S L a0 b0 a b) ?_ fun e env4 H5 hJ hout => ?_
    ·by_cases hc : wb = true ∧ wp = true ∧ hint2 = 1
     ·obtain ⟨rfl,rfl,rfl⟩:=hc
      simp (disch:=omega) [-getElem?_pos,if_pos,if_neg,decide_eq_true,decide_eq_false,g0,g1,g2,g10,g11,g14]
      refine (partialIns_spec hD (by omega) (by omega) hLb1).mono' fun u H6 w6 ⟨t,N,hu,hSN,hsN,hDN,hkN⟩ => ?_
      subst hu
      have hP6:=hP4.sw w6 hkN hSN hDN
      cases t with
      | true =>
       simp (disch:=omega) [-getElem?_pos,if_pos,if_neg,decide_eq_true,decide_eq_false,]
       exact .inr ⟨rfl,hP6.end (hsN rfl) _⟩
      | false =>
       simp (disch:=omega) [-getElem?_pos,if_pos,if_neg,decide_eq_true,decide_eq_false,]
       exact .inl ⟨rfl,N,hP6⟩
     ·have hJ : ∀ env',J3 H v S L a0 b0 a b .normal env' H4:=fun env' => .inl ⟨rfl,M4,hP4⟩
      cases wb with
      | false => simp (disch:=omega) [-getElem?_pos,if_pos,if_neg,decide_eq_true,decide_eq_false,g10,g11,g14]; exact hJ _
      | true =>
       cases wp with
       | false => simp (disch:=omega) [-getElem?_pos,if_pos,if_neg,decide_eq_true,decide_eq_false,g10,g11,g14]; exact hJ _
       | true =>
        have hn : ¬ hint2 = 1:=fun h => hc ⟨rfl,rfl,h⟩
        simp (disch:=omega) [-getElem?_pos,if_pos,if_neg,decide_eq_true,decide_eq_false,g10,g11,g14,hn]
        exact hJ _
    rcases hJ with ⟨rfl,M5,hP5⟩ | ⟨rfl,hS5⟩
    rotate_left
    ·simp (disch:=omega) [-getElem?_pos,if_pos,if_neg,decide_eq_true,decide_eq_false,]
     exact ⟨.inl rfl,hS5⟩
    have k0:=hout 0 (by decide)
    have k1':=hout 1 (by decide)
    have k2:=hout 2 (by decide)
    have k3:=hout 3 (by decide)
    have k10:=hout 8 (by decide)
    have k11:=hout 9 (by decide)
    have k12:=hout 10 (by decide)
    have k13:=hout 11 (by decide)
    rw [g0] at k0
    rw [g1] at k1'
    rw [g2] at k2
    rw [g3] at k3
    rw [g10] at k10
    rw [g11] at k11
    rw [g12] at k12
    rw [g13] at k13
    clear hout g0 g1 g2 g3 g10 g11 g12 g13 g14 hP4 w1 k1 hS hOut hLb1 hD hMl
    obtain ⟨w1,k1,hS,_,_,_,hOut,hLb1,hD⟩:=id hP5
    have hMl:=hS.length
    refine nextK_seq_use (R:=J4 H v S L a0 b0 a b H5) ?_ fun e env5 H6 hJ hout => ?_
    ·by_cases ha : 0 < a
     ·obtain ⟨a1,ha1⟩ : ∃ a1,a1 = a - 1:=⟨_,rfl⟩
      have ea1 : (a : Int) - 1 = (a1 : Int):=by omega
      obtain ⟨bb,off,sp,cap,cs,_,_,hv,q1,q2,q3,_,_,_,_,_⟩:=hD.two (i:=a1) (k:=pv2) (by omega) (by omega)
      cases hv
      have hmn:=hLb1 ha
      rw [← ha1] at hmn
      have hil : a1 < M5.length ∧ pv2 < M5.length:=by omega
      cases hz : (getE M5 a1).lt (getE M5 pv2) with
      | true =>
       have ho:=hz
       generalize getE M5 a1 = x at *
       generalize getE M5 pv2 = y at *
       simp (disch:=omega) [-getElem?_pos,if_pos,if_neg,decide_eq_true,decide_eq_false,k0,k1',k2,k13,ea1,q1,q2,q3,IntWalk.i64_in,show (0:Int) < (a:Int) by omega,show (a1:Int) < (M5.length:Int) by omega,show (pv2:Int) < (M5.length:Int) by omega]
       refine AFnD.of (LessI_spec x y) ?_
       simp (disch:=omega) [-getElem?_pos,if_pos,if_neg,decide_eq_true,decide_eq_false,ho]
       exact .inl ⟨rfl,by simp [k1'],rfl⟩
      | false =>
       have ho:=hz
       have hmin : ∀ i,a ≤ i → i < b → leE (getE M5 pv2) (getE M5 i):=fun i h1 h2 => leE.trans hz (hmn i h1 h2)
       have hpe:=partitionEq_spec hD (pv:=pv2) (by omega) (by omega) ⟨hp3,hp4⟩ hmin
       generalize getE M5 a1 = x at *
       generalize getE M5 pv2 = y at *
       simp (disch:=omega) [-getElem?_pos,if_pos,if_neg,decide_eq_true,decide_eq_false,k0,k1',k2,k13,ea1,q1,q2,q3,IntWalk.i64_in,show (0:Int) < (a:Int) by omega,show (a1:Int) < (M5.length:Int) by omega,show (pv2:Int) < (M5.length:Int) by omega]
       refine AFnD.of (LessI_spec x y) ?_
       simp (disch:=omega) [-getElem?_pos,if_pos,if_neg,decide_eq_true,decide_eq_false,ho,k0,k1',k2,k13]
       refine hpe.mono' fun u H7 w7 ⟨mid,N,hu,hE,hSN,hDN,hkN⟩ => ?_
       subst hu
       obtain ⟨n1,n2,n3,n4,n5,n6,n7,n8,n9⟩:=hP5.sw w7 hkN hSN hDN
       have hE':=hE
       obtain ⟨x1,x2,vv,x3,x4⟩:=hE'
       simp (disch:=omega) [-getElem?_pos,if_pos,if_neg,decide_eq_true,decide_eq_false,]
       refine .inr ⟨rfl,mid,N,x1,by simp,n1,n2,n3,by omega,x2,n6,n7.eq hE,fun h0 i i1 i2 => ?_,n9⟩
       rw [x3 (mid - 1) (by omega) (by omega)]
       exact x4 i (by omega) i2
     ·simp (disch:=omega) [-getElem?_pos,if_pos,if_neg,decide_eq_true,decide_eq_false,k1',show ¬ (0:Int) < (a:Int) by omega]
      exact .inl ⟨rfl,by simp [k1'],rfl⟩
    rcases hJ with ⟨rfl,l1,rfl⟩ | ⟨rfl,mid,N,hmid,l1,hPN⟩
    rotate_left
    ·have l0:=hout 0 (by decide)
     have l2:=hout 2 (by decide)
     have l3:=hout 3 (by decide)
     have l10:=hout 8 (by decide)
     have l11:=hout 9 (by decide)
     rw [k0] at l0
     rw [k2] at l2
     rw [k3] at l3
     rw [k10] at l10
     rw [k11] at l11
     simp (disch:=omega) [-getElem?_pos,if_pos,if_neg,decide_eq_true,decide_eq_false,]
     have z1 : b - mid < m:=by omega
     exact ⟨_,z1,mid,b,lim,wb,wp,N,rfl,l0,l1,l2,l3,l10,l11,hlim,hPN⟩
    have l0:=hout 0 (by decide)
    have l2:=hout 2 (by decide)
    have l3:=hout 3 (by decide)
    have l12:=hout 10 (by decide)
    have l13:=hout 11 (by decide)
    rw [k0] at l0
    rw [k2] at l2
    rw [k3] at l3
    rw [k12] at l12
    rw [k13] at l13
    clear hout k0 k1' k2 k3 k10 k11 k12 k13
    simp (disch:=omega) [-getElem?_pos,if_pos,if_neg,decide_eq_true,decide_eq_false,l0,l1,l2,l13]
    refine (partition_spec hD (pv:=pv2) (by omega) (by omega) ⟨hp3,hp4⟩).mono' fun u H7 w7 ⟨mid,t,N,hu,hpart,hSN,hDN,hkN⟩ => ?_
    subst hu
    have hP7:=hP5.sw w7 hkN hSN hDN
    obtain ⟨c1,c2,c3,c4⟩:=id hpart
    obtain ⟨x,hx⟩ : ∃ x,x = mid - a:=⟨_,rfl⟩
    obtain ⟨y,hy⟩ : ∃ y,y = b - mid:=⟨_,rfl⟩
    have ex1 : (mid : Int) - (a : Int) = (x : Int):=by omega
    have ey1 : (b : Int) - (mid : Int) = (y : Int):=by omega
    have t8 : (l : Int).tdiv 8 = ((l / 8 : Nat) : Int):=by rw [Int.tdiv_eq_ediv_of_nonneg (by omega)]; norm_cast
    obtain ⟨l8,hl8⟩ : ∃ l8,l8 = l / 8:=⟨_,rfl⟩
    rw [← hl8] at t8
    have hl86 : l8 ≤ 1000000:=by omega
    clear hl8
    obtain ⟨n1,n2,n3,n4,n5,n6,n7,n8,n9⟩:=id hP7
    have hNl:=n3.length
    have hlbr : LbI N (mid + 1) b:=fun h0 i i1 i2 => by
     rw [Nat.add_sub_cancel]; exact c4 i (by omega) i2
    obtain ⟨m1,hm1⟩ : ∃ m1,m1 = mid + 1:=⟨_,rfl⟩
    have em1 : (mid : Int) + 1 = (m1 : Int):=by omega
    by_cases hxy : x < y
    ·have hrec:=ih (mid - a) (by omega) (H:=H7) (v:=v) (L:=N) (S:=S) (a:=a) (b:=mid) (lim:=lim) rfl n9 c1 (by omega) (fun h0 i i1 i2 => n8 h0 i i1 (by omega)) hlim
     simp (disch:=omega) [-getElem?_pos,if_pos,if_neg,decide_eq_true,decide_eq_false,l0,l1,l2,l3,l12,ex1,ey1,t8,IntWalk.i64_in,show (x:Int) < (y:Int) by omega]
     refine hrec.mono' fun u H8 w8 ⟨N2,hS8,hs8,hD8,hk8⟩ => ?_
     simp (disch:=omega) [-getElem?_pos,if_pos,if_neg,decide_eq_true,decide_eq_false,em1,IntWalk.i64_in]
     obtain ⟨o1,o2,o3,o4,o5,o6,o7,o8,o9⟩:=hP7.sw w8 hk8 (hS8.mono (Nat.le_refl _) (by omega)) hD8
     have hp8:=hpart.left hS8
     have z1 : b - m1 < m:=by omega
     have z2 : OutI N2 a0 b0 m1 b:=by rw [hm1]; exact o7.left hp8 hs8
     have z3 : LbI N2 m1 b:=by
      rw [hm1]
      intro h0 i i1 i2
      rw [Nat.add_sub_cancel]; exact hp8.2.2.2 i (by omega) i2
     refine ⟨_,z1,m1,b,lim,decide ((l8 : Int) ≤ (x : Int)),t,N2,rfl,?_,?_,?_,?_,?_,?_,hlim,o1,o2,o3,by omega,by omega,o6,z2,z3,o9⟩
     ·simp [l0]
     ·simp
     ·simp [l2]
     ·simp [l3]
     ·simp
     ·simp
    ·have hrec:=ih (b - m1) (by omega) (H:=H7) (v:=v) (L:=N) (S:=S) (a:=m1) (b:=b) (lim:=lim) rfl n9 (by omega) (by omega) (by rw [hm1]; exact hlbr) hlim
     simp (disch:=omega) [-getElem?_pos,if_pos,if_neg,decide_eq_true,decide_eq_false,l0,l1,l2,l3,l12,ex1,ey1,em1,t8,IntWalk.i64_in,show ¬ (x:Int) < (y:Int) by omega]
     refine hrec.mono' fun u H8 w8 ⟨N2,hS8,hs8,hD8,hk8⟩ => ?_
     simp (disch:=omega) [-getElem?_pos,if_pos,if_neg,decide_eq_true,decide_eq_false,]
     rw [hm1] at hS8 hs8
     obtain ⟨o1,o2,o3,o4,o5,o6,o7,o8,o9⟩:=hP7.sw w8 hk8 (hS8.mono (by omega) (Nat.le_refl _)) hD8
     have hp8:=hpart.right hS8
     have z1 : mid - a < m:=by omega
     have z2 : OutI N2 a0 b0 a mid:=o7.right hp8 hs8
     have z3 : LbI N2 a mid:=fun h0 i i1 i2 => o8 h0 i i1 (by omega)
     refine ⟨_,z1,a,mid,lim,decide ((l8 : Int) ≤ (y : Int)),t,N2,rfl,?_,?_,?_,?_,?_,?_,hlim,o1,o2,o3,o4,c1,by omega,z2,z3,o9⟩
     ·simp [l0]
     ·simp [l1]
     ·simp
     ·simp [l3]
     ·simp
     ·simp
 ·rcases hex with rfl | rfl
  ·simp (disch:=omega) [-getElem?_pos,if_pos,if_neg,decide_eq_true,decide_eq_false,]
   exact hq
  ·simp (disch:=omega) [-getElem?_pos,if_pos,if_neg,decide_eq_true,decide_eq_false,]
   exact hq
end Go.Proofs.YtejifalflkbekaaDoor.Ps
/-
 Contracts of the library's sort (8): SortFunc,Values,Collect,SortedFunc; key.Sort.
-/
set_option maxRecDepth 100000
set_option linter.unusedSimpArgs false
set_option linter.unusedVariables false
namespace Go.Proofs.YtejifalflkbekaaDoor.Ps
open Go Go.Abs
theorem bl_small {x : Nat} (h : x < 1048576) : bl x ≤ 20:=by
 unfold bl
 split
 ·omega
 ·rename_i h0
  have:=(Nat.log2_lt (n:=x) (k:=20) h0).2 (by omega)
  omega
end Go.Proofs.YtejifalflkbekaaDoor.Ps
