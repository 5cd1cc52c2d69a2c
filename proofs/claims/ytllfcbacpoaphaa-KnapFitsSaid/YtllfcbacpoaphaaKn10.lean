/-
  package knap: Relax.
-/
import Derived.Test.YtllfcbacpoaphaaKn7
import Derived.Test.YtllfcbacpoaphaaKn9
set_option maxRecDepth 100000
set_option linter.unusedSimpArgs false
set_option linter.unusedVariables false
namespace Go.Abs
def rlN (L : List (Int × Int)) (room : Int) : Int:=if mayB L room then (relL L room).1 else 0
def prOf : Option (Int × Int) → Int × Int
 | none => (0,1)
 | some x => (mkNum x.1 x.2,mkDen x.1 x.2)
def rlP (L : List (Int × Int)) (room : Int) : Int × Int:=if mayB L room then prOf (relL L room).2 else (0,0)
theorem may_zero {L : List (Int × Int)} {room : Int} (h : mayB L room = true) : mayB L 0 = true:=by
 rw [mayB_iff] at h ⊢
 exact ⟨h.len,by omega,h.val⟩
end Go.Abs
namespace Go.Proofs.Ytllfcbacpoaphaa
open Go Go.Abs
def RlI (H1 : AH) (r5 : Nat) (L : List (Int × Int)) (room : Int) (v ov : Value) (k : Nat) (env : Env) (H' : AH) : Prop :=
 env 0 = some v ∧ env 5 = some (.pointer (some ⟨r5,0,none⟩)) ∧ env 19 = some ov ∧ env 20 = some (.int .i64 ((ordW L).length : Nat)) ∧ env 21 = some (.int .i64 k) ∧ WF H' ∧ Keep [] H1 H' ∧
  ∃ s r : Int,env 7 = some (.int .i64 s) ∧ env 1 = some (.int .i64 r) ∧ 0 ≤ s ∧ s ≤ (k : Int) * 2147483648 ∧ 0 ≤ r ∧ r ≤ 2147483648 ∧ relK L ((ordW L).drop k) s r = relL L room
def RlQ (H1 : AH) (r5 : Nat) (L : List (Int × Int)) (room : Int) (e : AExit) (env : Env) (H' : AH) : Prop :=
 env 5 = some (.pointer (some ⟨r5,0,none⟩)) ∧ ((e = .ret ∧ env 4 = some (.int .i64 (relL L room).1) ∧ env 6 = some (.bool true) ∧ Keep [r5] H1 H' ∧ H'.blk r5 = some (.row [.int .i64 (prOf (relL L room).2).1,.int .i64 (prOf (relL L room).2).2] T_ratio_Ratio true)) ∨
  (e = .exit 0 ∧ Keep [] H1 H' ∧ env 7 = some (.int .i64 (relL L room).1) ∧ (relL L room).2 = none))
theorem relax_l0 {H1 : AH} {r5 : Nat} {L : List (Int × Int)} {room : Int} {v ov : Value} (hw : WF H1) (h5 : H1.blk r5 = some (.row [.int .i64 0,.int .i64 0] T_ratio_Ratio true)) (hL : SlV (fun b => b ≠ r5) H1 v L) (hO : SlV (fun b => b ≠ r5) H1 ov (ordW L)) (hok : ItOk L room) (hl : L.length ≤ 40) {env : Env} (h : RlI H1 r5 L room v ov 0 env H1) :
  wpC Try.prog 62 (.loop ir_knap_Relax_l0) (RlQ H1 r5 L room) env H1:=by
 have hol:=ordW_len hok.wt
 refine loop_upto (ordW L).length (RlI H1 r5 L room v ov) (Q:=RlQ H1 r5 L room) h ?_
 rintro k env H' hk ⟨e0,e5,e19,e20,e21,w',k',s,r,e7,e1,hs0,hs1,hr0,hr1,hrel⟩
 have hn':=k'.next
 have hr5:=hw.lt h5
 by_cases hkn : k < (ordW L).length
 ·have hO':=hO.kept hw k'
  have hL':=hL.kept hw k'
  obtain ⟨b0,off,sp,cap,cs,hcv,q1,q2⟩:=ints_rd hO' (by omega)
  obtain ⟨q3,_⟩:=q2 k hkn
  have hmem : (ordW L)[k] ∈ ordW L:=List.getElem_mem hkn
  obtain ⟨hm0,hm1⟩:=(ordW_mem hok.wt).1 hmem
  obtain ⟨m,hm⟩ : ∃ m : Nat,(ordW L)[k] = (m : Int):=⟨((ordW L)[k]).toNat,by omega⟩
  have hml : m < L.length:=by omega
  obtain ⟨b1,off1,sp1,cap1,cs1,hcv1,p1,p2⟩:=pairs_rd hL' (by omega)
  obtain ⟨p3,_,_,p4,p5⟩:=p2 m hml
  have hdr : (ordW L).drop k = (m : Int) :: (ordW L).drop (k + 1):=by rw [List.drop_eq_getElem_cons hkn,hm]
  have hit : itm L (m : Int) = L[m]:=itm_get hml
  have hval:=hok.val L[m] (List.getElem_mem hml)
  rw [hdr,relK,hit] at hrel
  rw [hm] at q3
  subst hcv hcv1
  have hb5 : H'.blk r5 = some (.row [.int .i64 0,.int .i64 0] T_ratio_Ratio true):=(k'.blk r5 hr5 (by simp)).trans h5
  obtain ⟨n,hn⟩ : ∃ n,n = (ordW L).length:=⟨_,rfl⟩
  have hkn' : k < n:=by omega
  have hml' : (m : Int) < (L.length : Int):=by omega
  have hmk:=fun H => Make_spec (H:=H) (n:=L[m].1) (d:=L[m].2) (by unfold I64; omega) (by unfold I64; omega)
  have hx1:=hval.1
  have hx2:=hval.2
  have hk40 : (k : Int) ≤ 40:=by omega
  by_cases hlt : r < L[m].2
  ·rw [if_pos hlt] at hrel
   have hpr : prOf (relL L room).2 = (mkNum L[m].1 L[m].2,mkDen L[m].1 L[m].2):=by rw [← hrel]; rfl
   have hre : (relL L room).1 = s + L[m].1 * r / L[m].2:=by rw [← hrel]
   have hq0 : 0 ≤ L[m].1 * r / L[m].2:=Int.ediv_nonneg (Int.mul_nonneg hx1.1 hr0) hx2.1
   have hq1 : L[m].1 * r / L[m].2 ≤ L[m].1:=by
    refine Int.ediv_le_of_le_mul (by omega) ?_
    exact Int.mul_le_mul_of_nonneg_left (by omega) hx1.1
   have hm1' : L[m].1 * r ≤ 2147483648 * 2147483648:=Int.mul_le_mul hx1.2 hr1 hr0 (by omega)
   have hm0' : 0 ≤ L[m].1 * r:=Int.mul_nonneg hx1.1 hr0
   have hwm : IntKind.i64.wrap (L[m].1 * r) = L[m].1 * r:=IntWalk.i64_in _ (by omega)
   have htd : Int.tdiv (L[m].1 * r) L[m].2 = L[m].1 * r / L[m].2:=Int.tdiv_eq_ediv_of_nonneg hm0'
   unfold RlQ
   rw [hre,hpr]
   clear hre hpr hrel hm1' hm0'
   generalize mkNum L[m].1 L[m].2 = pn at *
   generalize mkDen L[m].1 L[m].2 = pd at *
   generalize mkOk L[m].1 L[m].2 = po at *
   generalize L[m] = x at *
   obtain ⟨x0,x1⟩:=x
   simp only at *
   generalize hpr : x0 * r = pr at *
   generalize pr / x1 = qq at *
   have hx1n : ¬ x1 = 0:=by omega
   have hx1n':=eq_false hx1n
   have hwq : IntKind.i64.wrap qq = qq:=IntWalk.i64_in _ (by omega)
   have hws : IntKind.i64.wrap (s + qq) = s + qq:=IntWalk.i64_in _ (by omega)
   simp (disch:=omega) [-getElem?_pos,if_pos,if_neg,decide_eq_true,decide_eq_false,ir_knap_Relax_l0,e0,e1,e5,e7,e19,e20,e21,hkn,q1,q3,p1,p3,hml,hml',hlt,writeA,over,cut2i]
   generalize hH2 : AH.alloc H' _ = Hc
   have kc : Keep [] H' Hc:=by rw [← hH2]; exact .alloc
   have wc : WF Hc:=by rw [← hH2]; exact w'.alloc
   have nc : Hc.next = H'.next + 1:=by rw [← hH2]; simp
   have cc : Hc.cells H'.next = some [.int .i64 x0,.int .i64 x1]:=by rw [← hH2]; simp
   clear hH2
   refine (hmk _).mono' fun u H2 w2 ⟨hu,k2⟩ => ?_
   subst hu
   have n2:=k2.next
   have c10:=cells_kept wc k2 cc
   have kk2:=kc.trans' k2
   have hb52:=(kk2.blk r5 (by omega) (by simp)).trans hb5
   have hne1 : r5 ≠ H2.next:=by omega
   have hne2 : H'.next ≠ H2.next:=by omega
   have c10' : (H2.alloc (.row [.int .i64 pn,.int .i64 pd] T_ratio_Ratio true)).cells H'.next = some [.int .i64 x0,.int .i64 x1]:=by rw [AH.cells_alloc_ne hne2]; exact c10
   simp (disch:=omega) [-getElem?_pos,if_pos,if_neg,decide_eq_true,decide_eq_false,writeA,over,cut2i,e1,e5,e7,c10',hx1n',hpr,hwm,hwq,htd,hws,hb52]
   exact ⟨by simp; omega,fun b hb hb5 => by
    have h1 : b ≠ r5:=by simpa using hb5
    rw [AH.set_blk_ne h1,AH.alloc_blk_ne (by omega),kk2.blk b (by omega) (by simp),k'.blk b hb (by simp)]⟩
  ·rw [if_neg hlt] at hrel
   have hws : IntKind.i64.wrap (s + L[m].1) = s + L[m].1:=IntWalk.i64_in _ (by omega)
   have hwr : IntKind.i64.wrap (r - L[m].2) = r - L[m].2:=IntWalk.i64_in _ (by omega)
   generalize L[m] = x at *
   obtain ⟨x0,x1⟩:=x
   simp only at *
   simp (disch:=omega) [-getElem?_pos,if_pos,if_neg,decide_eq_true,decide_eq_false,ir_knap_Relax_l0,e0,e1,e5,e7,e19,e20,e21,hkn,q1,q3,p1,p3,hml,hml',hlt,writeA,over,cut2i,hws,hwr,IntWalk.i64_in]
   exact ⟨by simp [e0],by simp [e5],by simp [e19],by simp [e20],by simp,w'.alloc,k'.trans' .alloc,s + x0,r - x1,by simp,by simp,by omega,by omega,by omega,by omega,hrel⟩
 ·obtain rfl : k = (ordW L).length:=by omega
  rw [List.drop_length,relK] at hrel
  simp (disch:=omega) [-getElem?_pos,if_pos,if_neg,decide_eq_true,decide_eq_false,ir_knap_Relax_l0,e20,e21]
  refine ⟨by simp [e5],.inr ⟨rfl,k',?_,?_⟩⟩
  ·simp [e7,← hrel]
  ·rw [← hrel]
def rlV (L : List (Int × Int)) (room : Int) : Value:=.tuple #[.int .i64 (rlN L room),.agg #[.int .i64 (rlP L room).1,.int .i64 (rlP L room).2],.bool (mayB L room)]
theorem Relax_spec {H : AH} {v : Value} {L : List (Int × Int)} {room : Int} (hL : SlV (fun b => b < H.next) H v L) (hl : L.length ≤ 40) : AFn Try.prog F_knap_Relax [v,.int .i64 room] H fun u H' => u = rlV L room ∧ Keep [] H H':=by
 refine AFn.enter mixed ir_knap_Relax_eq (by simp [ir_knap_Relax]) fun hw => ?_
 obtain ⟨va,vc,rfl⟩:=hL.slice
 unfold rlV
 simp (disch:=omega) [-getElem?_pos,if_pos,if_neg,decide_eq_true,decide_eq_false,ir_knap_Relax]
 generalize hH1 : AH.alloc H _ = H1
 have k1 : Keep [] H H1:=by rw [← hH1]; exact .alloc
 have w1 : WF H1:=by rw [← hH1]; exact hw.alloc
 have n1 : H1.next = H.next + 1:=by rw [← hH1]; simp
 have b1 : H1.blk H.next = some (.row [.int .i64 0,.int .i64 0] T_ratio_Ratio true):=by rw [← hH1]; exact AH.alloc_blk_new
 clear hH1
 have hL1:=(hL.kept hw k1)
 refine AFn.pure (may_spec hL1 room) ?_
 have hrn : rlN L room = if mayB L room then (relL L room).1 else 0:=rfl
 have hrp : rlP L room = if mayB L room then prOf (relL L room).2 else (0,0):=rfl
 rw [hrn,hrp]
 cases hm : mayB L room with
 | false =>
  have c1:=AH.cells_of b1
  simp (disch:=omega) [-getElem?_pos,if_pos,if_neg,decide_eq_true,decide_eq_false,writeA,over,cut2i,b1]
  exact ⟨by simp; omega,fun b hb _ => by rw [AH.set_blk_ne (by omega),k1.blk b hb (by simp)]⟩
 | true =>
  have hok:=mayB_iff.1 hm
  have ho : ordL L = ordW L:=by unfold ordL; rw [may_zero hm]; rfl
  simp (disch:=omega) [-getElem?_pos,if_pos,if_neg,decide_eq_true,decide_eq_false,]
  refine (Order_spec (hL1.mono fun b hb => by omega) hl).mono' fun u H2 w2 ⟨hO,k2⟩ => ?_
  rw [ho] at hO
  have n2:=k2.next
  obtain ⟨oa,oc,rfl⟩:=hO.slice
  have b2:=(k2.blk H.next (by omega) (by simp)).trans b1
  simp (disch:=omega) [-getElem?_pos,if_pos,if_neg,decide_eq_true,decide_eq_false,]
  refine wpC_use (relax_l0 (H1:=H2) (r5:=H.next) (L:=L) (room:=room) (v:=.slice va L.length vc) (ov:=.slice oa (ordW L).length oc) w2 b2 ((hL1.kept w1 k2).mono fun b hb => by omega) (hO.mono fun b hb => by omega) hok hl ⟨by simp,by simp,by simp,by simp,by simp,w2,.refl,0,room,by simp,by simp,by omega,by omega,hok.room.1,hok.room.2,rfl⟩) ?_
  rintro e env3 H3 ⟨f5,⟨rfl,f4,f6,k3,b3⟩ | ⟨rfl,k3,f7,hpn⟩⟩ _
  ·have c3:=AH.cells_of b3
   generalize (prOf (relL L room).2).1 = p1 at *
   generalize (prOf (relL L room).2).2 = p2 at *
   simp (disch:=omega) [-getElem?_pos,if_pos,if_neg,decide_eq_true,decide_eq_false,f4,f5,f6,c3,cut2i]
   have n3:=k3.next
   exact ⟨by omega,fun b hb _ => by rw [k3.blk b (by omega) (by simp; omega),k2.blk b (by omega) (by simp),k1.blk b hb (by simp)]⟩
  ·have n3:=k3.next
   have b3:=(k3.blk H.next (by omega) (by simp)).trans b2
   rw [hpn]
   simp (disch:=omega) [-getElem?_pos,if_pos,if_neg,decide_eq_true,decide_eq_false,f7,f5]
   refine AFn.pure (Of_ratio_spec 0) ?_
   simp (disch:=omega) [-getElem?_pos,if_pos,if_neg,decide_eq_true,decide_eq_false,f7,f5,writeA,over,cut2i,b3,prOf]
   exact ⟨by simp; omega,fun b hb _ => by rw [AH.set_blk_ne (by omega),k3.blk b (by omega) (by simp),k2.blk b (by omega) (by simp),k1.blk b hb (by simp)]⟩
end Go.Proofs.Ytllfcbacpoaphaa
