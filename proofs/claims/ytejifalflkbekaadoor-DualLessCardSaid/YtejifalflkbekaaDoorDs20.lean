/-
  package dual: Essential.
-/
import Derived.Test.YtejifalflkbekaaDoorDs19
import Derived.Test.YtejifalflkbekaaDoorGrow
import Derived.Test.YtejifalflkbekaaDoorLs
set_option maxRecDepth 100000
set_option linter.unusedSimpArgs false
set_option linter.unusedVariables false
namespace Go.Proofs.YtejifalflkbekaaDoor
open Go Go.Abs Go.Proofs.YtejifalflkbekaaDoor.Bs
theorem setB_lt {p : Nat → Prop} {H : AH} {v : Value} {B : List Bool} (hw : WF H) (h : SetB p H v B) : SetB (fun b => p b ∧ b < H.next) H v B:=setB_old hw h
theorem setB_over {p : Nat → Prop} {H H' : AH} {v : Value} {B : List Bool} (h : SetB p H v B) (hb : ∀ b,p b → H'.blk b = H.blk b) : SetB p H' v B:=h.up2 (fun _ h => h) fun b hb2 cs hcs => by unfold AH.cells at hcs ⊢; rw [hb b hb2]; exact hcs
/-! ### once,more -/
def EsI (H1 : AH) (p5 p6 : Nat) (hv : Value) (L : List SetD) (T : List Bool) (k : Nat) (env : Env) (H' : AH) : Prop :=
 env 5 = some (.pointer (some ⟨p5,0,none⟩)) ∧ env 6 = some (.pointer (some ⟨p6,0,none⟩)) ∧ env 27 = some hv ∧ env 28 = some (.int .i64 L.length) ∧ env 29 = some (.int .i64 k) ∧ WF H' ∧ Keep [p5,p6] H1 H' ∧ SetIn (fun b => b ≠ p5 ∧ b ≠ p6) H' p5 (onceB L T k) ∧ SetIn (fun b => b ≠ p5 ∧ b ≠ p6) H' p6 (moreB L T k)
def EsQ (H1 : AH) (p5 p6 : Nat) (L : List SetD) (T : List Bool) (x : AExit) (env : Env) (H' : AH) : Prop :=
 x = .exit 0 ∧ env 6 = some (.pointer (some ⟨p6,0,none⟩)) ∧ WF H' ∧ Keep [p5,p6] H1 H' ∧ SetIn (fun b => b ≠ p5 ∧ b ≠ p6) H' p6 (moreB L T L.length)
theorem ess_l1 {H1 : AH} {p5 p6 : Nat} {hv : Value} {L : List SetD} {T : List Bool} (h5 : p5 < H1.next) (h6 : p6 < H1.next) (h56 : p5 ≠ p6) (hw : WF H1) (hH : SlV (fun b => b ≠ p5 ∧ b ≠ p6) H1 hv (lksB L T)) (hl : L.length ≤ 30) {env : Env} (h : EsI H1 p5 p6 hv L T 0 env H1) :
  wpC Tryd.prog 60 (.loop ir_dual_Essential_l1) (EsQ H1 p5 p6 L T) env H1:=by
 have hll : (lksB L T).length = L.length:=by simp [lksB]
 refine loop_upto L.length (EsI H1 p5 p6 hv L T) (Q:=EsQ H1 p5 p6 L T) h ?_
 rintro k env H' hk ⟨e5,e6,e27,e28,e29,w',k',⟨so,bo,hso⟩,⟨sm,bm,hsm⟩⟩
 have hn':=k'.next
 by_cases hkn : k < L.length
 ·have hsub : Sub (fun b => b ≠ p5 ∧ b ≠ p6) H1 H':=.keep hw k' fun b hb hc => by simp at hb; omega
  obtain ⟨b0,off,sp,cap,cs,rfl,q1,q2⟩:=bss_rd (hH.sub hsub) (by omega)
  obtain ⟨sk,q3,q4⟩:=q2 k (by omega)
  have hbk : (lksB L T)[k]'(by omega) = ⟨lkB T L[k]⟩:=by simp [lksB]
  rw [hbk] at q3 q4
  have ho1:=once_step (T:=T) hkn
  have hm1:=more_step (T:=T) hkn
  have hlo : (onceB L T k).length = T.length:=mapB_len
  have hlm : (moreB L T k).length = T.length:=mapB_len
  have hlo1 : (onceB L T (k + 1)).length = T.length:=mapB_len
  have hlm1 : (moreB L T (k + 1)).length = T.length:=mapB_len
  have hlk : (lkB T L[k]).length = T.length:=lkB_len
  rw [hlo] at bo hso
  rw [hlm] at bm hsm
  simp only [hlk] at q3 q4
  generalize lkB T L[k] = K at *
  generalize onceB L T k = O at *
  generalize moreB L T k = M at *
  generalize hO1 : onceB L T (k + 1) = O1 at *
  generalize hM1 : moreB L T (k + 1) = M1 at *
  obtain ⟨H2,hH2⟩ : ∃ H2,H2 = H'.alloc (.row [.int .i64 T.length,sk] T_bitset_Set true):=⟨_,rfl⟩
  have k2 : Keep [] H' H2:=by rw [hH2]; exact .alloc
  have w2 : WF H2:=by rw [hH2]; exact w'.alloc
  have n2 : H2.next = H'.next + 1:=by rw [hH2]; rfl
  have c2 : H2.cells H'.next = some [.int .i64 T.length,sk]:=by rw [hH2]; exact AH.cells_alloc_new
  have bo2:=(k2.blk p5 (by omega) (by simp)).trans bo
  have bm2:=(k2.blk p6 (by omega) (by simp)).trans bm
  have co2:=AH.cells_of bo2
  have cm2:=AH.cells_of bm2
  have hK2:=q4.kept' w' k2
  have hO2:=hso.kept' w' k2
  have hM2:=hsm.kept' w' k2
  have hk1:=q4.one
  rw [hll]
  have hp5:=eq_false (show ¬ p5 = H'.next by omega)
  have hp6:=eq_false (show ¬ p6 = H'.next by omega)
  simp (disch:=omega) [-getElem?_pos,if_pos,if_neg,decide_eq_true,decide_eq_false,ir_dual_Essential_l1,e5,e6,e27,e28,e29,q1,q3,hkn,writeA,over,cut2v,hk1.1,hk1.2,hp5,hp6,AH.cells_of bo,AH.cells_of bm]
  rw [← hH2]
  refine AFnD.from (Or_spec hO2 hK2) fun u H3 w3 ⟨r3,k3⟩ => ⟨k3.grow w2,?_⟩
  rw [← ho1] at r3
  obtain ⟨s3,rfl⟩:=setV r3
  have n3:=k3.next
  have c23:=cells_kept w2 k3 c2
  have co3:=cells_kept w2 k3 co2
  have cm3:=cells_kept w2 k3 cm2
  simp (disch:=omega) [-getElem?_pos,if_pos,if_neg,decide_eq_true,decide_eq_false,co3,cm3,c23,cut2v]
  refine AFnD.from (And_spec (hO2.kept' w2 k3) (hK2.kept' w2 k3)) fun u H4 w4 ⟨r4,k4⟩ => ⟨k4.grow w3,?_⟩
  obtain ⟨s4,rfl⟩:=setV r4
  have n4:=k4.next
  have k24:=k3.trans' k4
  simp (disch:=omega) [-getElem?_pos,if_pos,if_neg,decide_eq_true,decide_eq_false,]
  refine AFnD.from (Or_spec (hM2.kept' w2 k24) (r4.up2 (q:=fun b => b ≠ p5 ∧ b ≠ p6) (fun b hb => ⟨by omega,by omega⟩) .refl)) fun u H5 w5 ⟨r5,k5⟩ => ⟨k5.grow w4,?_⟩
  rw [← hm1] at r5
  obtain ⟨s5,rfl⟩:=setV r5
  have n5:=k5.next
  have k25:=k24.trans' k5
  have k35:=k4.trans' k5
  have bo5:=(k25.blk p5 (by omega) (by simp)).trans bo2
  have bm5:=(k25.blk p6 (by omega) (by simp)).trans bm2
  have r3':=(r3.kept' w3 k35)
  rw [hlo1] at r3' ⊢
  rw [hlm1] at r5 ⊢
  have hb6 : (H5.set p5 (.row [.int .i64 T.length,s3] T_bitset_Set true)).blk p6 = some (.row [.int .i64 T.length,sm] T_bitset_Set true):=by rw [AH.set_blk_ne (Ne.symm h56)]; exact bm5
  obtain ⟨H7,hH7⟩ : ∃ H7,H7 = (H5.set p5 (.row [.int .i64 T.length,s3] T_bitset_Set true)).set p6 (.row [.int .i64 T.length,s5] T_bitset_Set true):=⟨_,rfl⟩
  have w7 : WF H7:=by rw [hH7]; exact (w5.set (by omega)).set (by show p6 < H5.next; omega)
  have k17 : Keep [p5,p6] H1 H7:=by rw [hH7]; exact (k'.trans' ((k2.trans' k25).mono (by simp))).trans' (.trans' (.set (by simp)) (.set (by simp)))
  have f7 : ∀ b,b ≠ p5 ∧ b ≠ p6 → H7.blk b = H5.blk b:=fun b hb => by rw [hH7,AH.set_blk_ne hb.2,AH.set_blk_ne hb.1]
  have s57 : SetIn (fun b => b ≠ p5 ∧ b ≠ p6) H7 p5 O1:=⟨s3,by rw [hlo1,hH7,AH.set_blk_ne h56]; exact AH.set_blk_same,by rw [hlo1]; exact setB_over (r3'.up2 (fun b hb => ⟨by omega,by omega⟩) .refl) f7⟩
  have s67 : SetIn (fun b => b ≠ p5 ∧ b ≠ p6) H7 p6 M1:=⟨s5,by rw [hlm1,hH7]; exact AH.set_blk_same,by rw [hlm1]; exact setB_over (r5.up2 (fun b hb => ⟨by omega,by omega⟩) .refl) f7⟩
  simp (disch:=omega) [-getElem?_pos,if_pos,if_neg,decide_eq_true,decide_eq_false,e5,e6,e29,writeA_row bo5,writeA_row hb6,over,r3'.one.1,r3'.one.2,r5.one.1,r5.one.2,hkn,IntWalk.i64_in]
  rw [← hH7]
  exact ⟨by simp [e5],by simp [e6],by simp [e27,hll],by simp [e28],by simp,w7,k17,by rw [hO1]; exact s57,by rw [hM1]; exact s67⟩
 ·obtain rfl : k = L.length:=by omega
  simp (disch:=omega) [-getElem?_pos,if_pos,if_neg,decide_eq_true,decide_eq_false,ir_dual_Essential_l1,e28,e29]
  exact ⟨rfl,e6,w',k',sm,bm,hsm⟩
def EkI (H1 : AH) (p6 : Nat) (hv : Value) (L : List SetD) (T : List Bool) (k : Nat) (env : Env) (H' : AH) : Prop :=
 env 6 = some (.pointer (some ⟨p6,0,none⟩)) ∧ env 42 = some hv ∧ env 43 = some (.int .i64 L.length) ∧ env 44 = some (.int .i64 k) ∧ WF H' ∧ Keep [] H1 H' ∧ ∃ a S,env 10 = some a ∧ OwnL (fun _ => False) H' T_int a (selK (essB L T) k) S ∧ ∀ c ∈ S,H1.next ≤ c
def EkQ (H1 : AH) (L : List SetD) (T : List Bool) (x : AExit) (env : Env) (H' : AH) : Prop :=
 x = .exit 2 ∧ WF H' ∧ Keep [] H1 H' ∧ ∃ a S,env 10 = some a ∧ OwnL (fun _ => False) H' T_int a (selK (essB L T) L.length) S ∧ ∀ c ∈ S,H1.next ≤ c
theorem ess_l0 {p : Nat → Prop} {H1 : AH} {p6 : Nat} {hv : Value} {L : List SetD} {T : List Bool} (hw : WF H1) (hH : SlV p H1 hv (lksB L T)) (hset : SetIn p H1 p6 (moreB L T L.length)) (hl : L.length ≤ 30) {env : Env} (h : EkI H1 p6 hv L T 0 env H1) :
  wpC Tryd.prog 60 (.loop ir_dual_Essential_l0) (EkQ H1 L T) env H1:=by
 have hll : (lksB L T).length = L.length:=by simp [lksB]
 refine loop_upto L.length (EkI H1 p6 hv L T) (Q:=EkQ H1 L T) h ?_
 rintro k env H' hk ⟨e6,e42,e43,e44,w',k',a,S,e10,hA,hS⟩
 have hn':=k'.next
 by_cases hkn : k < L.length
 ·obtain ⟨sm,bm,hsm⟩:=hset
  obtain ⟨b0,off,sp,cap,cs,rfl,q1,q2⟩:=bss_rd (hH.kept hw k') (by omega)
  obtain ⟨sk,q3,q4⟩:=q2 k (by omega)
  have hbk : (lksB L T)[k]'(by omega) = ⟨lkB T L[k]⟩:=by simp [lksB]
  rw [hbk] at q3 q4
  have hes:=ess_iff (T:=T) hkn
  have hlm : (moreB L T L.length).length = T.length:=mapB_len
  have hlk : (lkB T L[k]).length = T.length:=lkB_len
  rw [hlm] at bm hsm
  simp only [hlk] at q3 q4
  have hs1:=selK_succ (essB L T) k
  have hl1:=selK_len (essB L T) k
  obtain ⟨H2,hH2⟩ : ∃ H2,H2 = H'.alloc (.row [.int .i64 T.length,sk] T_bitset_Set true):=⟨_,rfl⟩
  have k2 : Keep [] H' H2:=by rw [hH2]; exact .alloc
  have w2 : WF H2:=by rw [hH2]; exact w'.alloc
  have n2 : H2.next = H'.next + 1:=by rw [hH2]; rfl
  have k12:=k'.trans' k2
  have cm:=cells_kept hw k' (AH.cells_of bm)
  have hp6:=eq_false (Nat.ne_of_lt (cells_lt w' cm))
  have hk1:=q4.one
  have hK2:=q4.kept' w' k2
  have hM2:=hsm.kept' hw k12
  obtain ⟨aa,ac,rfl⟩:=hA.slice
  rw [hll]
  simp (disch:=omega) [-getElem?_pos,if_pos,if_neg,decide_eq_true,decide_eq_false,ir_dual_Essential_l0,e6,e10,e42,e43,e44,q1,q3,hkn,writeA,over,cut2v,hk1.1,hk1.2,hp6,cm]
  rw [← hH2]
  refine (Less_spec hK2 hM2).mono' fun u H3 w3 ⟨r3,k3⟩ => ?_
  have n3:=k3.next
  have k23:=k2.trans' k3
  have k13:=k'.trans' k23
  have hcnt:=Count_spec r3
  obtain ⟨s3,rfl⟩:=setV r3
  have hA3:=hA.kept w' k23
  generalize (eachB (fun a b => a && !b) (lkB T L[k]) (moreB L T L.length)).count true = cb at *
  simp (disch:=omega) [-getElem?_pos,if_pos,if_neg,decide_eq_true,decide_eq_false,r3.one.1,r3.one.2]
  refine AFn.pure hcnt ?_
  by_cases hz : 0 < cb
  ·have hz2 : (0 : Int) < (cb : Int):=by omega
   rw [decide_eq_true hz] at hes
   rw [hes,if_pos rfl] at hs1
   obtain ⟨va,vc,H4,S',p1,w4,hA4,k4,hS4,_,_⟩:=push_int w3 hA3 k13 hS (a:=(k : Int)) (by unfold I64; omega) (by omega)
   have pE : elemsA (H3.alloc (.row [.int .i64 (k : Int)] T_int true)) 1 (.slice (some ⟨H3.next,0,none⟩) 1 1) = some [.int .i64 (k : Int)]:=elems_one rfl
   simp (disch:=omega) [-getElem?_pos,if_pos,if_neg,decide_eq_true,decide_eq_false,hz2,e10,e44,pE,p1,hkn,IntWalk.i64_in]
   refine ⟨by simp [e6],by simp [e42,hll],by simp [e43],by simp,w4,k4,_,S',by simp; rfl,?_,hS4⟩
   rw [hs1]; simpa using hA4
  ·have hz2 : ¬ (0 : Int) < (cb : Int):=by omega
   rw [decide_eq_false hz] at hes
   rw [hes,if_neg (by simp)] at hs1
   simp (disch:=omega) [-getElem?_pos,if_pos,if_neg,decide_eq_true,decide_eq_false,hz2,e44,hkn,IntWalk.i64_in]
   refine ⟨by simp [e6],by simp [e42,hll],by simp [e43],by simp,w3,k13,_,S,by simp [e10]; rfl,?_,hS⟩
   rw [hs1]; exact hA3
 ·obtain rfl : k = L.length:=by omega
  simp (disch:=omega) [-getElem?_pos,if_pos,if_neg,decide_eq_true,decide_eq_false,ir_dual_Essential_l0,e43,e44]
  exact ⟨rfl,w',k',a,S,e10,hA,hS⟩
def NewI (H : AH) (X : List Int) (u : Value) (H' : AH) : Prop:=SlV (fun b => H.next ≤ b ∧ b < H'.next) H' u X ∧ Keep [] H H'
theorem Essential_spec {H : AH} {sv lv : Value} {L : List SetD} {T : List Bool} (hs : SetB (fun b => b < H.next) H sv T) (hL : SlV (fun b => b < H.next) H lv L) (hn : T.length ≤ 12) (hl : L.length ≤ 30) (hel : ∀ s ∈ L,s.elems.length ≤ 30) : AFn Tryd.prog F_dual_Essential [sv,lv] H (NewI H (esA L T)):=by
 obtain ⟨sl,rfl⟩:=setV hs
 obtain ⟨la,lc,rfl⟩:=hL.slice
 refine AFn.enter mixed ir_dual_Essential_eq (by simp [ir_dual_Essential]) fun hw => ?_
 obtain ⟨H1,hH1⟩ : ∃ H1,H1 = H.alloc (.row [.int .i64 T.length,sl] T_bitset_Set true):=⟨_,rfl⟩
 have k1 : Keep [] H H1:=by rw [hH1]; exact .alloc
 have w1 : WF H1:=by rw [hH1]; exact hw.alloc
 have n1 : H1.next = H.next + 1:=by rw [hH1]; rfl
 have c1 : H1.cells H.next = some [.int .i64 T.length,sl]:=by rw [hH1]; exact AH.cells_alloc_new
 have hs1:=hs.kept' hw k1
 have hL1:=hL.kept hw k1
 have hea : esA L T = if mayD T.length L then selK (essB L T) L.length else []:=rfl
 rw [hea]
 simp (disch:=omega) [-getElem?_pos,if_pos,if_neg,decide_eq_true,decide_eq_false,ir_dual_Essential,hs.one.1,hs.one.2,cut2v]
 rw [← hH1]
 refine AFn.pure (Size_spec hs1) ?_
 simp (disch:=omega) [-getElem?_pos,if_pos,if_neg,decide_eq_true,decide_eq_false,]
 refine AFn.pure (may_spec (n:=(T.length : Int)) (by unfold I64; omega) hL1) ?_
 cases hm : mayD T.length L with
 | false =>
  simp (disch:=omega) [-getElem?_pos,if_pos,if_neg,decide_eq_true,decide_eq_false,]
  exact ⟨.nil,k1⟩
 | true =>
  have hD:=mayD_ok hm
  rw [if_pos rfl]
  simp (disch:=omega) [-getElem?_pos,if_pos,if_neg,decide_eq_true,decide_eq_false,c1,cut2v]
  obtain ⟨p,hp⟩ : ∃ p,p = H1.next:=⟨_,rfl⟩
  obtain ⟨Hb,hHb⟩ : ∃ Hb,Hb = ((H1.room 10).set (H1.next + 6) (.row [.int .i64 0,.slice none 0 0] T_bitset_Set true)).set (H1.next + 7) (.row [.int .i64 0,.slice none 0 0] T_bitset_Set true):=⟨_,rfl⟩
  have wb : WF Hb:=by rw [hHb]; exact ((WF.room w1).set (by simp)).set (by simp)
  have nb : Hb.next = p + 10:=by rw [hHb,hp]; simp
  have kb : Keep [] H1 Hb:=by rw [hHb]; exact .new_set (by omega) (.new_set (by omega) .room)
  have b6 : Hb.blk (p + 6) = some (.row [.int .i64 0,.slice none 0 0] T_bitset_Set true):=by rw [hHb,hp,AH.set_blk_ne (by omega)]; exact AH.set_blk_same
  have b7 : Hb.blk (p + 7) = some (.row [.int .i64 0,.slice none 0 0] T_bitset_Set true):=by rw [hHb,hp]; exact AH.set_blk_same
  have hsb:=hs1.kept' w1 kb
  rw [← hHb,← hp]
  have up : ∀ {Ha Hx : AH},SetB (fun b => b < H.next) Ha (.agg #[.int .i64 T.length,sl]) T → (∀ b,b ∉ [p + 6,p + 7] → Hx.blk b = Ha.blk b) → SetB (fun b => b < H.next) Hx (.agg #[.int .i64 T.length,sl]) T:=fun h hx => setB_over h fun b hb => hx b (by simp; omega)
  refine callM_new [p + 6,p + 7] [H.next] good_bitset_Set_Less rfl (by unfold mind; simp) wb (by simp; omega) (by simp; omega) (Q:=fun u H' => SetB (fun b => Hb.next ≤ b ∧ b < H'.next) H' u (eachB (fun a b => a && !b) T T))
   (fun Hx hxw hxn hxb => (Less_spec (up hsb hxb) (up hsb hxb)).mono' fun u H' w' ⟨r,k⟩ => ⟨hxn ▸ setB_lt w' r,k⟩) fun uo H2 G1 wG1 kG1 nG1 gb1 q1 => ?_
  have r1 : SetB (fun b => Hb.next ≤ b ∧ b < G1.next) G1 uo (eachB (fun a b => a && !b) T T):=(setB_over q1 fun b hb => gb1 b hb.1).up2 (fun b hb => by omega) .refl
  obtain ⟨so,rfl⟩:=setV r1
  have m1:=kG1.next
  simp (disch:=omega) [-getElem?_pos,if_pos,if_neg,decide_eq_true,decide_eq_false,]
  refine callM_new [p + 6,p + 7] [H.next] good_bitset_Set_Less rfl (by unfold mind; simp) wG1 (by simp; omega) (by simp; omega) (Q:=fun u H' => SetB (fun b => G1.next ≤ b ∧ b < H'.next) H' u (eachB (fun a b => a && !b) T T))
   (fun Hx hxw hxn hxb => (Less_spec (up (hsb.kept' wb kG1) hxb) (up (hsb.kept' wb kG1) hxb)).mono' fun u H' w' ⟨r,k⟩ => ⟨hxn ▸ setB_lt w' r,k⟩) fun um H3 G2 wG2 kG2 nG2 gb2 q2 => ?_
  have r2 : SetB (fun b => G1.next ≤ b ∧ b < G2.next) G2 um (eachB (fun a b => a && !b) T T):=(setB_over q2 fun b hb => gb2 b hb.1).up2 (fun b hb => by omega) .refl
  obtain ⟨sm,rfl⟩:=setV r2
  have m2:=kG2.next
  have kG:=kG1.trans' kG2
  have b6':=(kG.blk (p + 6) (by omega) (by simp)).trans b6
  have b7':=(kG.blk (p + 7) (by omega) (by simp)).trans b7
  have r1':=r1.kept' wG1 kG2
  obtain ⟨z1,z2⟩:=once_zero (L:=L) (T:=T)
  rw [self_less,← z1] at r1'
  rw [self_less,← z2] at r2
  have l1 : (onceB L T 0).length = T.length:=mapB_len
  have l2 : (moreB L T 0).length = T.length:=mapB_len
  have l0 : (eachB (fun a b => a && !b) T T).length = T.length:=by rw [self_less]; exact mapB_len
  rw [l1] at r1'
  rw [l2] at r2
  rw [l0]
  have hb7 : (G2.set (p + 6) (.row [.int .i64 T.length,so] T_bitset_Set true)).blk (p + 7) = some (.row [.int .i64 0,.slice none 0 0] T_bitset_Set true):=by rw [AH.set_blk_ne (by omega)]; exact b7'
  obtain ⟨H4,hH4⟩ : ∃ H4,H4 = (G2.set (p + 6) (.row [.int .i64 T.length,so] T_bitset_Set true)).set (p + 7) (.row [.int .i64 T.length,sm] T_bitset_Set true):=⟨_,rfl⟩
  have w4 : WF H4:=by rw [hH4]; exact (wG2.set (by omega)).set (by show p + 7 < G2.next; omega)
  have n4 : H4.next = G2.next:=by rw [hH4]; rfl
  have k14 : Keep [] H1 H4:=by rw [hH4]; exact .new_set (by omega) (.new_set (by omega) (kb.trans' kG))
  have f4 : ∀ b,b ≠ p + 6 ∧ b ≠ p + 7 → H4.blk b = G2.blk b:=fun b hb => by rw [hH4,AH.set_blk_ne hb.2,AH.set_blk_ne hb.1]
  have s6 : SetIn (fun b => b ≠ p + 6 ∧ b ≠ p + 7) H4 (p + 6) (onceB L T 0):=⟨so,by rw [l1,hH4,AH.set_blk_ne (by omega)]; exact AH.set_blk_same,by rw [l1]; exact setB_over (r1'.up2 (fun b hb => ⟨by omega,by omega⟩) .refl) f4⟩
  have s7 : SetIn (fun b => b ≠ p + 6 ∧ b ≠ p + 7) H4 (p + 7) (moreB L T 0):=⟨sm,by rw [l2,hH4]; exact AH.set_blk_same,by rw [l2]; exact setB_over (r2.up2 (fun b hb => ⟨by omega,by omega⟩) .refl) f4⟩
  have c4:=cells_kept w1 k14 c1
  have hL4:=hL1.kept w1 k14
  have hs4:=hs1.kept' w1 k14
  have cG2:=cells_kept w1 (kb.trans' kG) c1
  simp (disch:=omega) [-getElem?_pos,if_pos,if_neg,decide_eq_true,decide_eq_false,writeA_row b6',writeA_row hb7,over,r1'.one.1,r1'.one.2,r2.one.1,r2.one.2,cG2,cut2v]
  rw [← hH4]
  refine (lacking_spec (hs4.up2 (fun b hb => by omega) .refl) (hL4.mono fun b hb => by omega) hD hl hel).mono' fun u H5 w5 ⟨hH5,k5⟩ => ?_
  have n5:=k5.next
  have hll : (lksB L T).length = L.length:=by simp [lksB]
  obtain ⟨ha,hc,rfl⟩:=hH5.slice
  have s6' : SetIn (fun b => b ≠ p + 6 ∧ b ≠ p + 7) H5 (p + 6) (onceB L T 0):=let ⟨x,y,z⟩:=s6; ⟨x,(k5.blk _ (by omega) (by simp)).trans y,z.kept' w4 k5⟩
  have s7' : SetIn (fun b => b ≠ p + 6 ∧ b ≠ p + 7) H5 (p + 7) (moreB L T 0):=let ⟨x,y,z⟩:=s7; ⟨x,(k5.blk _ (by omega) (by simp)).trans y,z.kept' w4 k5⟩
  simp (disch:=omega) [-getElem?_pos,if_pos,if_neg,decide_eq_true,decide_eq_false,]
  refine wpC_use (ess_l1 (H1:=H5) (p5:=p + 6) (p6:=p + 7) (hv:=.slice ha (lksB L T).length hc) (L:=L) (T:=T) (by omega) (by omega) (by omega) w5 (hH5.mono fun b hb => by omega) hl ?_) ?_
  ·exact ⟨by simp,by simp,by simp,by simp [hll],by simp,w5,.refl,s6',s7'⟩
  rintro x env2 H6 ⟨rfl,f6,w6,k6,s76⟩ hu
  have u7:=hu 7 (by decide)
  simp at u7
  have n6:=k6.next
  simp (disch:=omega) [-getElem?_pos,if_pos,if_neg,decide_eq_true,decide_eq_false,u7,f6]
  have hH6 : SlV (fun b => b ≠ p + 6 ∧ b ≠ p + 7) H6 (.slice ha (lksB L T).length hc) (lksB L T):=(hH5.mono (q:=fun b => b ≠ p + 6 ∧ b ≠ p + 7) fun b hb => by omega).sub (.keep w5 k6 fun b hb hc => by simp at hb; omega)
  refine wpC_use (ess_l0 (H1:=H6) (p6:=p + 7) (hv:=.slice ha (lksB L T).length hc) (L:=L) (T:=T) w6 hH6 s76 hl ?_) ?_
  ·exact ⟨by simp [f6],by simp,by simp [hll],by simp,w6,.refl,.slice none 0 0,[],by simp,.nil,by simp⟩
  rintro x env3 H7 ⟨rfl,w7,k7,a,S,g10,hA,hS⟩ _
  have hAn:=hA.lt w7
  have n7:=k7.next
  have hsl:=selK_len (essB L T) L.length
  simp (disch:=omega) [-getElem?_pos,if_pos,if_neg,decide_eq_true,decide_eq_false,g10]
  refine ⟨hA.slv (fun _ h => h.elim) (fun c hc => ⟨by have:=hS c hc; omega,hAn c hc⟩) (by omega),by omega,fun b hb _ => ?_⟩
  rw [k7.blk b (by omega) (by simp),k6.blk b (by omega) (by simp; omega),k5.blk b (by omega) (by simp),k14.blk b (by omega) (by simp),k1.blk b hb (by simp)]
end Go.Proofs.YtejifalflkbekaaDoor
