/-
  package dual: the missing elements that each set has (2).
-/
import Derived.Test.YtejifalflkbekaaDoorDs18
set_option maxRecDepth 100000
set_option linter.unusedSimpArgs false
set_option linter.unusedVariables false
namespace Go.Proofs.YtejifalflkbekaaDoor
open Go Go.Abs Go.Proofs.YtejifalflkbekaaDoor.Bs
open Go.Abs.Ren (R)
def RBk (m : Nat) (H' : AH) (S : List Nat) : Nat → Prop:=fun b => m ≤ b ∧ b < H'.next ∧ b ∉ S
def lksB (L : List SetD) (T : List Bool) : List BsD:=L.map fun s => ⟨lkB T s⟩
def LkaI (H1 : AH) (r : Nat) (lv : Value) (L : List SetD) (T : List Bool) (k : Nat) (env : Env) (H' : AH) : Prop :=
 env 2 = some (.pointer (some ⟨r,0,none⟩)) ∧ env 11 = some lv ∧ env 12 = some (.int .i64 L.length) ∧ env 13 = some (.int .i64 k) ∧ WF H' ∧ Keep [] H1 H' ∧ ∃ a S,env 5 = some a ∧ OwnL (RBk H1.next H' S) H' T_bitset_Set a ((lksB L T).take k) S ∧ ∀ c ∈ S,H1.next ≤ c
def LkaQ (H1 : AH) (L : List SetD) (T : List Bool) (x : AExit) (env : Env) (H' : AH) : Prop:=x = .exit 0 ∧ WF H' ∧ Keep [] H1 H' ∧ ∃ a S,env 5 = some a ∧ OwnL (RBk H1.next H' S) H' T_bitset_Set a (lksB L T) S ∧ ∀ c ∈ S,H1.next ≤ c
theorem lacking_l1 {p : Nat → Prop} {H1 : AH} {r n : Nat} {lv sl : Value} {L : List SetD} {T : List Bool} (hw : WF H1) (hr : H1.cells r = some [.int .i64 T.length,sl]) (hs : SetB (fun b => b < H1.next) H1 (.agg #[.int .i64 T.length,sl]) T) (hL : SlV (fun b => b < H1.next) H1 lv L) (hD : DOk n L) (hl : L.length ≤ 30) (hel : ∀ s ∈ L,s.elems.length ≤ 30) {env : Env} (h : LkaI H1 r lv L T 0 env H1) :
  wpC Tryd.prog 40 (.loop ir_dual_lacking_l1) (LkaQ H1 L T) env H1:=by
 refine loop_upto L.length (LkaI H1 r lv L T) (Q:=LkaQ H1 L T) h ?_
 rintro k env H' hk ⟨e2,e11,e12,e13,w',k',a,S,e5,hA,hS⟩
 have hn':=k'.next
 by_cases hkn : k < L.length
 ·have hL':=hL.kept hw k'
  obtain ⟨b0,off,sp,cap,cs,rfl,q1,q2⟩:=sets_rd hL' (by omega)
  obtain ⟨ev,q3,q4,q5,q6,q7⟩:=q2 k hkn
  have hbe:=hel L[k] (List.getElem_mem hkn)
  have hin:=rises_mem (hD.rise L[k] (List.getElem_mem hkn))
  have hkl : k < (lksB L T).length:=by simp [lksB]; exact hkn
  have htk : (lksB L T).take (k + 1) = (lksB L T).take k ++ [⟨lkB T L[k]⟩]:=by
   rw [List.take_succ_eq_append_getElem hkl]; simp [lksB]
  have htl : ((lksB L T).take k).length = k:=by rw [List.length_take]; omega
  have hcE:=q7.cell
  obtain ⟨H2,hH2⟩ : ∃ H2,H2 = H'.alloc (.row [.int .i64 L[k].cost,ev] T_inst_Set true):=⟨_,rfl⟩
  have k2 : Keep [] H' H2:=by rw [hH2]; exact .alloc
  have w2 : WF H2:=by rw [hH2]; exact w'.alloc
  have n2 : H2.next = H'.next + 1:=by rw [hH2]; rfl
  have c2 : H2.cells H'.next = some [.int .i64 L[k].cost,ev]:=by rw [hH2]; exact AH.cells_alloc_new
  have k12:=k'.trans' k2
  have hr':=cells_kept hw k' hr
  have hrn:=eq_false (Nat.ne_of_lt (cells_lt w' hr'))
  have hr2:=cells_kept hw k12 hr
  have hs2:=hs.kept' hw k12
  have hone:=hs.one
  simp (disch:=omega) [-getElem?_pos,if_pos,if_neg,decide_eq_true,decide_eq_false,ir_dual_lacking_l1,e2,e5,e11,e12,e13,q1,q3,hkn,writeA,over,cut2v,hrn,hr']
  rw [← hH2]
  refine (Less_spec hs2 hs2).mono' fun u H3 w3 ⟨hs3,k3⟩ => ?_
  rw [self_less,← lkT_nil] at hs3
  have hlen0 : (lkT T []).length = T.length:=mapB_len
  obtain ⟨s3,rfl⟩:=setV hs3
  rw [hlen0] at hs3
  have n3:=k3.next
  have c3:=cells_kept w2 k3 c2
  rw [hlen0]
  simp (disch:=omega) [-getElem?_pos,if_pos,if_neg,decide_eq_true,decide_eq_false,hs3.one.1,hs3.one.2,c3]
  obtain ⟨H4,hH4⟩ : ∃ H4,H4 = H3.alloc (.row [.int .i64 T.length,s3] T_bitset_Set true):=⟨_,rfl⟩
  have k4 : Keep [] H3 H4:=by rw [hH4]; exact .alloc
  have w4 : WF H4:=by rw [hH4]; exact w3.alloc
  have n4 : H4.next = H3.next + 1:=by rw [hH4]; rfl
  have b4 : H4.blk H3.next = some (.row [.int .i64 T.length,s3] T_bitset_Set true):=by rw [hH4]; exact AH.alloc_blk_new
  have k34:=k3.trans' k4
  have k14:=k12.trans' k34
  have hset4 : SetIn (fun b => H2.next ≤ b ∧ b ≠ H3.next) H4 H3.next (lkT T (L[k].elems.take 0)):=by
   rw [List.take_zero]
   refine ⟨s3,by rw [hlen0]; exact b4,?_⟩
   rw [hlen0]
   exact (setB_old w3 hs3).up2 (fun b hb => ⟨hb.1,by omega⟩) (.kept w3 k4)
  have hE4 : SlV (fun b => b ≠ H3.next) H4 ev L[k].elems:=((q7.kept w' k2).kept w2 k34).mono fun b hb => by omega
  obtain ⟨ea,ec,rfl⟩:=q7.slice
  simp (disch:=omega) [-getElem?_pos,if_pos,if_neg,decide_eq_true,decide_eq_false,writeA,over,hs3.one.1,hs3.one.2,hcE.1,hcE.2,c3]
  rw [← hH4]
  refine wpC_use (lacking_l0 (p:=fun _ => True) (H1:=H4) (n0:=H2.next) (r:=r) (q:=H3.next) (ev:=.slice ea L[k].elems.length ec) (sl:=sl) (T:=T) (E:=L[k].elems) (by omega) (by omega) (by have:=cells_lt hw hr; omega) w4 (cells_kept hw k14 hr) ((hs.kept' hw k14).up2 (fun b hb => by omega) .refl) hE4 (by omega) (fun e he => by have:=(hin e he).1; omega) ?_) ?_
  ·exact ⟨by simp [e2],by simp,by simp,by simp,by simp,w4,.refl,hset4⟩
  rintro x env2 H5 ⟨rfl,f8,w5,k5,s5,b5,hs5⟩ hu
  have u2:=hu 2 (by decide)
  have u5:=hu 5 (by decide)
  have u11:=hu 11 (by decide)
  have u12:=hu 12 (by decide)
  have u13:=hu 13 (by decide)
  simp [e2,e5,e11,e12,e13] at u2 u5 u11 u12 u13
  clear hu
  have n5:=k5.next
  rw [lkT_all] at hs5 b5
  have hlB : (lkB T L[k]).length = T.length:=lkB_len
  have k25 : Keep [] H' H5:=(k2.trans' k34).trans k5 fun b hb hlt => by simp at hb; omega
  have hAn:=hA.lt w'
  obtain ⟨aa,ac,rfl⟩:=hA.slice
  have hA5:=hA.kept w' k25
  obtain ⟨va,vc,H6,S',p1,hA',kd,wd,i1⟩:=hA5.push (q:=fun b => RBk H1.next H' S b ∨ (H'.next ≤ b ∧ b < H5.next)) w5 (cs:=[.int .i64 T.length,s5]) (a:=⟨lkB T L[k]⟩) ⟨s5,by rw [hlB],(setB_old w5 hs5).up2 (fun b hb => .inr ⟨by omega,hb.2⟩) .refl⟩ T_bitset_Set 32 (fun b hb => .inl hb)
   (fun b hb => by rcases hb with hb | hb; have:=hb.2.1; omega; exact hb.2) (fun b hb hc => by rcases hc with hc | hc; exact hc.2.2 hb; have:=hAn b hb; omega) (by omega) (by omega)
  simp only [sz_bs] at p1
  rw [htl] at p1 hA'
  have hs5c:=hs5.one
  rw [hlB] at b5
  have c5:=AH.cells_of b5
  have pE : elemsA (H5.alloc (.row [.int .i64 T.length,s5] T_bitset_Set true)) 2 (.slice (some ⟨H5.next,0,none⟩) 1 1) = some [.int .i64 T.length,s5]:=by
   have hc : (H5.alloc (.row [.int .i64 T.length,s5] T_bitset_Set true)).cells H5.next = some [.int .i64 T.length,s5]:=AH.cells_alloc_new
   simp [elemsA,hc,cut]
  have hS' : ∀ c ∈ S',H1.next ≤ c:=fun c hc => by
   rcases i1 c hc with h | h
   ·exact hS c h
   ·omega
  have n6:=kd.next
  have hA'n:=hA'.lt wd
  simp (disch:=omega) [-getElem?_pos,if_pos,if_neg,decide_eq_true,decide_eq_false,u5,f8,c5,cut2v,hs5c.1,hs5c.2,pE,p1,u13,hkn,IntWalk.i64_in]
  refine ⟨by simp [u2],by simp [u11],by simp [u12],by simp,wd,(k'.trans' k25).trans kd (fun c hc hlt => by have:=hS c hc; omega),_,S',by simp; rfl,?_,hS'⟩
  rw [htk]
  rw [show ((lksB L T).take k ++ [(⟨lkB T L[k]⟩ : BsD)]) = (lksB L T).take k ++ [⟨lkB T L[k]⟩] from rfl]
  refine hA'.up (fun b hb => ?_) .refl (fun _ _ => rfl) (fun b hb h => h.2.2 hb)
  rcases hb with hb | hb
  ·refine ⟨hb.1,by have:=hb.2.1; omega,fun hc => ?_⟩
   rcases i1 b hc with h | h
   ·exact hb.2.2 h
   ·have:=hb.2.1; omega
  ·refine ⟨by omega,by omega,fun hc => ?_⟩
   rcases i1 b hc with h | h
   ·have:=hAn b h; omega
   ·omega
 ·obtain rfl : k = L.length:=by omega
  rw [List.take_of_length_le (by simp [lksB])] at hA
  simp (disch:=omega) [-getElem?_pos,if_pos,if_neg,decide_eq_true,decide_eq_false,ir_dual_lacking_l1,e12,e13]
  exact ⟨rfl,w',k',a,S,e5,hA,hS⟩
theorem lacking_spec {H : AH} {n : Nat} {sv lv : Value} {L : List SetD} {T : List Bool} (hs : SetB (fun b => b < H.next) H sv T) (hL : SlV (fun b => b < H.next) H lv L) (hD : DOk n L) (hl : L.length ≤ 30) (hel : ∀ s ∈ L,s.elems.length ≤ 30) : AFn Tryd.prog F_dual_lacking [sv,lv] H fun u H' => SlV (fun b => H.next ≤ b ∧ b < H'.next) H' u (lksB L T) ∧ Keep [] H H':=by
 obtain ⟨sl,rfl⟩:=setV hs
 obtain ⟨la,lc,rfl⟩:=hL.slice
 refine AFn.enter mixed ir_dual_lacking_eq (by simp [ir_dual_lacking]) fun hw => ?_
 obtain ⟨H1,hH1⟩ : ∃ H1,H1 = H.alloc (.row [.int .i64 T.length,sl] T_bitset_Set true):=⟨_,rfl⟩
 have k1 : Keep [] H H1:=by rw [hH1]; exact .alloc
 have w1 : WF H1:=by rw [hH1]; exact hw.alloc
 have n1 : H1.next = H.next + 1:=by rw [hH1]; rfl
 have c1 : H1.cells H.next = some [.int .i64 T.length,sl]:=by rw [hH1]; exact AH.cells_alloc_new
 simp (disch:=omega) [-getElem?_pos,if_pos,if_neg,decide_eq_true,decide_eq_false,ir_dual_lacking,hs.one.1,hs.one.2,cut2v]
 rw [← hH1]
 refine wpC_use (lacking_l1 (p:=fun _ => True) (H1:=H1) (r:=H.next) (lv:=.slice la L.length lc) (sl:=sl) (T:=T) w1 c1 (hs.up2 (fun b hb => by omega) (.kept hw k1)) ((hL.kept hw k1).mono fun b hb => by omega) hD hl hel ?_) ?_
 ·exact ⟨by simp,by simp,by simp,by simp,w1,.refl,.slice none 0 0,[],by simp,.nil,by simp⟩
 rintro x env2 H2 ⟨rfl,w2,k2,a,S,f5,hA,hS⟩ _
 have hAn:=hA.lt w2
 have n2:=k2.next
 have hll : (lksB L T).length = L.length:=by simp [lksB]
 simp (disch:=omega) [-getElem?_pos,if_pos,if_neg,decide_eq_true,decide_eq_false,f5]
 exact ⟨hA.slv (fun b hb => ⟨by have:=hb.1; omega,hb.2.1⟩) (fun c hc => ⟨by have:=hS c hc; omega,hAn c hc⟩) (by omega),k1.trans' k2⟩
end Go.Proofs.YtejifalflkbekaaDoor
